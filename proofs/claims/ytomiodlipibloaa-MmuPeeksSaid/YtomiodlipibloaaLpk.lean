/- A byte peeked at is a byte loaded; a number got is the number loaded. -/
import Derived.Test.YtomiodlipibloaaFT
namespace Go.Proofs.Ytomiodlipibloaa.F
set_option linter.unusedVariables false
set_option linter.unusedSimpArgs false
set_option maxHeartbeats 2000000
set_option maxRecDepth 20000
open Go.RowKit
section
variable (w : World) (ao : Option Addr) (b : List Int) (c : Nat) (T : Tab) (va n : Int) (user : Bool)
theorem peeks_far (h : 8192 < b.length ∨ n < 0 ∨ 4 < n) : Calls Try.prog 6 #[.slice ao b.length c, .agg T.cells, .int .u32 va, .bool user, .int .i64 n] w fun e w' => e = .returned (.bool true) ∧ Upd (fun _ => False) w w' := by
  have K0 := Lib.hid (alive05 (w.alloc (.cells T.cells 25)))
  have HU0 := Lib.hid ((Upd.refl (fun _ => False) w).alloc (.cells T.cells 25))
  obtain ⟨ta, tb, tc, td, te⟩ := T
  simp only [Tab.cells] at *
  by_cases h1 : 8192 < b.length
  · have h1' : (8192 : Int) < b.length := by omega
    clear h
    go_enter Try.func6, Try.ntmps6
    go_wp2_with fail
    refine (K0.out).mono ?_; rintro e w1 ⟨rfl, hu⟩; have HU1 := Lib.hid (HU0.out.then hu); clear hu
    go_wp2_with fail
    go_ret
    exact ⟨rfl, HU1.out⟩
  · have h1' : (b.length : Int) ≤ 8192 := by omega
    by_cases h2 : n < 0
    · clear h
      go_enter Try.func6, Try.ntmps6
      go_wp2_with fail
      refine (K0.out).mono ?_; rintro e w1 ⟨rfl, hu⟩; have HU1 := Lib.hid (HU0.out.then hu); clear hu
      go_wp2_with fail
      go_ret
      exact ⟨rfl, HU1.out⟩
    · have h3 : 4 < n := by omega
      have h2' : 0 ≤ n := by omega
      clear h h2 h1
      go_enter Try.func6, Try.ntmps6
      go_wp2_with fail
      refine (K0.out).mono ?_; rintro e w1 ⟨rfl, hu⟩; have HU1 := Lib.hid (HU0.out.then hu); clear hu
      go_wp2_with fail
      go_ret
      exact ⟨rfl, HU1.out⟩
theorem peeks_any (hb : RdB w ao b) (hbb : Byt b) (hl : b.length ≤ 8192) (hT : T.Fit) (h0 : 0 ≤ va) (h1 : va < 4294967296) (hn : 0 ≤ n) (hn4 : n ≤ 4) :
    Calls Try.prog 6 #[.slice ao b.length c, .agg T.cells, .int .u32 va, .bool user, .int .i64 n] w fun e w' => e = .returned (.bool true) ∧ Upd (fun _ => False) w w' := by
  have HT25 := Lib.hid (Blk.new w T.cells 25)
  have HU0 := Lib.hid ((Upd.refl (fun _ => False) w).alloc (.cells T.cells 25))
  have hb' := hb.upd HU0.out
  have K0 := Lib.hid (alive05 (w.alloc (.cells T.cells 25)))
  have K1 := Lib.hid (st_new (w.alloc (.cells T.cells 25)) b.length (by omega))
  have K2 := Lib.hid (st_load (w.alloc (.cells T.cells 25)) ao b c hb' hbb (by omega))
  have K3 := Lib.hid (st_mmu (w.alloc (.cells T.cells 25)) b)
  have K4 := Lib.hid (st_set (w.alloc (.cells T.cells 25)) b T0 T hT)
  have K5 := Lib.hid (st_peek (w.alloc (.cells T.cells 25)) b [] T va user h0 h1)
  have K6 := Lib.hid (st_buffered (w.alloc (.cells T.cells 25)) b [] T)
  have K7 := Lib.hid (st_mload (w.alloc (.cells T.cells 25)) b [] T va user 1 h0 h1 (by omega))
  generalize hs1 : (pcs b T user false true (1 : Int).toNat va (1 : Int).toNat []).2.2 = s1 at *
  have K8 := Lib.hid (st_get (w.alloc (.cells T.cells 25)) b s1 T va user n h0 h1 (by omega) (by omega))
  generalize hs2 : (getnF b s1 T va n user).2.2 = s2 at *
  have K9 := Lib.hid (st_mload (w.alloc (.cells T.cells 25)) b s2 T va user n h0 h1 (by omega))
  generalize hs3 : (pcs b T user false true n.toNat va n.toNat s2).2.2 = s3 at *
  have K10 := Lib.hid (st_probe (w.alloc (.cells T.cells 25)) b s3 T va user false n h0 h1 (by omega))
  have hz : sizeF n = n := by unfold sizeF; rw [if_neg (by omega), if_neg (by omega)]
  have c1 : Coh b T s1 := by rw [← hs1]; exact (pcs_mem b T user false true true _ _ va [] [] (coh_nil b T) (coh_nil b T) h0 h1).2.2
  have c2 : Coh b T s2 := by rw [← hs2]; unfold getnF; exact (pcs_mem b T user false true true _ _ va s1 s1 c1 c1 h0 h1).2.2
  have c3 : Coh b T s3 := by rw [← hs3]; exact (pcs_mem b T user false true true _ _ va s2 s2 c2 c2 h0 h1).2.2
  have e1 : (getnF b s1 T va n user).1 = (pcs b T user false true n.toNat va n.toNat []).1 ∧ (getnF b s1 T va n user).2.1 = (pcs b T user false true n.toNat va n.toNat []).2.1 := by
    unfold getnF
    rw [hz]
    have := pcs_mem b T user false true true n.toNat n.toNat va s1 [] c1 (coh_nil b T) h0 h1
    exact ⟨this.1, this.2.1⟩
  have e2 := pcs_mem b T user false true true n.toNat n.toNat va s2 [] c2 (coh_nil b T) h0 h1
  have e3 := pcs_mem b T user false true true n.toNat n.toNat va s3 [] c3 (coh_nil b T) h0 h1
  rw [e1.1, e1.2] at K8
  rw [e2.1, e2.2.1] at K9
  rw [e3.2.1] at K10
  have hpl := peek_load b T va user hbb h0 h1
  rw [show (1 : Int).toNat = 1 from rfl] at K7
  have hlen : (loadF b (pcs b T user false true n.toNat va n.toNat []).1).length ≤ 4 := by
    have h1 := loadF_len b (pcs b T user false true n.toNat va n.toNat []).1
    have h2 := pcs_tot b T user false true n.toNat n.toNat va []
    omega
  have hby := loadF_byt b hbb (pcs b T user false true n.toNat va n.toNat []).1
  rw [← hpl.1] at K7
  have hpl2 := hpl.2
  clear hs1 hs2 hs3 c1 c2 c3 e1 e2 e3 hpl hz
  generalize pcs b T user false true n.toNat va n.toNat [] = R at *
  generalize pcs b T user false true 1 va 1 [] = R1 at *
  generalize peekF b [] T va user = R2 at *
  obtain ⟨d, ⟨gk, gv, gi⟩, sx⟩ := R
  obtain ⟨d1, ff1, sx1⟩ := R1
  obtain ⟨px, ⟨fk, fv, fi⟩⟩ := R2
  simp only [Flt.cells] at *
  have KN := Lib.hid (fun W ao c (h : RdB W ao (loadF b d)) => number_fn W (loadF b d) ao c h hby hlen)
  generalize loadF b d = bl at *
  generalize loadF b d1 = bl1 at *
  have hl' : (b.length : Int) ≤ 8192 := by omega
  have HPL := Lib.hid hpl2
  have HT : Hid (T.cells = T.cells) := Lib.hid rfl
  clear hb hb' hbb hl hT hpl2 hlen hby
  obtain ⟨ta, tb, tc, td, te⟩ := T
  simp only [Tab.cells] at *
  go_enter Try.func6, Try.ntmps6
  go_wp2_with fail
  refine (K0.out).mono ?_; rintro e w1 ⟨rfl, hu⟩; have HU1 := Lib.hid hu; clear hu
  go_wp2_with fail
  refine (K1.out _ HU1.out).mono ?_; rintro e w2 ⟨p, g, rfl, hr⟩; have HR2 := Lib.hid hr; clear hr
  go_wp2_with fail
  refine (K2.out _ _ _ HR2.out).mono ?_; rintro e w3 ⟨⟨x3, rfl⟩, hr⟩; have HR3 := Lib.hid hr; clear hr
  go_wp2_with fail
  refine (K3.out _ _ _ HR3.out).mono ?_; rintro e w4 ⟨m, t, rfl, hr⟩; have HM4 := Lib.hid hr; clear hr
  have hb4 := HT25.out.upd HM4.out.up id; have c4 := hb4.cell; have l4 := hb4.lt; clear hb4
  go_wp2_with fail
  refine (K4.out _ _ _ _ _ _ _ HM4.out).mono ?_; rintro e w5 ⟨rfl, hr⟩; have HM5 := Lib.hid hr; clear hr
  go_wp2_with fail
  refine (K5.out _ _ _ _ _ _ HM5.out).mono ?_; rintro e w6 ⟨rfl, -, v6, hr⟩; have HM6 := Lib.hid (hr.next ((Upd.refl (fun _ => False) _).alloc (.cells #[.int .i64 fk, .int .u32 fv, .int .u32 fi] 47))); have HB6 := Lib.hid (Blk.new w6 #[.int .i64 fk, .int .u32 fv, .int .u32 fi] 47); clear hr
  go_wp2_with fail
  refine (K6.out _ _ _ _ _ _ HM6.out).mono ?_; rintro e w7 ⟨x7, rfl, ho, -, -, hs, hr⟩
  obtain ⟨a7, c7, rfl, -⟩ := ho.out
  have HM7 := Lib.hid hr; have HB7 := Lib.hid (hs _ _ _ (by decide) (by decide) HB6.out); clear hr hs ho
  simp only [pgs, List.map_nil, List.length_nil] at *
  go_wp2_with fail
  refine (K7.out _ _ _ _ _ _ HM7.out).mono ?_; rintro e w8 ⟨x8, rfl, ho, hs, v8, hr⟩
  have HM8 := Lib.hid (hr.next ((Upd.refl (fun _ => False) _).alloc (.cells #[.int .i64 fk, .int .u32 fv, .int .u32 fi] 47)))
  have hb8 := hs _ _ _ (by decide) (by decide) HB7.out
  have HB8 := Lib.hid (hb8.alloc (.cells #[.int .i64 fk, .int .u32 fv, .int .u32 fi] 47))
  have HC8 := Lib.hid (Blk.new w8 #[.int .i64 fk, .int .u32 fv, .int .u32 fi] 47)
  obtain ⟨a8, c8, rfl, hr8, -⟩ := ownB_row ho
  have HR8 := Lib.hid hr8
  have d1 := hb8.cell
  have d2 := hb8.lt
  clear hr hs ho hb8 hr8
  by_cases hf : fk = 0
  · have hbl : bl1 = [px] := HPL.out hf
    subst hbl
    subst hf
    obtain ⟨bb, bo, rfl, hbl2, hbc⟩ := HR8.out 0 (by simp)
    have hbc' : w8.cell? ⟨bb, bo, none⟩ = some (.int .u8 px) := by simpa using hbc
    simp only [List.length_cons, List.length_nil] at *
    go_wp2_with fail
    refine (K8.out _ _ _ _ _ _ HM8.out).mono ?_; rintro e w9 ⟨rfl, hs, v9, hr⟩
    have HM9 := Lib.hid (hr.next ((Upd.refl (fun _ => False) _).alloc (.cells #[.int .i64 gk, .int .u32 gv, .int .u32 gi] 47)))
    have HC9 := Lib.hid (Blk.new w9 #[.int .i64 gk, .int .u32 gv, .int .u32 gi] 47)
    clear hr hs
    go_wp2_with fail
    refine (K9.out _ _ _ _ _ _ HM9.out).mono ?_; rintro e w10 ⟨x10, rfl, ho, hs, v10, hr⟩
    have HM10 := Lib.hid (hr.next ((Upd.refl (fun _ => False) _).alloc (.cells #[.int .i64 gk, .int .u32 gv, .int .u32 gi] 47)))
    have hb10 := hs _ _ _ (by decide) (by decide) HC9.out
    have HB10 := Lib.hid (hb10.alloc (.cells #[.int .i64 gk, .int .u32 gv, .int .u32 gi] 47))
    have HC10 := Lib.hid (Blk.new w10 #[.int .i64 gk, .int .u32 gv, .int .u32 gi] 47)
    have HO10 := Lib.hid (own_alloc ho (.cells #[.int .i64 gk, .int .u32 gv, .int .u32 gi] 47))
    obtain ⟨a10, c10, rfl, -⟩ := ownB_row ho
    have d1 := hb10.cell
    have d2 := hb10.lt
    clear hr hs ho hb10
    go_wp2_with fail
    have f1 := HB10.out.cell
    have f2 := HB10.out.lt
    have g1 := HC10.out.cell
    have g2 := HC10.out.lt
    go_region_held3 (fun w' => (∀ j, w'.cell? ⟨w9.heap.size, j, none⟩ = (#[.int .i64 gk, .int .u32 gv, .int .u32 gi] : Array Value)[j]?) ∧ (∀ j, w'.cell? ⟨w10.heap.size, j, none⟩ = (#[.int .i64 gk, .int .u32 gv, .int .u32 gi] : Array Value)[j]?)) (go_keep)
      (first
      | (go_at_call 35
         refine (K10.out _ _ _ _ _ _ (HM10.out.next (Upd.refl _ _).drew)).mono ?_
         rintro e w11 ⟨rfl, hs, -, v11, hr⟩
         have HU11 := Lib.hid hr.up
         have hb11 := hs _ _ _ (by decide) (by decide) HB10.out
         have hc11 := hs _ _ _ (by decide) (by decide) HC10.out
         have HO11 := Lib.hid (Stay.own hs HO10.out)
         have k1 := hb11.cell
         have k2 := hb11.lt
         have k3 := hc11.cell
         have k4 := hc11.lt
         clear hr hs hb11 hc11)
      | (go_at_call 36
         obtain ⟨ax, cx, hx, hrx, -⟩ := ownB_row HO11.out
         cases hx
         refine (KN.out _ _ _ hrx).mono ?_
         rintro e w12 ⟨rfl, rfl⟩
         clear hrx))
    go_wp2_with fail
    go_ret
    exact ⟨rfl, ((Upd.refl (fun _ => False) w).alloc _).then HU11.out⟩
  · go_wp2_with fail
    refine (K8.out _ _ _ _ _ _ HM8.out).mono ?_; rintro e w9 ⟨rfl, hs, v9, hr⟩
    have HM9 := Lib.hid (hr.next ((Upd.refl (fun _ => False) _).alloc (.cells #[.int .i64 gk, .int .u32 gv, .int .u32 gi] 47)))
    have HC9 := Lib.hid (Blk.new w9 #[.int .i64 gk, .int .u32 gv, .int .u32 gi] 47)
    clear hr hs
    go_wp2_with fail
    refine (K9.out _ _ _ _ _ _ HM9.out).mono ?_; rintro e w10 ⟨x10, rfl, ho, hs, v10, hr⟩
    have HM10 := Lib.hid (hr.next ((Upd.refl (fun _ => False) _).alloc (.cells #[.int .i64 gk, .int .u32 gv, .int .u32 gi] 47)))
    have hb10 := hs _ _ _ (by decide) (by decide) HC9.out
    have HB10 := Lib.hid (hb10.alloc (.cells #[.int .i64 gk, .int .u32 gv, .int .u32 gi] 47))
    have HC10 := Lib.hid (Blk.new w10 #[.int .i64 gk, .int .u32 gv, .int .u32 gi] 47)
    have HO10 := Lib.hid (own_alloc ho (.cells #[.int .i64 gk, .int .u32 gv, .int .u32 gi] 47))
    obtain ⟨a10, c10, rfl, -⟩ := ownB_row ho
    have d1 := hb10.cell
    have d2 := hb10.lt
    clear hr hs ho hb10
    go_wp2_with fail
    have f1 := HB10.out.cell
    have f2 := HB10.out.lt
    have g1 := HC10.out.cell
    have g2 := HC10.out.lt
    go_region_held3 (fun w' => (∀ j, w'.cell? ⟨w9.heap.size, j, none⟩ = (#[.int .i64 gk, .int .u32 gv, .int .u32 gi] : Array Value)[j]?) ∧ (∀ j, w'.cell? ⟨w10.heap.size, j, none⟩ = (#[.int .i64 gk, .int .u32 gv, .int .u32 gi] : Array Value)[j]?)) (go_keep)
      (first
      | (go_at_call 35
         refine (K10.out _ _ _ _ _ _ (HM10.out.next (Upd.refl _ _).drew)).mono ?_
         rintro e w11 ⟨rfl, hs, -, v11, hr⟩
         have HU11 := Lib.hid hr.up
         have hb11 := hs _ _ _ (by decide) (by decide) HB10.out
         have hc11 := hs _ _ _ (by decide) (by decide) HC10.out
         have HO11 := Lib.hid (Stay.own hs HO10.out)
         have k1 := hb11.cell
         have k2 := hb11.lt
         have k3 := hc11.cell
         have k4 := hc11.lt
         clear hr hs hb11 hc11)
      | (go_at_call 36
         obtain ⟨ax, cx, hx, hrx, -⟩ := ownB_row HO11.out
         cases hx
         refine (KN.out _ _ _ hrx).mono ?_
         rintro e w12 ⟨rfl, rfl⟩
         clear hrx))
    go_wp2_with fail
    go_ret
    exact ⟨rfl, ((Upd.refl (fun _ => False) w).alloc _).then HU11.out⟩
end
end Go.Proofs.Ytomiodlipibloaa.F
