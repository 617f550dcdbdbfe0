/- SpecBack's walk. -/
import Derived.Test.YtoocbodkjldlcaaSpO
import Derived.Deep.RegionHeld3
namespace Go.Proofs.Ytoocbodkjldlcaa.Sp
set_option linter.unusedVariables false
set_option linter.unusedSimpArgs false
set_option maxHeartbeats 4000000
set_option maxRecDepth 20000
open Go.RowKit
attribute [local go_sem] Spc.cells
/-- An empty row of one's own, made in a region, perhaps next to another block. -/
theorem nilA (X : World) : OwnB (X.alloc (.cells #[] 5)) X.heap.size (.slice (some ⟨X.heap.size, 0, none⟩) 0 0) [] := OwnB.of_blk (l := []) (Blk.new X _ 5) (Nat.le_refl _) (by simp)
theorem nilB (X : World) (o : Obj) : OwnB ((X.alloc o).alloc (.cells #[] 5)) X.heap.size (.slice (some ⟨X.heap.size + 1, 0, none⟩) 0 0) [] := by
  have := nilA (X.alloc o)
  rw [World.size_alloc] at this
  exact OwnB.low this (by omega)
theorem nilC (X : World) (o : Obj) : OwnB ((X.alloc (.cells #[] 5)).alloc o) X.heap.size (.slice (some ⟨X.heap.size, 0, none⟩) 0 0) [] := (nilA X).upd ((Upd.refl (fun _ => False) _).alloc _) (fun _ _ => id)
theorem bx1 (X : World) : Blk (X.alloc (.cells zs43 43)) X.heap.size zs43 43 := Blk.new X _ _
theorem bx2 (X : World) (o : Obj) : Blk ((X.alloc (.cells zs43 43)).alloc o) X.heap.size zs43 43 := (Blk.new X _ _).alloc o
theorem bx3 (X : World) (o : Obj) : Blk ((X.alloc o).alloc (.cells zs43 43)) (X.heap.size + 1) zs43 43 := by
  have := Blk.new (X.alloc o) zs43 43
  rw [World.size_alloc] at this
  exact this
theorem upE {w2 W w3 : World} {v0 : Value} (hW : Upd (fun _ => False) w2 W) (h0 : ∀ k, OB v0 k → w2.heap.size ≤ k) (up : Upd (OB v0) W w3) : Upd (fun _ => False) w2 w3 := hW.trans up (fun k hk h => by have := h0 k h; omega)
/-- Another block over an append. -/
theorem xb {W w3 : World} {v0 v1 : Value} {g : Nat} (up : Upd (OB v0) W w3) (hv1 : ∀ k, OB v1 k → OB v0 k ∨ W.heap.size ≤ k) (hb : Blk W g zs43 43) (hg : ¬ OB v0 g) : Blk w3 g zs43 43 ∧ ¬ OB v1 g :=
  ⟨hb.upd up hg, fun h => by rcases hv1 g h with h | h; exact hg h; have := hb.lt; omega⟩
theorem notOB (g g' c n : Nat) (h : g ≠ g') : ¬ OB (.slice (some ⟨g, 0, none⟩) n c) g' := fun hh => by
  simp only [OB, Value.ownBlock, Option.some.injEq] at hh; omega
theorem geOB {b g c n : Nat} (h : b ≤ g) : ∀ k, OB (.slice (some ⟨g, 0, none⟩) n c) k → b ≤ k := fun k hh => by
  simp only [OB, Value.ownBlock, Option.some.injEq] at hh; omega
theorem OwnB.ge {w : World} {b : Nat} {v : Value} {l : List Int} (h : OwnB w b v l) : ∀ k, OB v k → b ≤ k := fun k hk => by
  obtain ⟨_, _, _, _, _, hh⟩ := h.slice
  exact (hh k hk).1
theorem OwnB.fresh {w : World} {b : Nat} {v : Value} {l : List Int} (h : OwnB w b v l) : ¬ OB v w.heap.size := fun hk => by
  obtain ⟨_, _, _, _, _, hh⟩ := h.slice
  have := (hh _ hk).2
  omega
theorem cellS {W w' : World} {S : Nat → Prop} (hu : Upd S W w') {g o : Nat} {x : Value} (hs : ¬ S g) (hg : g < W.heap.size) (h : W.cell? ⟨g, o, none⟩ = some x) : w'.cell? ⟨g, o, none⟩ = some x := by
  rw [← h]; exact World.cell?_of_block (hu.block g hg hs)
section
variable (k r i v m acc n : Int) (w : World)
theorem back_long (ao : Option Addr) (l c : Nat) (hl : 256 < l) :
    Calls Try.prog 5 #[.agg (Spc.cells ⟨k, r, i, v, m⟩), .agg #[.int .u8 acc, .int .i64 n], .slice ao l c] w fun e w' => e = .returned (.bool true) ∧ Upd (fun _ => False) w w' := by
  have hl' : (256 : Int) < l := by omega
  go_enter Try.func5, Try.ntmps5
  go_wp2_with (go_at_call 17; refine (alive_any _).mono ?_; rintro e w1 ⟨rfl, hu⟩; have HU := Lib.hid ((((Upd.refl (fun _ => False) w).alloc _).alloc _).then hu); clear hu)
  go_ret
  exact ⟨rfl, HU.out⟩
theorem valueF_v {k r : Int} {a n : Nat} {l : List Int} {t : Spc} (hb : Byt l) (hn : n = 1 ∨ n = 2 ∨ n = 4) (h : valueF k r a n l = (t, 0)) : 0 ≤ t.v ∧ t.v < 4294967296 := by
  unfold valueF at h
  split at h
  · simp at h
  simp at h
  have hbb : Byt ((l.drop a).take n) := fun x hx => hb x (List.mem_of_mem_drop (List.mem_of_mem_take hx))
  have hnb := num_bound hbb
  have hlen : ((l.drop a).take n).length ≤ n := List.length_take_le _ _
  have hz2 : (256 : Int) ^ ((l.drop a).take n).length ≤ 4294967296 := by
    have : ((l.drop a).take n).length ≤ 4 := by omega
    generalize ((l.drop a).take n).length = q at *
    rcases (by omega : q = 0 ∨ q = 1 ∨ q = 2 ∨ q = 3 ∨ q = 4) with rfl | rfl | rfl | rfl | rfl <;> decide
  rw [← h]
  exact ext_bd _ n hn hnb.1 (by omega)
theorem plainF_v {l : List Int} {acc : Int} {n : Nat} {t : Spc} (hb : Byt l) (hl : 0 < l.length) (hn : n = 1 ∨ n = 2 ∨ n = 4) (h : plainF l acc n = (t, 0)) : 0 ≤ t.v ∧ t.v < 4294967296 := by
  obtain ⟨h0, h1⟩ := byt_hd hb hl
  unfold plainF at h
  generalize l.getD 0 0 = c at *
  simp only at h
  split at h
  · split at h
    · simp at h; rw [← h]; simp; omega
    · simp [badS] at h; rw [← h]; simp
  split at h
  · simp [badS] at h; rw [← h]; simp
  split at h
  · split at h
    · exact valueF_v hb hn h
    · simp [badS] at h; rw [← h]; simp
  split at h
  · exact valueF_v hb (by omega) h
  split at h
  · simp at h; rw [← h]; simp
  · refine valueF_v hb ?_ h
    have : ((c / 16 - 10) / 2).toNat ≤ 2 := by omega
    generalize ((c / 16 - 10) / 2).toNat = q at *
    rcases (by omega : q = 0 ∨ q = 1 ∨ q = 2) with rfl | rfl | rfl <;> simp
theorem dec_v (l : List Int) (acc n : Int) (t : Spc) (hb : Byt l) (h : decF l acc n = (t, 0)) : 0 ≤ t.v ∧ t.v < 4294967296 := by
  unfold decF at h
  by_cases hm : msk n = 0
  · rw [if_pos hm] at h; simp at h
  rw [if_neg hm] at h
  obtain ⟨z, rfl, hz⟩ : ∃ z : Nat, n = z ∧ (z = 1 ∨ z = 2 ∨ z = 4) := by
    rcases msk_cases hm with rfl | rfl | rfl
    · exact ⟨1, rfl, by omega⟩
    · exact ⟨2, rfl, by omega⟩
    · exact ⟨4, rfl, by omega⟩
  simp only [Int.toNat_natCast] at h
  split at h
  · simp at h
  split at h
  · exact valueF_v hb hz h
  split at h
  · simp at h
  split at h
  · unfold indexedF at h
    split at h
    · simp [badS] at h; rw [← h]; simp
    split at h
    · simp at h
    split at h
    · simp [badS] at h; rw [← h]; simp
    simp only at h
    split at h
    · rename_i hp
      injection h with h _
      rw [← h]
      have q := plainF_v (l := l.drop 1) (t := (plainF (l.drop 1) acc z).1) (acc := acc) (n := z) (fun x hx => hb x (List.mem_of_mem_drop hx)) (by simp; omega) hz (by rw [← hp])
      exact q
    · exact plainF_v (fun x hx => hb x (List.mem_of_mem_drop hx)) (by simp; omega) hz h
  · exact plainF_v hb (by omega) hz h
theorem enc_byt (s : Spc) (acc n : Int) (code : List Int) (hv : 0 ≤ s.v) (h : encF s acc n = (code, 0)) : Byt code := by
  unfold encF at h
  split at h
  · simp at h
  split at h
  · unfold encB at h
    split at h
    · simp at h; rw [← h]; exact putB_byt _ _ hv
    · simp at h
  split at h
  · simp at h
  rename_i hg
  split at h
  · simp at h
  simp at h
  rw [← h]
  exact code_byt s _ hv (by omega) (by omega) (by omega)
theorem back_any (ao : Option Addr) (l : List Int) (c : Nat) (h : RdB w ao l) (hb : Byt l) (hc : l.length ≤ c) (hn : ao = none → c = 0) (hl : l.length ≤ 256) (hv : 0 ≤ v) (hv2 : v < 4294967296) :
    Calls Try.prog 5 #[.agg (Spc.cells ⟨k, r, i, v, m⟩), .agg #[.int .u8 acc, .int .i64 n], .slice ao l.length c] w fun e w' => e = .returned (.bool true) ∧ Upd (fun _ => False) w w' := by
  have hl' : (l.length : Int) ≤ 256 := by omega
  obtain ⟨code, e0, hE⟩ : ∃ code e0, encF ⟨k, r, i, v, m⟩ acc n = (code, e0) := ⟨_, _, rfl⟩
  have KE : Hid (∀ W, Calls Try.prog 18 #[.agg (Spc.cells ⟨k, r, i, v, m⟩), .agg #[.int .u8 acc, .int .i64 n]] W (Enc W (code, e0))) := Lib.hid fun W => by
    rw [← hE]; exact encode_any ⟨k, r, i, v, m⟩ acc n W hv hv2
  have H := Lib.hid h
  have HNN := Lib.hid hn
  have HB := Lib.hid hb
  have HCC := Lib.hid hc
  have HE := Lib.hid hE
  clear h hb hc hE hn
  unfold Spc.cells at *
  simp only [] at *
  go_enter Try.func5, Try.ntmps5
  go_upto_if 27 with (first
    | (go_at_call 17; refine (alive_any _).mono ?_; rintro e w1 ⟨rfl, hu⟩; obtain ⟨z1, z2, z3⟩ := still hu (BB1 w _ _); obtain ⟨y1, y2, y3⟩ := still hu (BB2 w _ _); have HU := Lib.hid ((((Upd.refl (fun _ => False) w).alloc _).alloc _).then hu); have HB1 := Lib.hid ((BB1 w _ _).upd hu id);  have HB2 := Lib.hid ((BB2 w _ _).upd hu id); clear hu)
    | (go_at_call 18; refine (KE.out _).mono ?_; rintro e w2 ⟨x, rfl, ho, hu⟩; have HO := Lib.hid ho; have HU2 := Lib.hid (HU.out.then hu); have HD1 := Lib.hid (HB1.out.upd hu id); have HD2 := Lib.hid (HB2.out.upd hu id); clear hu ho))
  go_cut [8] from 15 (fun s8 W => Hid (Upd (fun _ => False) w W) ∧ Hid (Blk W (w.heap.size + 1) #[.int .u8 acc, .int .i64 n] 45))
  case first =>
    by_cases he : e0 = 0
    · subst he
      obtain ⟨hl1, hl2⟩ := law1 ⟨k, r, i, v, m⟩ acc n code hv hv2 HE.out
      obtain ⟨⟨xk, xr, xi, xv, xm⟩, hx, hB⟩ := hl1 l
      obtain ⟨cl, hcl⟩ : ∃ cl, code ++ l = cl := ⟨_, rfl⟩
      have HCL := Lib.hid hcl
      have KD : Hid (∀ (ao : Option Addr) (c : Nat) (W : World), RdB W ao cl → cl.length ≤ c → Byt cl → Calls Try.prog 19 #[.slice ao cl.length c, .agg #[.int .u8 acc, .int .i64 n]] W (Ans W (⟨xk, xr, xi, xv, xm⟩, 0))) := Lib.hid fun ao c W h1 h2 h3 => by
        rw [← hx, hcl]; exact decode_any ao cl c acc n W h1 h3 h2
      have HBK := Lib.hid hB
      clear hl1 hx hB hcl
      obtain ⟨xa, xc, rfl, hxc, hxr, hx⟩ := HO.out.slice
      have HX := Lib.hid hxr
      have HN := Lib.hid (OwnB.nonil HO.out)
      have HNL : Hid (ao = none → c = 0) := HNN
      have HBY : Hid (Byt cl) := Lib.hid (by rw [← HCL.out]; intro y hy; rcases List.mem_append.1 hy with hy | hy; exact enc_byt ⟨k, r, i, v, m⟩ acc n code hv HE.out y hy; exact HB.out y hy)
      have a0 := HD2.out.cell 0
      have a1 := HD2.out.cell 1
      simp only [List.getElem?_toArray, List.getElem?_cons_zero, List.getElem?_cons_succ] at a0 a1
      have t2 : w.heap.size + 1 < w2.heap.size := HD2.out.lt
      have n0 := World.new_ne w2 _ a0
      have n00 : w2.heap.size ≠ w.heap.size := by omega
      clear hxc hxr hx
      clear z1 z2 z3 y1 y2 y3 HB1 HB2 HO KE HU
      go_wp2
      go_cut [9, 10] from 28 (fun s9 s10 W => ∃ g : Nat, s9 = .pointer (some ⟨g, 0, none⟩) ∧ s10 = .int .i64 0 ∧ Hid (Blk W g #[.int .i64 xk, .int .i64 xr, .int .i64 xi, .int .u32 xv, .int .i64 xm] 43) ∧ Hid (Upd (fun _ => False) w2 W) ∧ Hid (w2.heap.size ≤ g))
      case first =>
        go_region_held3 (fun w' => w'.cell? ⟨w.heap.size + 1, 0, none⟩ = some (.int .u8 acc) ∧ w'.cell? ⟨w.heap.size + 1, 1, none⟩ = some (.int .i64 n)) (go_keep)
          (first
            | (refine step_appB rfl (.tmp 29) (.tmp 30) rfl (.slice (some ⟨_, 0, none⟩) 0 0) w2.heap.size [] code xa xc rfl rfl HN.out (HX.out.upd (by first | exact ((Upd.refl _ w2).alloc _).drew | exact (((Upd.refl _ w2).alloc _).alloc _).drew)) (by first | exact (nilA w2).drew | exact (nilB w2 _).drew | exact (nilC w2 _).drew) (by first | exact ((Upd.refl (fun _ => False) w2).alloc _).drew.size | exact (((Upd.refl (fun _ => False) w2).alloc _).alloc _).drew.size) (by simp only [List.length_nil]; omega) ?_
               intro v1 w3 own1 up1 hv1
               have HU1 : Hid (Upd (fun _ => False) w2 w3) := Lib.hid (by first | exact upE ((Upd.refl _ w2).alloc _).drew (geOB (Nat.le_refl _)) up1 | exact upE (((Upd.refl _ w2).alloc _).alloc _).drew (geOB (by omega)) up1)
               first
                 | (have HBX := Lib.hid (xb up1 hv1 (bx2 w2 _).drew (notOB _ _ _ _ (by omega))))
                 | (have HBX := Lib.hid (xb up1 hv1 (bx3 w2 _).drew (notOB _ _ _ _ (by omega))))
                 | skip
               have e0 := cellUpd HU1.out (by show w.heap.size + 1 < w2.heap.size; exact t2) a0
               have e1 := cellUpd HU1.out (by show w.heap.size + 1 < w2.heap.size; exact t2) a1
               rw [List.nil_append] at own1
               have HO1 := Lib.hid own1
               have n3 : w3.heap.size ≠ w.heap.size + 1 := by have := HU1.out.size; omega
               clear own1 up1 hv1)
            | (refine step_appB rfl (.tmp 31) (.tmp 32) rfl v1 w2.heap.size code l ao c rfl rfl HNL.out ((H.out.upd HU2.out).upd (by first | exact HU1.out | exact HU1.out.alloc _)) (by first | exact HO1.out | exact HO1.out.upd ((Upd.refl (fun _ => False) _).alloc _) (fun _ _ => id)) (by first | exact HU1.out.size | exact (HU1.out.alloc _).size) (by omega) ?_
               intro v2 w4 own2 up2 hv2
               have HU4 : Hid (Upd (fun _ => False) w2 w4) := Lib.hid (by first | exact upE HU1.out (OwnB.ge HO1.out) up2 | exact upE (HU1.out.alloc _) (OwnB.ge HO1.out) up2)
               first
                 | (have HBX := Lib.hid (xb up2 hv2 HBX.out.1 HBX.out.2))
                 | (have HBX := Lib.hid (xb up2 hv2 (bx1 w3) (OwnB.fresh HO1.out)))
                 | skip
               have e0 := cellUpd HU4.out (by show w.heap.size + 1 < w2.heap.size; exact t2) a0
               have e1 := cellUpd HU4.out (by show w.heap.size + 1 < w2.heap.size; exact t2) a1
               rw [HCL.out] at own2
               have HO2 := Lib.hid own2
               obtain ⟨xa2, xc2, rfl, hc2, hr2, _⟩ := own2.slice
               have HC2 := Lib.hid hc2
               have n4 : w4.heap.size ≠ w.heap.size + 1 := by have := HU4.out.size; omega
               have HR2 := Lib.hid hr2
               clear own2 up2 hv2 hc2 hr2)
            | (go_at_call 19
               refine (KD.out xa2 xc2 _ (by first | exact HR2.out | exact HR2.out.upd ((Upd.refl _ _).alloc _)) HC2.out HBY.out).mono ?_
               rintro e w5 ⟨rfl, hu⟩
               have HU5 : Hid (Upd (fun _ => False) w2 w5) := Lib.hid (by first | exact HU4.out.then hu | exact (HU4.out.alloc _).then hu)
               have e0 := cellUpd HU5.out (by show w.heap.size + 1 < w2.heap.size; exact t2) a0
               have e1 := cellUpd HU5.out (by show w.heap.size + 1 < w2.heap.size; exact t2) a1
               first
                 | (obtain ⟨f1, f2, f3⟩ := still hu HBX.out.1; have HB5 := Lib.hid (HBX.out.1.upd hu id))
                 | (obtain ⟨f1, f2, f3⟩ := still hu (bx1 w4); have HB5 := Lib.hid ((bx1 w4).upd hu id))
                 | skip
               try simp only [zs43] at f1
               have n5 : w5.heap.size ≠ w.heap.size + 1 := by have := HU5.out.size; omega
               clear hu))
        all_goals go_wp2
        all_goals go_meet
        · exact ⟨_, rfl, rfl, Lib.hid (Blk.new w5 _ 43), Lib.hid (HU5.out.alloc _), Lib.hid HU5.out.size⟩
        all_goals
          have hge := HU5.out.size
          have hg3 := HU1.out.size
          have hg4 := HU4.out.size
          refine ⟨_, rfl, rfl, Lib.hid (((((HB5.out.set 0 _).set 1 _).set 2 _).set 3 _).set 4 _), Lib.hid (set5 HU5.out (by omega) _ _ _ _ _), Lib.hid (by omega)⟩
      case rest =>
        obtain ⟨g, rfl, rfl, HBG, HUW, HGE⟩ := hcut
        have hsame : Calls Try.prog 20 #[.agg (Spc.cells ⟨k, r, i, v, m⟩), .agg (Spc.cells ⟨xk, xr, xi, xv, xm⟩)] wc fun e w' => e = .returned (.bool true) ∧ Upd (fun _ => False) wc w' := by
          obtain ⟨h1, h2, h3, h4, h5⟩ := HBK.out
          simp only at h1 h2 h3 h4 h5
          subst h1
          exact same_yes _ _ _ _ _ _ _ _ _ _ h2 h3 h4
        have HS := Lib.hid hsame
        have hxm : xm = code.length := HBK.out.n
        have b1 := fun j => (HD1.out.upd HUW.out id).cell j
        have b2 := fun j => (HBG.out).cell j
        have s1 : w.heap.size < wc.heap.size := (HD1.out.upd HUW.out id).lt
        have s2 : g < wc.heap.size := HBG.out.lt
        subst hxm
        clear hsame a0 a1 n0 n00 t2
        unfold Spc.cells at *
        simp only [] at *
        go_wp2_with (go_at_call 20; refine (HS.out).mono ?_; rintro e w6 ⟨rfl, hu⟩; have d2 := fun j => (HBG.out.upd hu id).cell j; have d3 : g < w6.heap.size := (HBG.out.upd hu id).lt; have HU6 := Lib.hid (HU2.out.then (HUW.out.then hu)); have HE6 := Lib.hid (HD2.out.upd (HUW.out.then hu) id); clear hu)
        go_meet
        exact ⟨Lib.hid HU6.out, Lib.hid HE6.out⟩
    · have he' : (e0 == 0) = false := by simpa using he
      clear he
      go_wp2
      go_meet
      exact ⟨Lib.hid HU2.out, Lib.hid HD2.out⟩
  case rest =>
    obtain ⟨HU3, HB3⟩ := hcut
    obtain ⟨⟨⟨tk, tr, ti, tv, tm⟩, te⟩, hT⟩ : ∃ p, decF l acc n = p := ⟨_, rfl⟩
    have KD : Hid (∀ (W : World), Upd (fun _ => False) wc W → Calls Try.prog 19 #[.slice ao l.length c, .agg #[.int .u8 acc, .int .i64 n]] W (Ans W (⟨tk, tr, ti, tv, tm⟩, te))) := Lib.hid fun W hu => by
      rw [← hT]; exact decode_any ao l c acc n W (H.out.upd (HU3.out.then hu)) HB.out HCC.out
    have c2 : ∀ j, wc.cell? ⟨w.heap.size + 1, j, none⟩ = (#[.int .u8 acc, .int .i64 n] : Array Value)[j]? := fun j => HB3.out.cell j
    have s1 : w.heap.size + 1 < wc.heap.size := HB3.out.lt
    clear z1 z2 z3 y1 y2 y3 HB1 HB2 HO HD1 HD2 HU HU2 KE HE
    by_cases hte : te = 0
    · subst hte
      by_cases hk14 : tk = 14
      · subst hk14
        clear hT
        go_wp2_with (go_at_call 19; refine (KD.out _ (Upd.refl _ _)).mono ?_; rintro e w7 ⟨rfl, hu⟩; have HU7 := Lib.hid (HU3.out.then hu); clear hu)
        go_ret
        exact ⟨rfl, HU7.out.alloc _⟩
      · obtain ⟨d, hd, hdl⟩ := law2 l acc n _ HB.out hT hk14
        obtain ⟨hv0, hv1⟩ := dec_v l acc n _ HB.out hT
        have KE : Hid (∀ W, Calls Try.prog 18 #[.agg (Spc.cells ⟨tk, tr, ti, tv, tm⟩), .agg #[.int .u8 acc, .int .i64 n]] W (Enc W (d, 0))) := Lib.hid fun W => by
          rw [← hd]; exact encode_any ⟨tk, tr, ti, tv, tm⟩ acc n W hv0 hv1
        have hk' : (tk == 14) = false := by simpa using hk14
        have hdl' : (d.length : Int) ≤ tm := hdl
        clear hT hd hdl hv0 hv1 hk14
        unfold Spc.cells at *
        simp only [] at *
        go_wp2_with (first
          | (go_at_call 19; refine (KD.out _ (Upd.refl _ _)).mono ?_; rintro e w7 ⟨rfl, hu⟩; have HU7 := Lib.hid (HU3.out.then hu); have e2 := fun j => (HB3.out.upd hu id).cell j; have e3 : w.heap.size + 1 < w7.heap.size := (HB3.out.upd hu id).lt; clear hu)
          | (go_at_call 18; refine (KE.out _).mono ?_; rintro e w8 ⟨x, rfl, ho, hu⟩; obtain ⟨xa, xc, rfl, hxc, hxr, hx⟩ := ho.slice; have HU8 := Lib.hid ((HU7.out.alloc _).then hu); obtain ⟨g1, g2, g3⟩ := still hu (Blk.new w7 _ 43); clear hu hxc hxr hx ho))
        go_ret
        exact ⟨rfl, HU8.out⟩
    · have hte' : (te != 0) = true := by simpa using hte
      clear hte hT
      go_wp2_with (go_at_call 19; refine (KD.out _ (Upd.refl _ _)).mono ?_; rintro e w7 ⟨rfl, hu⟩; have HU7 := Lib.hid (HU3.out.then hu); clear hu)
      go_ret
      exact ⟨rfl, HU7.out.alloc _⟩
end
end Go.Proofs.Ytoocbodkjldlcaa.Sp
