/- A memory behind tables: made, its tables set, its buffer's pages; a byte peeked at, a number got. -/
import Derived.Test.YtomiodlipibloaaFP
namespace Go.Proofs.Ytomiodlipibloaa.F
set_option linter.unusedVariables false
set_option linter.unusedSimpArgs false
set_option maxHeartbeats 2000000
set_option maxRecDepth 20000
open Go.RowKit
def T0 : Tab := ⟨0, 0, 0, 0, 0⟩
theorem T0_fit : T0.Fit := ⟨⟨by decide, by decide⟩, ⟨by decide, by decide⟩, ⟨by decide, by decide⟩, ⟨by decide, by decide⟩, ⟨by decide, by decide⟩⟩
abbrev nilv : Value := .slice none 0 0
theorem Ram.keep {Ty : TypeId} {w w' : World} {p g : Nat} {l : List Int} (h : Ram Ty w p g l) (hu : Upd (fun _ => False) w w') : Ram Ty w' p g l := h.upd hu id id
section
variable (m p g t : Nat) (v : Value) (l : List Int) (s : Ents) (T : Tab) (va : Int) (user write : Bool) (w : World)
theorem mnew_fn (hR : Ram 102 w p g l) : Calls Try.prog 18 #[.pointer (some ⟨p, 0, none⟩)] w fun e w' => ∃ m t, e = .returned (.pointer (some ⟨m, 0, none⟩)) ∧ Mmu w' m p g t nilv l [] T0 ∧ w.heap.size ≤ m ∧ w.heap.size ≤ t ∧ Upd (fun _ => False) w w' := by
  have HR := Lib.hid hR
  clear hR
  have KT := fun W : World => tnew_any W
  have HKT := Lib.hid KT
  clear KT
  go_enter Try.func18, Try.ntmps18
  go_wp2_with (go_at_call 56; refine (HKT.out _).mono ?_; rintro e w1 ⟨rfl, hT, hu⟩; have HT := Lib.hid hT; have HU := Lib.hid hu; clear hT hu)
  go_ret
  exact ⟨_, _, rfl, ⟨Blk.new w1 _ 107, (HR.out.keep HU.out).keep ((Upd.refl _ _).alloc _), HT.out.upd ((Upd.refl (fun _ => False) _).alloc _) id (fun _ _ => id), T0_fit⟩, HU.out.size, Nat.le_refl _, HU.out.alloc _⟩
def set5 (w : World) (m : Nat) (T' : Tab) : World := (((((w.setCell ⟨m, 2, none⟩ (.int .u32 T'.a)).setCell ⟨m, 3, none⟩ (.int .u32 T'.b)).setCell ⟨m, 4, none⟩ (.int .u32 T'.c)).setCell ⟨m, 5, none⟩ (.int .u32 T'.d)).setCell ⟨m, 6, none⟩ (.int .u32 T'.e)).alloc (.cells T'.cells 25)
theorem set5_upd (T' : Tab) : Upd (fun k => k = m) w (set5 w m T') := ((((((Upd.refl (fun k => k = m) w).setCell (p := ⟨m, 2, none⟩) (.inl rfl) _).setCell (p := ⟨m, 3, none⟩) (.inl rfl) _).setCell (p := ⟨m, 4, none⟩) (.inl rfl) _).setCell (p := ⟨m, 5, none⟩) (.inl rfl) _).setCell (p := ⟨m, 6, none⟩) (.inl rfl) _).alloc _
theorem mset_mid (hM : Mmu w m p g t v l s T) (T' : Tab) (hT' : T'.Fit) : Mmu (set5 w m T') m p g t v l s T' :=
  ⟨(((((hM.head.set 2 _).set 3 _).set 4 _).set 5 _).set 6 _).alloc _,
    hM.ram.upd (set5_upd m w T') (Blk.neT hM.ram.head hM.head (by decide)) (Blk.neT hM.ram.row hM.head (by decide)),
    hM.tlb.upd (set5_upd m w T') (Blk.neT hM.tlb.head hM.head (by decide)) (fun k hk e => own_ne hM.tlb.row hM.head (by decide) (e ▸ hk)), hT'⟩
theorem mset_fn (T' : Tab) (hM : Mmu w m p g t v l s T) (hT' : T'.Fit) : Calls Try.prog 20 #[.pointer (some ⟨m, 0, none⟩), .agg T'.cells] w fun e w' => e = .returned (.tuple #[]) ∧ Mmu w' m p g t nilv l [] T' ∧ Upd (fun k => k = m ∨ k = t) w w' := by
  have HM := Lib.hid hM
  have HT := Lib.hid hT'
  have h0 := hM.head.cell
  have hf := hM.head.frozen
  have hl := hM.head.lt
  have KC := Lib.hid (tclear_any t v s _ (mset_mid m p g t v l s T w hM T' hT').tlb)
  have HE : Hid (∀ w1, (Tlb w1 t nilv [] ∧ Upd (fun k => k = t) (set5 w m T') w1) → Mmu w1 m p g t nilv l [] T' ∧ Upd (fun k => k = m ∨ k = t) w w1) := Lib.hid fun w1 ⟨hT, hu⟩ => by
    have hm := mset_mid m p g t v l s T w hM T' hT'
    refine ⟨hm.keep hu (fun k _ e => .inl e) hT, ((set5_upd m w T').mono (fun _ _ e => .inl e)).trans hu (fun _ _ e => .inr e)⟩
  obtain ⟨a, b, c, d, e⟩ := T'
  simp only [Tab.cells, set5] at *
  clear hM hT'
  go_enter Try.func20, Try.ntmps20
  go_wp2_with (go_at_call 57; refine (KC.out).mono ?_; rintro e w1 ⟨rfl, hT, hu⟩; have H1 := Lib.hid (HE.out _ ⟨hT, hu⟩); clear hT hu)
  go_end0
  exact ⟨rfl, H1.out⟩
theorem buffered_fn (hM : Mmu w m p g t v l s T) : Calls Try.prog 33 #[.pointer (some ⟨m, 0, none⟩)] w fun e w' => ∃ x, e = .returned x ∧ OwnU w' x (pgs s) ∧ Fr w.heap.size x ∧ Upd (fun _ => False) w w' := by
  have HK := Lib.hid (tpages_any t v s w hM.tlb)
  have h0 := hM.head.cell 1
  have hl := hM.head.lt
  clear hM
  go_enter Try.func33, Try.ntmps33
  go_wp2_with (go_at_call 67; refine (HK.out).mono ?_; rintro e w1 ⟨x, rfl, h1, h2, hu⟩; have H1 := Lib.hid h1; have H2 := Lib.hid h2; have HU := Lib.hid hu; clear h1 h2 hu)
  exact bodyPost_ret (v := x) (by simp [results, Try.results33, go_sem]) rfl ⟨_, rfl, H1.out, H2.out, HU.out⟩
def peekF (l : List Int) (s : Ents) (T : Tab) (va : Int) (user : Bool) : Int × Flt := if (findF l s T va 1 user false false).2.1.k ≠ 0 then (0, (findF l s T va 1 user false false).2.1) else ((getF l (findF l s T va 1 user false false).1 1).1 % 256, nof)
theorem chkF_still (s : Ents) (x va : Int) (is user write : Bool) : (chkF s x va is user write false).2.2 = s := by unfold chkF; simp; split <;> (try split) <;> rfl
theorem findF_still (l : List Int) (s : Ents) (T : Tab) (va n : Int) (user write : Bool) : (findF l s T va n user write false).2.2 = s := by
  have he : (entryF l s T va user write false).2.2 = s := by
    unfold entryF
    split
    · exact chkF_still ..
    split
    · rfl
    split
    · rfl
    · exact chkF_still ..
  have hfin : ∀ pa s, (finF l pa va n write s).2.2 = s := fun pa s => by unfold finF; split <;> rfl
  unfold findF
  split
  · exact hfin _ _
  split
  · exact he
  · rw [hfin]; exact he
theorem peek_fn (hM : Mmu w m p g t v l s T) (h0 : 0 ≤ va) (h1 : va < 4294967296) :
    Calls Try.prog 32 #[.pointer (some ⟨m, 0, none⟩), .int .u32 va, .bool user] w fun e w' => e = .returned (.tuple #[.int .u8 (peekF l s T va user).1, .agg (peekF l s T va user).2.cells]) ∧ MPut w m p g t v l s T w' := by
  have HE0 := Lib.hid (EnvQ.start hM)
  have KF : Hid (∀ W, EnvQ w W w.heap.size m p g t v l s T v → Calls Try.prog 66 #[.pointer (some ⟨m, 0, none⟩), .agg #[.int .u32 va, .bool user, .bool false], .int .i64 1, .bool false] W fun e w' =>
      e = .returned (.tuple #[.int .u32 (findF l s T va 1 user false false).1, .agg (findF l s T va 1 user false false).2.1.cells]) ∧ MPut W m p g t v l s T w') := Lib.hid fun W h => by
    have := find_fn m p g t v l s T va user false false W 1 h.mm h0 h1 (by decide)
    rw [findF_still] at this
    exact this
  have HOK : Hid ((findF l s T va ((1 : Nat) : Int) user false false).2.1.k = 0 → _) := Lib.hid (fun h => findF_ok l s T va 1 user false false hM.tlb.fit hM.ram.byt h0 h1 h)
  unfold peekF
  generalize findF l s T va ((1 : Nat) : Int) user false false = R at *
  obtain ⟨pa, ⟨fk, fv, fi⟩, s'⟩ := R
  simp only [Flt.cells] at *
  clear hM h0 h1
  by_cases hk : fk = 0
  · subst hk
    have hok : 0 ≤ pa ∧ pa < 4294967296 := by have := HOK.out rfl; omega
    obtain ⟨hp0, hp1⟩ := hok
    have KG : Hid (∀ W v', EnvQ w W w.heap.size m p g t v l s T v' → Calls Try.prog 41 #[.pointer (some ⟨p, 0, none⟩), .int .u32 pa, .int .i64 1] W fun e w' => Two .u32 (getF l pa 1) e ∧ w' = W) := Lib.hid fun W v' h => rget_any p g l W pa 1 h.mm.ram hp0 hp1
    simp only [ne_eq, not_true, if_false]
    generalize getF l pa 1 = G at *
    obtain ⟨gx, ge⟩ := G
    unfold Two at KG
    clear HOK
    go_enter Try.func32, Try.ntmps32
    go_wp2_with (first
      | (go_at_call 66; refine (KF.out _ HE0.out).mono ?_; rintro e w2 ⟨rfl, hp⟩; obtain ⟨v2, hE2⟩ := HE0.out.put hp; have HE2 := Lib.hid hE2; have HE3 := Lib.hid (hE2.next ((Upd.refl (fun _ => False) _).alloc (.cells #[.int .i64 0, .int .u32 fv, .int .u32 fi] 47))); clear hp hE2; obtain ⟨e1, e2, e3, e4, e5⟩ := HE2.out.facts; simp only [mc, zf] at e1 e2)
      | (go_at_call 41; refine (KG.out _ _ HE3.out).mono ?_; rintro e w3 ⟨rfl, rfl⟩))
    exact bodyPost_ret (v := .tuple #[_, .agg #[_, _, _]]) (by simp [results, Try.results32, go_sem, e2, e4, e5, nof]) rfl ⟨rfl, (HE2.out.end_ _ _ _).then ((Upd.refl _ _).alloc _)⟩
  · rw [if_pos hk]
    clear HOK
    go_enter Try.func32, Try.ntmps32
    go_wp2_with (go_at_call 66; refine (KF.out _ HE0.out).mono ?_; rintro e w2 ⟨rfl, hp⟩; obtain ⟨v2, hE2⟩ := HE0.out.put hp; have HE2 := Lib.hid hE2; clear hp hE2; obtain ⟨e1, e2, e3, e4, e5⟩ := HE2.out.facts; simp only [mc, zf] at e1 e2)
    go_region
    go_wp2_with fail
    exact bodyPost_ret (v := .tuple #[_, .agg #[_, _, _]]) (by simp [results, Try.results32, go_sem, e2, e4, e5]) rfl ⟨rfl, (HE2.out.end_ _ _ _).then (((Upd.refl _ _).alloc _).drew)⟩
end
theorem or_shift (y c : Int) (k : Nat) (hk : k < 4) (h0 : 0 ≤ y) (h1 : y < 256 ^ k) (c0 : 0 ≤ c) (c1 : c < 256) : bits .or .u32 y (c * 256 ^ k) = y + c * 256 ^ k := by
  obtain ⟨n, rfl⟩ := Int.eq_ofNat_of_zero_le c0
  rcases (by omega : k = 0 ∨ k = 1 ∨ k = 2 ∨ k = 3) with rfl | rfl | rfl | rfl
  · have : y = 0 := by simp at h1; omega
    subst this
    have := or_join 0 (by decide) 0 n (by omega) (by decide) (by decide) (by omega)
    simpa using this
  · have := or_join y h0 8 (n * 256) (by omega) (by simpa using h1) (by decide) (by omega)
    simpa using this
  · have := or_join y h0 16 (n * 65536) (by omega) (by simpa using h1) (by decide) (by omega)
    simpa using this
  · have := or_join y h0 24 (n * 16777216) (by omega) (by simpa using h1) (by decide) (by omega)
    simpa using this
section
variable (m p g t : Nat) (v : Value) (l : List Int) (s : Ents) (T : Tab) (va : Int) (user write : Bool) (w : World)
theorem loadF_byt (l : List Int) (hl : Byt l) : ∀ d : List Pc, Byt (loadF l d)
  | [] => fun x hx => by simp [loadF] at hx
  | x :: r => fun y hy => by
    simp only [loadF, List.flatMap_cons, List.mem_append] at hy
    rcases hy with hy | hy
    · unfold btsF at hy
      split at hy
      · exact ((hl.drop _).take _) y hy
      · simp at hy
    · exact loadF_byt l hl r y hy
theorem number_fn (b : List Int) (ao : Option Addr) (c : Nat) (hb : RdB w ao b) (hbb : Byt b) (h4 : b.length ≤ 4) : Calls Try.prog 36 #[.slice ao b.length c] w fun e w' => e = .returned (.int .u32 (num b)) ∧ w' = w := by
  have HB := Lib.hid hb
  have HBB := Lib.hid hbb
  have H4 := Lib.hid h4
  have h4' : (b.length : Int) ≤ 4 := by omega
  clear hb hbb h4
  go_enter Try.func36, Try.ntmps36
  go_wp2
  go_loop [3, 4] (fun x i => ∃ k : Nat, k ≤ b.length ∧ i = .int .i64 ((k : Int) - 1) ∧ x = .int .u32 (num (b.drop k))) (fun _ i => (intOf i + 1).toNat)
  case atStart => exact ⟨b.length, Nat.le_refl _, rfl, by simp [num]⟩
  case round =>
    obtain ⟨k, hk, rfl, rfl⟩ := hrel
    cases k with
    | zero =>
      go_wp2
      go_ret
      exact ⟨rfl, rfl⟩
    | succ k =>
      obtain ⟨bb, bo, rfl, hbl2, hbc⟩ := HB.out k hk
      obtain ⟨hx0, hx1⟩ := HBB.out.get hk
      have hs : num (b.drop k) = b.getD k 0 + 256 * num (b.drop (k + 1)) := by
        rw [List.drop_eq_getElem_cons hk, num, List.getD_eq_getElem?_getD, List.getElem?_eq_getElem hk]; rfl
      have hnb := num_bound (HBB.out.drop (k + 1))
      have hlen : (b.drop (k + 1)).length ≤ 3 := by have := H4.out; simp; omega
      have hp := pow256 hlen
      obtain ⟨hn0, hn1⟩ := hnb
      have hn2 := Int.lt_of_lt_of_le hn1 hp
      have HS := Lib.hid hs
      clear hs hn1 hp hlen
      generalize num (b.drop (k + 1)) = y at *
      generalize b.getD k 0 = cv at *
      have e : ((k + 1 : Nat) : Int) - 1 = k := by omega
      simp only [e]
      clear e
      go_wp2
      refine ⟨⟨k, by omega, rfl, ?_⟩, by simp [intOf]⟩
      rw [HS.out]
      congr 1
      omega
def getnF (l : List Int) (s : Ents) (T : Tab) (va n : Int) (user : Bool) : List Pc × Flt × Ents := pcs l T user false true (sizeF n).toNat va (sizeF n).toNat s
theorem get_fn (n : Int) (hM : Mmu w m p g t v l s T) (h0 : 0 ≤ va) (h1 : va < 4294967296) (hn0 : -9223372036854775808 ≤ n) (hn1 : n < 9223372036854775808) :
    Calls Try.prog 29 #[.pointer (some ⟨m, 0, none⟩), .int .u32 va, .int .i64 n, .bool user] w fun e w' =>
      e = .returned (.tuple #[.int .u32 (num (loadF l (getnF l s T va n user).1)), .agg (getnF l s T va n user).2.1.cells]) ∧ MPut w m p g t v l (getnF l s T va n user).2.2 T w' := by
  have HE0 := Lib.hid (EnvQ.start hM)
  have hz : 0 ≤ sizeF n ∧ sizeF n ≤ 4 := by unfold sizeF; split <;> (try split) <;> omega
  have hcs : (n < 0 ∧ sizeF n = 0) ∨ (0 ≤ n ∧ n ≤ 4 ∧ sizeF n = n) ∨ (4 < n ∧ sizeF n = 4) := by unfold sizeF; split <;> (try split) <;> omega
  have KL : Hid (∀ W, EnvQ w W w.heap.size m p g t v l s T v → Calls Try.prog 34 #[.pointer (some ⟨m, 0, none⟩), .int .u32 va, .int .i64 (sizeF n), .bool user] W fun e w' =>
      ∃ x, e = .returned (.tuple #[x, .agg (getnF l s T va n user).2.1.cells]) ∧ OwnB w' W.heap.size x (loadF l (getnF l s T va n user).1) ∧ MPut W m p g t v l (getnF l s T va n user).2.2 T w') := Lib.hid fun W h => load_fn m p g t v l s T va user W (sizeF n) h.mm h0 h1 (by omega)
  have hlen : (loadF l (getnF l s T va n user).1).length ≤ 4 := by
    have h1 := loadF_len l (getnF l s T va n user).1
    have h2 := pcs_tot l T user false true (sizeF n).toNat (sizeF n).toNat va s
    unfold getnF at *
    omega
  have HBY := Lib.hid (loadF_byt l hM.ram.byt (getnF l s T va n user).1)
  have HLEN := Lib.hid hlen
  generalize getnF l s T va n user = R at *
  obtain ⟨d, ⟨fk, fv, fi⟩, s'⟩ := R
  simp only [Flt.cells] at *
  generalize loadF l d = b at *
  have hlen' : (b.length : Int) ≤ 4 := by omega
  clear hM h0 h1 hlen
  clear hz
  obtain ⟨hc, hs⟩ | ⟨hc, hc', hs⟩ | ⟨hc, hs⟩ := hcs
  all_goals
    rw [hs] at KL
    clear hs
    go_enter Try.func29, Try.ntmps29
    go_wp2_with (go_at_call 34; refine (KL.out _ HE0.out).mono ?_; rintro e w2 ⟨x, rfl, ho, hp⟩; obtain ⟨v2, hE2⟩ := HE0.out.put hp; have HE2 := Lib.hid hE2; have HR2 := Lib.hid ho.slice; obtain ⟨ao, c, rfl, -⟩ := ho.slice; clear hp ho hE2; obtain ⟨e1, e2, e3, e4, e5⟩ := HE2.out.facts; simp only [mc, zf] at e1 e2)
    have HRB : Hid (RdB w2 ao b) := Lib.hid (by
      obtain ⟨ao', c', he, _, hr, _⟩ := HR2.out
      cases he; exact hr)
    clear HR2
    go_loop [12, 27] (fun x i => ∃ k : Nat, k ≤ b.length ∧ i = .int .i64 k ∧ x = .int .u32 (num (b.take k))) (fun _ i => b.length - (intOf i).toNat)
    case atStart => exact ⟨0, Nat.zero_le _, rfl, by simp [num]⟩
    case round =>
      obtain ⟨k, hk, rfl, rfl⟩ := hrel
      by_cases hlt : k < b.length
      · obtain ⟨bb, bo, rfl, hbl2, hbc⟩ := HRB.out k hlt
        have hl3 := cellS ((Upd.refl (fun _ => False) w2).alloc (.cells #[.int .i64 fk, .int .u32 fv, .int .u32 fi] 47)) id hbl2 hbc
        have hx := HBY.out.get hlt
        have hs : num (b.take (k + 1)) = num (b.take k) + b.getD k 0 * 256 ^ k := by
          rw [List.take_succ_eq_append_getElem hlt, num_snoc]
          simp [List.getD, hlt, show min k b.length = k by omega]
        have hnb := num_bound (HBY.out.take k)
        rw [show (b.take k).length = k by simp; omega] at hnb
        obtain ⟨hx0, hx1⟩ := hx
        obtain ⟨hn0, hn1⟩ := hnb
        have hk4 : k < 4 := by have := HLEN.out; omega
        have HSH := Lib.hid (or_shift (num (b.take k)) (b.getD k 0) k hk4 hn0 hn1 hx0 hx1)
        have HS := Lib.hid hs
        clear hs
        generalize b.getD k 0 = cv at *
        generalize num (b.take k) = y at *
        rcases (by omega : k = 0 ∨ k = 1 ∨ k = 2 ∨ k = 3) with rfl | rfl | rfl | rfl
        all_goals
          simp at hn1 HS HSH
          try simp only [Nat.add_zero] at hbc hl3
          go_wp2
          refine ⟨⟨_, hlt, rfl, ?_⟩, by simp [intOf]; omega⟩
          first | rw [HS.out, HSH.out] | (rw [HS.out, ← HSH.out])
      · obtain rfl : k = b.length := by omega
        rw [List.take_length]
        go_wp2_with fail
        go_region
        go_wp2_with fail
        exact bodyPost_ret (v := .tuple #[_, .agg #[_, _, _]]) (by simp [results, Try.results29, go_sem, e2, e4, e5]) rfl ⟨rfl, (HE2.out.end_ _ _ _).then (((Upd.refl _ _).alloc _).drew)⟩
end
end Go.Proofs.Ytomiodlipibloaa.F
