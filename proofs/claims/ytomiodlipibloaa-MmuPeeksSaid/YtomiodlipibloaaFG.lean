/- The buffer of translations: where a page's entry stands. -/
import Derived.Test.YtomiodlipibloaaFF
namespace Go.Proofs.Ytomiodlipibloaa.F
set_option linter.unusedVariables false
set_option linter.unusedSimpArgs false
set_option maxHeartbeats 1000000
set_option maxRecDepth 20000
open Go.RowKit
theorem cellS {W w' : World} {S : Nat → Prop} (hu : Upd S W w') {g o : Nat} {x : Value} (hs : ¬ S g) (hg : g < W.heap.size) (h : W.cell? ⟨g, o, none⟩ = some x) : w'.cell? ⟨g, o, none⟩ = some x := by
  rw [← h]; exact World.cell?_of_block (hu.block g hg hs)
abbrev Ents := List (Int × Int)
/-- The cells of the program's entries. -/
def sc : Ents → List Value
  | [] => []
  | p :: s => .int .u32 p.1 :: .int .u32 p.2 :: sc s
theorem sc_len : ∀ s : Ents, (sc s).length = s.length * 2
  | [] => rfl
  | p :: s => by simp only [sc, List.length_cons, sc_len s]; omega
theorem sc_app : ∀ s r : Ents, sc (s ++ r) = sc s ++ sc r
  | [], _ => rfl
  | p :: s, r => by simp only [List.cons_append, sc, sc_app s r]
def ent (s : Ents) (i : Nat) : Int × Int := s.getD i (0, 0)
theorem ent_succ (p : Int × Int) (s : Ents) (i : Nat) : ent (p :: s) (i + 1) = ent s i := by simp [ent, List.getD]
theorem ent_mem {s : Ents} {i : Nat} (hi : i < s.length) : ent s i ∈ s := by
  unfold ent
  rw [List.getD_eq_getElem?_getD, List.getElem?_eq_getElem hi]
  exact List.getElem_mem hi
theorem sc_page : ∀ (s : Ents) (i : Nat), i < s.length → (sc s)[i * 2]? = some (.int .u32 (ent s i).1)
  | p :: s, 0, _ => rfl
  | p :: s, i + 1, h => by
    have := sc_page s i (by simpa using h)
    rw [show (i + 1) * 2 = i * 2 + 1 + 1 by omega, sc, List.getElem?_cons_succ, List.getElem?_cons_succ, this]
    simp [ent, List.getD]
theorem sc_entry : ∀ (s : Ents) (i : Nat), i < s.length → (sc s)[i * 2 + 1]? = some (.int .u32 (ent s i).2)
  | p :: s, 0, _ => rfl
  | p :: s, i + 1, h => by
    have := sc_entry s i (by simpa using h)
    rw [show (i + 1) * 2 + 1 = i * 2 + 1 + 1 + 1 by omega, sc, List.getElem?_cons_succ, List.getElem?_cons_succ, this]
    simp [ent, List.getD]
/-- Where a page stands; behind the last one, if it doesn't. -/
def ix : Ents → Int → Nat
  | [], _ => 0
  | p :: s, x => if p.1 = x then 0 else ix s x + 1
theorem ix_le : ∀ (s : Ents) (x : Int), ix s x ≤ s.length
  | [], _ => Nat.le_refl _
  | p :: s, x => by simp only [ix, List.length_cons]; have := ix_le s x; split <;> omega
theorem ix_at : ∀ (s : Ents) (x : Int), ix s x < s.length → (ent s (ix s x)).1 = x
  | p :: s, x, h => by
    simp only [ix] at h ⊢
    by_cases e : p.1 = x
    · rw [if_pos e]; exact e
    · rw [if_neg e] at h ⊢
      have := ix_at s x (by simpa using h)
      rw [ent_succ]; exact this
theorem ix_lt : ∀ (s : Ents) (x : Int) (j : Nat), j < ix s x → (ent s j).1 ≠ x
  | p :: s, x, j, h => by
    simp only [ix] at h
    by_cases e : p.1 = x
    · rw [if_pos e] at h; omega
    · rw [if_neg e] at h
      cases j with
      | zero => exact e
      | succ j => have := ix_lt s x j (by omega); simpa [ent, List.getD] using this
theorem ix_eq (s : Ents) (x : Int) (k : Nat) (hk : k ≤ s.length) (h : ∀ j, j < k → (ent s j).1 ≠ x) (he : k = s.length ∨ (ent s k).1 = x) : ix s x = k := by
  rcases Nat.lt_trichotomy (ix s x) k with hlt | heq | hgt
  · exact absurd (ix_at s x (by omega)) (h _ hlt)
  · exact heq
  · rcases he with rfl | he
    · have := ix_le s x; omega
    · exact absurd he (ix_lt s x k hgt)
def atF (s : Ents) (x : Int) : Int := if ix s x < s.length then ix s x else -1
def Fit (s : Ents) : Prop := ∀ p ∈ s, (0 ≤ p.1 ∧ p.1 < 4294967296) ∧ (0 ≤ p.2 ∧ p.2 < 4294967296)
theorem Fit.ent {s : Ents} (h : Fit s) {i : Nat} (hi : i < s.length) : (0 ≤ (ent s i).1 ∧ (ent s i).1 < 4294967296) ∧ (0 ≤ (ent s i).2 ∧ (ent s i).2 < 4294967296) := h _ (ent_mem hi)
/-- The program's buffer: its block, what its slice is, its entries. -/
structure Tlb (w : World) (t : Nat) (v : Value) (s : Ents) : Prop where
  head : Blk w t #[v] 132
  row : w.ownsRow 0 136 2 v s.length (sc s)
  fit : Fit s
  len : s.length ≤ 8
  nd : (s.map (·.1)).Nodup
theorem Tlb.out {w : World} {t : Nat} {v : Value} {s : Ents} (h : Tlb w t v s) : ∃ ao c, v = .slice ao s.length c ∧ (0 < s.length → ∃ g, ao = some ⟨g, 0, none⟩) := by
  rcases h.row.2 with ⟨rfl, h0⟩ | ⟨g, cap, cur, rfl, _⟩
  · exact ⟨none, 0, by rw [h0], fun hp => by omega⟩
  · exact ⟨_, cap, rfl, fun _ => ⟨g, rfl⟩⟩
theorem Tlb.page {w : World} {t g c : Nat} {s : Ents} (h : Tlb w t (.slice (some ⟨g, 0, none⟩) s.length c) s) {i : Nat} (hi : i < s.length) : w.cell? ⟨g, i * 2, none⟩ = some (.int .u32 (ent s i).1) := by
  rw [own_cell h.row (i * 2) (by omega), sc_page s i hi]
theorem Tlb.entry {w : World} {t g c : Nat} {s : Ents} (h : Tlb w t (.slice (some ⟨g, 0, none⟩) s.length c) s) {i : Nat} (hi : i < s.length) : w.cell? ⟨g, i * 2 + 1, none⟩ = some (.int .u32 (ent s i).2) := by
  rw [own_cell h.row (i * 2 + 1) (by omega), sc_entry s i hi]
theorem Tlb.lt {w : World} {t g c : Nat} {s : Ents} (h : Tlb w t (.slice (some ⟨g, 0, none⟩) s.length c) s) : g < w.heap.size := own_lt h.row g rfl
theorem Tlb.upd {w w' : World} {t : Nat} {v : Value} {s : Ents} (h : Tlb w t v s) {S : Nat → Prop} (hu : Upd S w w') (ht : ¬ S t) (hv : ∀ k, OB v k → ¬ S k) : Tlb w' t v s :=
  ⟨h.head.upd hu ht, own_upd h.row hu hv, h.fit, h.len, h.nd⟩
section
variable (x e page : Int) (q : Nat) (w : World)
theorem clos_any (hq : w.cell? ⟨q, 0, none⟩ = some (.int .u32 page)) (hl : q < w.heap.size) :
    Calls Try.prog 89 #[.agg #[.int .u32 x, .int .u32 e], .pointer (some ⟨q, 0, none⟩)] w fun en w' => en = .returned (.bool (x == page)) ∧ Upd (fun _ => False) w w' := by
  go_enter Try.func89, Try.ntmps89
  go_wp2
  go_ret
  exact ⟨rfl, (Upd.refl _ w).alloc _⟩
theorem idxf_any (t : Nat) (ao : Option Addr) (c : Nat) (s : Ents) (hT : Tlb w t (.slice ao s.length c) s) (hg : 0 < s.length → ∃ g, ao = some ⟨g, 0, none⟩) (hq : w.cell? ⟨q, 0, none⟩ = some (.int .u32 page)) (hl : q < w.heap.size) :
    Calls Try.prog 88 #[.slice ao s.length c, .func (.func 89) #[] #[.pointer (some ⟨q, 0, none⟩)]] w fun en w' => en = .returned (.int .i64 (atF s page)) ∧ Upd (fun _ => False) w w' := by
  have HT := Lib.hid hT
  have hlen : (s.length : Int) ≤ 8 := by have := hT.len; omega
  generalize hr : atF s page = r
  have HR := Lib.hid hr
  clear hT hr
  go_enter Try.func88, Try.ntmps88
  go_wp2
  go_loopw [8] (fun i W => ∃ k : Nat, k ≤ s.length ∧ i = .int .i64 k ∧ Hid (∀ j, j < k → (ent s j).1 ≠ page) ∧ Hid (Upd (fun _ => False) w W)) (fun i _ => s.length - (intOf i).toNat)
  case atStart => exact ⟨0, Nat.zero_le _, rfl, Lib.hid (fun j h => absurd h (by omega)), Lib.hid (Upd.refl _ _)⟩
  case round =>
    obtain ⟨k, hk, rfl, HN, HU⟩ := hrel
    by_cases hlt : k < s.length
    · obtain ⟨g, rfl⟩ := hg (by omega)
      have HW : Hid (Tlb wr t (.slice (some ⟨g, 0, none⟩) s.length c) s) := Lib.hid (HT.out.upd HU.out id (fun _ _ => id))
      have c1 := HW.out.page hlt
      have c2 := HW.out.entry hlt
      have hgl := HW.out.lt
      have hq2 := cellS HU.out id hl hq
      have hql : q < wr.heap.size := Nat.lt_of_lt_of_le hl HU.out.size
      have KC : Hid (Calls Try.prog 89 #[.agg #[.int .u32 (ent s k).1, .int .u32 (ent s k).2], .pointer (some ⟨q, 0, none⟩)] wr fun en w' => en = .returned (.bool ((ent s k).1 == page)) ∧ Upd (fun _ => False) wr w') := Lib.hid (clos_any _ _ page q wr hq2 hql)
      by_cases he : (ent s k).1 = page
      · have he' : ((ent s k).1 == page) = true := by simpa using he
        rw [he'] at KC
        have hres : r = (k : Int) := by
          rw [← HR.out, atF, ix_eq s page k hk HN.out (.inr he), if_pos hlt]
        have HRES := Lib.hid hres
        clear he he' hres
        go_wp2_with (refine (KC.out).mono ?_; rintro e w2 ⟨rfl, hu⟩; have HU2 := Lib.hid (HU.out.then hu); clear hu)
        go_ret
        exact ⟨by rw [HRES.out]; rfl, HU2.out⟩
      · have he' : ((ent s k).1 == page) = false := by simpa using he
        rw [he'] at KC
        have HN2 : Hid (∀ j, j < k + 1 → (ent s j).1 ≠ page) := Lib.hid (fun j hj => by
          rcases (by omega : j < k ∨ j = k) with h | rfl
          · exact HN.out j h
          · exact he)
        clear he he'
        go_wp2_with (refine (KC.out).mono ?_; rintro e w2 ⟨rfl, hu⟩; have HU2 := Lib.hid (HU.out.then hu); clear hu)
        exact ⟨⟨k + 1, hlt, by go_num, HN2, HU2⟩, by simp [intOf]; omega⟩
    · obtain rfl : k = s.length := by omega
      have hres : r = -1 := by
        rw [← HR.out, atF, ix_eq s page s.length (Nat.le_refl _) HN.out (.inl rfl), if_neg (Nat.lt_irrefl _)]
      subst hres
      go_wp2
      go_ret
      exact ⟨rfl, HU.out⟩
theorem at_any (t : Nat) (v : Value) (s : Ents) (hT : Tlb w t v s) : Calls Try.prog 78 #[.pointer (some ⟨t, 0, none⟩), .int .u32 page] w fun e w' => e = .returned (.int .i64 (atF s page)) ∧ Upd (fun _ => False) w w' := by
  obtain ⟨ao, c, rfl, hg⟩ := hT.out
  have h0 : w.cell? ⟨t, 0, none⟩ = some (.slice ao s.length c) := hT.head.cell 0
  have hl := hT.head.lt
  have KI : Hid (Calls Try.prog 88 #[.slice ao s.length c, .func (.func 89) #[] #[.pointer (some ⟨w.heap.size, 0, none⟩)]] (w.alloc (.cells #[.int .u32 page] 23)) fun en w' => en = .returned (.int .i64 (atF s page)) ∧ Upd (fun _ => False) (w.alloc (.cells #[.int .u32 page] 23)) w') :=
    Lib.hid (idxf_any page w.heap.size _ t ao c s (hT.upd ((Upd.refl (fun _ => False) w).alloc _) id (fun _ _ => id)) hg (by rw [(Blk.new w _ 23).cell]; rfl) (by rw [World.size_alloc]; omega))
  clear hT hg
  generalize atF s page = r at *
  go_enter Try.func78, Try.ntmps78
  go_wp2_with (go_at_call 88; refine (KI.out).mono ?_; rintro e w' ⟨rfl, hu⟩; have HU := Lib.hid (((Upd.refl (fun _ => False) w).alloc _).then hu); clear hu)
  go_ret
  exact ⟨rfl, HU.out⟩
end
end Go.Proofs.Ytomiodlipibloaa.F
