/- The law on steps that are forgotten: what 'Step', 'Forget', 'Undo' do to a file of the call's own; the plain law on steps and their taking back. -/
import Derived.Test.YtoocbodkjldlcaaStk
namespace Go.Proofs.Ytoocbodkjldlcaa.Rg
set_option linter.unusedVariables false
set_option linter.unusedSimpArgs false
open Go.RowKit

/-! ### The plain law -/
def stepF (d : Int) (p : List Int × List (Int × Int)) (n : Int) : List Int × List (Int × Int) :=
  if 0 ≤ n ∧ n ≤ 15 then (p.1.set n.toNat (IntKind.u32.wrap (p.1.getD n.toNat 0 + d)), p.2 ++ [(n, d)]) else p
def Fit (r : List Int) : Prop := r.length = 16 ∧ ∀ x ∈ r, 0 ≤ x ∧ x < 4294967296
theorem wrap_u32 (x : Int) : IntKind.u32.wrap x = x % 4294967296 := by
  simp [IntKind.wrap, IntKind.signed, IntKind.bits]
theorem Fit.set {r : List Int} (h : Fit r) (n : Nat) (x : Int) : Fit (r.set n (IntKind.u32.wrap x)) := by
  refine ⟨by simp [h.1], fun y hy => ?_⟩
  rcases List.mem_or_eq_of_mem_set hy with h1 | rfl
  · exact h.2 y h1
  · rw [wrap_u32]; omega
theorem Fit.step {d : Int} {p : List Int × List (Int × Int)} (h : Fit p.1) (n : Int) : Fit (stepF d p n).1 := by
  unfold stepF; split
  · exact h.set _ _
  · exact h
theorem Fit.steps {d : Int} (ns : List Int) : ∀ {p : List Int × List (Int × Int)}, Fit p.1 → Fit (ns.foldl (stepF d) p).1 := by
  induction ns with
  | nil => exact fun h => h
  | cons n ns ih => exact fun h => ih (Fit.step h n)
theorem steps_bounds {d : Int} (ns : List Int) : ∀ {p : List Int × List (Int × Int)}, (∀ s ∈ p.2, 0 ≤ s.1 ∧ s.1 ≤ 15) → ∀ s ∈ (ns.foldl (stepF d) p).2, 0 ≤ s.1 ∧ s.1 ≤ 15 := by
  induction ns with
  | nil => exact fun h => h
  | cons n ns ih =>
    intro p h
    refine ih ?_
    unfold stepF; split
    · rename_i hn
      intro s hs
      simp only [List.mem_append, List.mem_cons, List.not_mem_nil, or_false] at hs
      rcases hs with hs | rfl
      · exact h s hs
      · exact hn
    · exact h
theorem steps_length {d : Int} (ns : List Int) : ∀ {p : List Int × List (Int × Int)}, (ns.foldl (stepF d) p).2.length ≤ p.2.length + ns.length := by
  induction ns with
  | nil => intro p; simp
  | cons n ns ih =>
    intro p
    refine Nat.le_trans ih ?_
    unfold stepF; split <;> simp <;> omega
theorem back_step {d n : Int} {p : List Int × List (Int × Int)} (h : Fit p.1) : (stepF d p n).2.foldr back (stepF d p n).1 = p.2.foldr back p.1 := by
  unfold stepF
  split
  · rename_i hn
    simp only [List.foldr_append, List.foldr_cons, List.foldr_nil]
    congr 1
    unfold back
    have hlt : n.toNat < p.1.length := by rw [h.1]; omega
    have hx := h.2 _ (List.getElem_mem hlt)
    have e : (p.1.set n.toNat (IntKind.u32.wrap (p.1.getD n.toNat 0 + d))).getD n.toNat 0 = IntKind.u32.wrap (p.1.getD n.toNat 0 + d) := by simp [hlt]
    simp only [e]
    rw [List.set_set]
    have e2 : p.1.getD n.toNat 0 = p.1[n.toNat] := by simp [hlt]
    rw [e2]
    have e3 : IntKind.u32.wrap (IntKind.u32.wrap (p.1[n.toNat] + d) - d) = p.1[n.toNat] := by rw [wrap_u32, wrap_u32]; omega
    rw [e3]
    exact List.set_getElem_self hlt
  · rfl
theorem back_steps {d : Int} (ns : List Int) : ∀ {p : List Int × List (Int × Int)}, Fit p.1 → (ns.foldl (stepF d) p).2.foldr back (ns.foldl (stepF d) p).1 = p.2.foldr back p.1 := by
  induction ns with
  | nil => intro p _; rfl
  | cons n ns ih => intro p h; exact (ih (Fit.step h n)).trans (back_step h)

/-! ### The calls -/
/-- Blocks of other types than the file's and its steps' stay. -/
def Keep (w w' : World) : Prop := ∀ g cs T, T ≠ 57 → T ≠ 59 → Blk w g cs T → Blk w' g cs T
theorem Keep.of_ends {b : Nat} {w w' : World} {g : Nat} {s : St} {l : List (Int × Int)} (h : Has b w g s l) : ∀ {sv : Value} {r : List Int} {psl ksp usp : Int}, FB w g r psl ksp usp sv → w.ownsRow 0 59 2 sv l.length (stepCells l) → Upd (fun k => k = g ∨ OB sv k) w w' → Keep w w' := by
  intro sv r psl ksp usp hf ho hu gx cs T h1 h2 hb
  refine hb.upd hu ?_
  rintro (rfl | hk)
  · have := (show w.heap[gx]? = _ from hf.blk).symm.trans hb
    simp at this
    exact h1 this.2.symm
  · exact own_ne ho hb h2 hk

theorem step_has {b : Nat} {w0 w : World} {g : Nat} {s : St} {l : List (Int × Int)} (h : Has b w g s l) (hu : Upd (fun k => b ≤ k) w0 w) (hb : b ≤ w.heap.size) (n d : Int) (hl : l.length ≤ 60) :
    Calls Try.prog 9 #[.pointer (some ⟨g, 0, none⟩), .int .i64 n, .int .u32 d] w fun e w' => (∃ x, e = .returned (.int .i64 x)) ∧ Has b w' g { s with r := (stepF d (s.r, l) n).1 } (stepF d (s.r, l) n).2 ∧ Upd (fun k => b ≤ k) w0 w' ∧ Keep w w' := by
  obtain ⟨sv, h1, h2, h3, h4⟩ := h.1.ex
  by_cases hn : 0 ≤ n ∧ n ≤ 15
  · have e : stepF d (s.r, l) n = (s.r.set n.toNat (IntKind.u32.wrap (s.r.getD n.toNat 0 + d)), l ++ [(n, d)]) := if_pos hn
    rw [e]
    refine (step_yes g n d w h1 h2 hn.1 hn.2 (by omega)).mono ?_
    rintro e w' ⟨rfl, hf⟩
    obtain ⟨q1, q2⟩ := Own.ends (l := l) (r := s.r) (psl := s.psl) (ksp := s.ksp) (usp := s.usp) h3 h4 hb hf hu
    obtain ⟨sv', k1, k2, k3, k4⟩ := hf
    exact ⟨⟨_, rfl⟩, ⟨q1, by simp [h.2]⟩, q2, Keep.of_ends h h1 h2 k3⟩
  · have e : stepF d (s.r, l) n = (s.r, l) := if_neg hn
    rw [e]
    refine (step_no g n d w (by omega)).mono ?_
    rintro e w' ⟨rfl, rfl⟩
    exact ⟨⟨_, rfl⟩, h, hu, fun _ _ _ _ _ h => h⟩
theorem forget_has {b : Nat} {w0 w : World} {g : Nat} {s : St} {l : List (Int × Int)} (h : Has b w g s l) (hu : Upd (fun k => b ≤ k) w0 w) :
    Calls Try.prog 10 #[.pointer (some ⟨g, 0, none⟩)] w fun e w' => e = .returned (.tuple #[]) ∧ Has b w' g s [] ∧ Upd (fun k => b ≤ k) w0 w' := by
  obtain ⟨sv, h1, h2, h3, h4⟩ := h.1.ex
  refine (forget_any g w _ h1.csv (h1.fz 19)).mono ?_
  rintro e w' ⟨rfl, rfl⟩
  exact ⟨rfl, ⟨⟨_, h1.setSv _, ⟨rfl, .inl ⟨rfl, rfl⟩⟩, h3, fun k hk => by cases hk⟩, h.2⟩, hu.trans (Upd.set1 w g 19 _) (fun k _ he => he ▸ h3)⟩
theorem undo_has {b : Nat} {w0 w : World} {g : Nat} {s : St} {l : List (Int × Int)} (h : Has b w g s l) (hu : Upd (fun k => b ≤ k) w0 w) (hb : b ≤ w.heap.size) (hl : ∀ s ∈ l, 0 ≤ s.1 ∧ s.1 ≤ 15) (r : List Int) (hr : l.foldr back s.r = r) (hr16 : r.length = 16) :
    Calls Try.prog 12 #[.pointer (some ⟨g, 0, none⟩)] w fun e w' => e = .returned (.tuple #[]) ∧ Has b w' g { s with r := r } [] ∧ Upd (fun k => b ≤ k) w0 w' ∧ Keep w w' := by
  obtain ⟨sv, h1, h2, h3, h4⟩ := h.1.ex
  rw [← hr]
  refine (undo_any g w h1 h2 hl).mono ?_
  rintro e w' ⟨rfl, hf⟩
  obtain ⟨q1, q2⟩ := Own.ends (l := l) (r := s.r) (psl := s.psl) (ksp := s.ksp) (usp := s.usp) h3 h4 hb hf hu
  obtain ⟨sv', k1, k2, k3, k4⟩ := hf
  exact ⟨rfl, ⟨q1, by rw [hr]; exact hr16⟩, q2, Keep.of_ends h h1 h2 k3⟩
theorem steps_has {b : Nat} {w : World} {g : Nat} {s : St} (h : Has b w g s []) :
    Calls Try.prog 13 #[.pointer (some ⟨g, 0, none⟩)] w fun e w' => e = .returned (.int .i64 0) ∧ w = w' := by
  have := steps_own h.1
  simpa using this
end Go.Proofs.Ytoocbodkjldlcaa.Rg
