/- 'Undo': a loop over the steps, the last first. -/
import Derived.Test.YtoocbodkjldlcaaRg2
import Derived.Deep.LoopGhost
namespace Go.Proofs.Ytoocbodkjldlcaa.Rg
set_option linter.unusedVariables false
set_option linter.unusedSimpArgs false
open Go.RowKit

def back (s : Int × Int) (r : List Int) : List Int := r.set s.1.toNat (IntKind.u32.wrap (r.getD s.1.toNat 0 - s.2))
theorem stepCells_length (l : List (Int × Int)) : (stepCells l).length = l.length * 2 := by
  induction l with
  | nil => rfl
  | cons a l ih => simp [stepCells] at *; omega
theorem stepCells_snoc (l : List (Int × Int)) (n d : Int) : stepCells (l ++ [(n, d)]) = stepCells l ++ [.int .i64 n, .int .u32 d] := by simp [stepCells]
theorem snoc_of {α : Type} (l : List α) (h : 0 < l.length) : ∃ li s, l = li ++ [s] := by
  have hne : l ≠ [] := by intro h0; rw [h0] at h; simp at h
  exact ⟨l.dropLast, l.getLast hne, (List.dropLast_concat_getLast hne).symm⟩
theorem back_length (s : Int × Int) (r : List Int) : (back s r).length = r.length := by simp [back]

def UndoRel (g : Nat) (w : World) (sv : Value) (goal : List Int) (psl ksp usp : Int) (k : Nat) (wr : World) : Prop :=
  ∃ sv' r' l', l'.length = k ∧ FB wr g r' psl ksp usp sv' ∧ wr.ownsRow 0 59 2 sv' k (stepCells l') ∧ l'.foldr back r' = goal ∧ (∀ s ∈ l', 0 ≤ s.1 ∧ s.1 ≤ 15) ∧
    Upd (fun k => k = g ∨ OB sv k) w wr ∧ (∀ k, OB sv' k → OB sv k)

theorem undo_any (g : Nat) (w : World) {r : List Int} {psl ksp usp : Int} {sv : Value} {l : List (Int × Int)} (h : FB w g r psl ksp usp sv) (ho : w.ownsRow 0 59 2 sv l.length (stepCells l))
    (hl : ∀ s ∈ l, 0 ≤ s.1 ∧ s.1 ≤ 15) :
    Calls Try.prog 12 #[.pointer (some ⟨g, 0, none⟩)] w fun e w' => e = .returned (.tuple #[]) ∧
      FileEnds w w' g sv (l.foldr back r) psl ksp usp [] := by
  have H0 : UndoRel g w sv (l.foldr back r) psl ksp usp l.length w := ⟨sv, r, l, rfl, h, ho, rfl, hl, Upd.refl _ _, fun _ h => h⟩
  clear h ho hl
  go_enter Try.func12, Try.ntmps12
  go_wp2
  go_loopg [] l.length (fun k wr => UndoRel g w sv (l.foldr back r) psl ksp usp k wr)
  case atStart => exact H0
  case round =>
    clear H0
    obtain ⟨sv', r', l', hlen, hf, hown, hgoal, hb, hup, hob⟩ := hrel
    obtain ⟨ao, c, rfl⟩ := own_slice hown
    have c3 := hf.csv
    rcases Nat.eq_zero_or_pos gk with h0 | h0
    · subst h0
      go_wp2_with (go_at_call 13; refine (steps_any _ _ _ _ _ c3).mono ?_; rintro e w' ⟨rfl, rfl⟩)
      go_end0
      refine ⟨rfl, ?_⟩
      obtain rfl : l' = [] := List.length_eq_zero_iff.1 hlen
      exact ⟨_, by simpa [← hgoal] using hf, hown, hup, fun k hk => .inl (hob k hk)⟩
    · obtain ⟨m, rfl⟩ : ∃ m, gk = m + 1 := ⟨gk - 1, by omega⟩
      obtain ⟨g1, c1, hsv⟩ := own_some hown
      cases hsv
      obtain ⟨li, s, rfl⟩ : ∃ li s, l' = li ++ [s] := snoc_of l' (by omega)
      obtain ⟨n, d⟩ := s
      have hbn := hb (n, d) (by simp)
      obtain ⟨hn0, hn1⟩ := hbn
      simp only at hn0 hn1
      have hm : m = li.length := by simpa using hlen.symm
      have hmax := own_max hown
      have hcap : m ≤ c := by have := (own_cap hown).1; omega
      have e0 : wr.cell? ⟨g1, m * 2, none⟩ = some (.int .i64 n) := by
        rw [own_cell hown _ (by omega)]
        subst hm
        rw [stepCells_snoc, List.getElem?_append_right (by rw [stepCells_length]; omega), stepCells_length]
        simp
      have e1 : wr.cell? ⟨g1, m * 2 + 1, none⟩ = some (.int .u32 d) := by
        rw [own_cell hown _ (by omega)]
        subst hm
        rw [stepCells_snoc, List.getElem?_append_right (by rw [stepCells_length]; omega), stepCells_length]
        simp [Nat.add_sub_cancel_left]
      have hlt := hf.blk.lt
      have hlt1 : g1 < wr.heap.size := own_lt hown g1 rfl
      have hr := hf.reg n.toNat (by omega)
      have hn2 : n < 16 := by omega
      have f := hf.fz
      have HM := Lib.hid hm
      have HG := Lib.hid hgoal
      have HU := Lib.hid hup
      have HO := Lib.hid hob
      have HB := Lib.hid hb
      clear hm hlen hgoal hup hob hb
      go_wp2_with (go_at_call 13; refine (steps_any _ _ _ _ _ c3).mono ?_; rintro e w' ⟨rfl, rfl⟩)
      go_region
      go_wp2
      go_region
      go_wp2
      go_region
      go_wp2
      go_roundg m
      case measure => omega
      case rel =>
        have hm := HM.out
        have hne := own_ne hown hf.blk (by decide)
        refine ⟨.slice (some ⟨g1, 0, none⟩) m c, back (n, d) r', li, hm.symm, ?_, ?_, ?_, ?_, ?_, ?_⟩
        · have := (hf.setSv (.slice (some ⟨g1, 0, none⟩) m c)).setR n.toNat (by omega) (IntKind.u32.wrap (r'.getD n.toNat 0 - d))
          exact ⟨((this.blk.alloc _).drew).drew.drew, this.len⟩
        · have h1 := own_take hown m (by omega)
          rw [stepCells_snoc, List.take_append_of_le_length (by rw [stepCells_length]; omega), List.take_of_length_le (by rw [stepCells_length]; omega)] at h1
          exact own_upd h1 (((((Upd.refl (fun k => k = g) wr).setCell (.inl rfl) _).setCell (.inl rfl) _).alloc _).drew.drew.drew) (fun k hk he => hne (he ▸ hk))
        · rw [← HG.out, List.foldr_append]; rfl
        · intro s hs; exact HB.out s (by simp [hs])
        · exact ((((HU.out.setCell (.inl (.inl rfl)) _).setCell (.inl (.inl rfl)) _).alloc _).drew.drew.drew)
        · exact fun k hk => HO.out k hk
end Go.Proofs.Ytoocbodkjldlcaa.Rg
