/- Same, where it says yes. -/
import Derived.Test.YtoocbodkjldlcaaSpJ
namespace Go.Proofs.Ytoocbodkjldlcaa.Sp
set_option linter.unusedVariables false
set_option linter.unusedSimpArgs false
set_option maxHeartbeats 4000000
open Go.RowKit
theorem same_yes (k r i v m r' i' v' m' : Int) (w : World) (hi : (i < 0 ∧ i' < 0) ∨ (0 ≤ i ∧ i = i')) (hr : r = r' ∨ k = 0 ∨ k = 12 ∨ k = 13) (hv : v = v' ∨ (5 ≤ k ∧ k ≤ 9)) :
    Calls Try.prog 20 #[.agg (Spc.cells ⟨k, r, i, v, m⟩), .agg (Spc.cells ⟨k, r', i', v', m'⟩)] w fun e w' => e = .returned (.bool true) ∧ Upd (fun _ => False) w w' := by
  unfold Spc.cells
  simp only []
  have hr2 : r = r' ∨ ((r == r') = false ∧ (k = 0 ∨ k = 12 ∨ k = 13)) := by
    by_cases h : r = r'
    · exact .inl h
    · exact .inr ⟨by simpa using h, by omega⟩
  have hv2 : v = v' ∨ ((v == v') = false ∧ (5 ≤ k ∧ k ≤ 9)) := by
    by_cases h : v = v'
    · exact .inl h
    · exact .inr ⟨by simpa using h, by omega⟩
  clear hr hv
  rcases hi with ⟨hi1, hi2⟩ | ⟨hi1, rfl⟩
  · rcases hr2 with rfl | ⟨hr0, rfl | rfl | rfl⟩ <;> rcases hv2 with rfl | ⟨hv0, hv3, hv4⟩
    all_goals
      first
      | exact absurd hv3 (by decide)
      | exact absurd hv4 (by decide)
      | (go_enter Try.func20, Try.ntmps20
         go_wp2
         all_goals go_ret
         all_goals exact ⟨rfl, (((Upd.refl _ w).alloc _).alloc _)⟩)
  · rcases hr2 with rfl | ⟨hr0, rfl | rfl | rfl⟩ <;> rcases hv2 with rfl | ⟨hv0, hv3, hv4⟩
    all_goals
      first
      | exact absurd hv3 (by decide)
      | exact absurd hv4 (by decide)
      | (go_enter Try.func20, Try.ntmps20
         go_wp2
         all_goals go_ret
         all_goals exact ⟨rfl, (((Upd.refl _ w).alloc _).alloc _)⟩)
end Go.Proofs.Ytoocbodkjldlcaa.Sp
