/- New, Set, Get, Load, Save. -/
import Derived.Test.YtoocbodkjldlcaaRg3
import Derived.Laws.Rows
namespace Go.Proofs.Ytoocbodkjldlcaa.Rg
set_option linter.unusedVariables false
set_option linter.unusedSimpArgs false
open Go.RowKit

theorem new_any (w : World) :
    Calls Try.prog 7 #[] w fun e w' => e = .returned (.pointer (some ⟨w.heap.size, 0, none⟩)) ∧ w' = w.alloc (.cells (fileCells (List.replicate 16 0) 0 0 0 (.slice none 0 0)) 57) := by
  go_enter Try.func7, Try.ntmps7
  go_wp2
  go_ret
  exact ⟨rfl, rfl⟩

def mask (n : Int) : Int := if n = 1 then 255 else if n = 2 then 65535 else if n = 4 then 4294967295 else 0
def putB (old x n : Int) : Int := bits BinOp.or IntKind.u32 (bits BinOp.andNot IntKind.u32 old (mask n)) (bits BinOp.and IntKind.u32 x (mask n))
theorem bput_any (old x n : Int) (w : World) :
    Calls Try.prog 32 #[.int .u32 old, .int .u32 x, .int .i64 n] w fun e w' => e = .returned (.int .u32 (putB old x n)) ∧ w' = w := by
  have km : ∀ W, Calls Try.prog 24 #[.int .i64 n] W fun e w' => e = .returned (.int .u32 (mask n)) ∧ w' = W := fun W => (mask_any n W).mono fun _ _ ⟨a, b⟩ => ⟨a, b.symm⟩
  generalize hM : mask n = M at km
  unfold putB
  rw [hM]
  clear hM
  have KM := Lib.hid km
  clear km
  go_enter Try.func32, Try.ntmps32
  go_wp2_with (go_at_call 24; refine (KM.out _).mono ?_; rintro e w' ⟨rfl, rfl⟩)
  go_ret
  exact ⟨rfl, rfl⟩

theorem get_yes (g : Nat) (n x : Int) (w : World) (h0 : 0 ≤ n) (h1 : n ≤ 15) (hc : w.cell? ⟨g, n.toNat, none⟩ = some (.int .u32 x)) :
    Calls Try.prog 22 #[.pointer (some ⟨g, 0, none⟩), .int .i64 n] w fun e w' => e = .returned (.int .u32 x) ∧ w = w' := by
  have h2 : n < 16 := by omega
  go_enter Try.func22, Try.ntmps22
  go_wp2
  go_ret
  exact ⟨rfl, rfl⟩

theorem set_yes (g : Nat) (n x s : Int) (w : World) {r : List Int} {psl ksp usp : Int} {sv : Value} (h : FB w g r psl ksp usp sv) (h0 : 0 ≤ n) (h1 : n ≤ 15) (hs : s = 4) :
    Calls Try.prog 21 #[.pointer (some ⟨g, 0, none⟩), .int .i64 n, .int .u32 x, .int .i64 s] w fun e w' => e = .returned (.int .i64 0) ∧
      ∃ k, w' = (w.setCell ⟨g, n.toNat, none⟩ (.int .u32 (putB (r.getD n.toNat 0) x s))).drewN k := by
  subst hs
  have c := h.reg n.toNat (by omega)
  have f := h.fz
  have h2 : n < 16 := by omega
  have km : ∀ W, Calls Try.prog 24 #[.int .i64 4] W fun e w' => e = .returned (.int .u32 4294967295) ∧ w' = W := fun W => (mask_any 4 W).mono fun _ _ ⟨a, b⟩ => ⟨a, b.symm⟩
  have KM := Lib.hid km
  have kb := fun W => bput_any (r.getD n.toNat 0) x 4 W
  have KB := Lib.hid kb
  clear h km kb
  go_enter Try.func21, Try.ntmps21
  go_wp2_with (go_at_call 24; refine (KM.out _).mono ?_; rintro e w' ⟨rfl, rfl⟩)
  go_region_with (go_at_call 32; refine (KB.out _).mono ?_; rintro e w' ⟨rfl, rfl⟩)
  all_goals go_wp2
  all_goals go_ret
  all_goals exact ⟨rfl, 1, rfl⟩
end Go.Proofs.Ytoocbodkjldlcaa.Rg
