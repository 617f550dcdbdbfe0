/- The registers' methods: what each call does to the file's block. -/
import Derived.Test.YtoocbodkjldlcaaBase
namespace Go.Proofs.Ytoocbodkjldlcaa.Rg
set_option linter.unusedVariables false
set_option linter.unusedSimpArgs false
open Go.RowKit

/-- The file's block: sixteen registers, the status, two stacks' ends, the steps' slice. -/
def fileCells (r : List Int) (psl ksp usp : Int) (sv : Value) : Array Value := (r.map (Value.int .u32) ++ [.int .u32 psl, .int .u32 ksp, .int .u32 usp, sv]).toArray
structure FB (w : World) (g : Nat) (r : List Int) (psl ksp usp : Int) (sv : Value) : Prop where
  blk : Blk w g (fileCells r psl ksp usp sv) 57
  len : r.length = 16
section
variable {w : World} {g : Nat} {r : List Int} {psl ksp usp : Int} {sv : Value}
theorem FB.reg (h : FB w g r psl ksp usp sv) (i : Nat) (hi : i < 16) : w.cell? ⟨g, i, none⟩ = some (.int .u32 (r.getD i 0)) := by
  rw [h.blk.cell, fileCells, List.getElem?_toArray, List.getElem?_append_left (by simp [h.len]; omega)]
  simp [List.getD, show i < r.length by rw [h.len]; exact hi]
theorem FB.at_ (h : FB w g r psl ksp usp sv) (i : Nat) : w.cell? ⟨g, 16 + i, none⟩ = ([.int .u32 psl, .int .u32 ksp, .int .u32 usp, sv] : List Value)[i]? := by
  rw [h.blk.cell, fileCells, List.getElem?_toArray, List.getElem?_append_right (by simp [h.len])]
  simp [h.len]
theorem FB.cpsl (h : FB w g r psl ksp usp sv) : w.cell? ⟨g, 16, none⟩ = some (.int .u32 psl) := h.at_ 0
theorem FB.cksp (h : FB w g r psl ksp usp sv) : w.cell? ⟨g, 17, none⟩ = some (.int .u32 ksp) := h.at_ 1
theorem FB.cusp (h : FB w g r psl ksp usp sv) : w.cell? ⟨g, 18, none⟩ = some (.int .u32 usp) := h.at_ 2
theorem FB.csv (h : FB w g r psl ksp usp sv) : w.cell? ⟨g, 19, none⟩ = some sv := h.at_ 3
theorem FB.fz (h : FB w g r psl ksp usp sv) (i : Nat) : w.frozen? ⟨g, i, none⟩ = false := h.blk.frozen i
theorem FB.setR (h : FB w g r psl ksp usp sv) (i : Nat) (hi : i < 16) (x : Int) : FB (w.setCell ⟨g, i, none⟩ (.int .u32 x)) g (r.set i x) psl ksp usp sv := by
  refine ⟨?_, by simp [h.len]⟩
  have := h.blk.set i (.int .u32 x)
  rwa [fileCells, List.setIfInBounds_toArray, List.set_append_left _ _ (by simp [h.len]; omega), ← List.map_set] at this
theorem FB.setAt (h : FB w g r psl ksp usp sv) (i : Nat) (u : Value) : Blk (w.setCell ⟨g, 16 + i, none⟩ u) g (r.map (Value.int .u32) ++ ([.int .u32 psl, .int .u32 ksp, .int .u32 usp, sv] : List Value).set i u).toArray 57 := by
  have := h.blk.set (16 + i) u
  rwa [fileCells, List.setIfInBounds_toArray, List.set_append_right _ _ (by simp [h.len]), show 16 + i - (r.map (Value.int .u32)).length = i by simp [h.len]] at this
theorem FB.setPsl (h : FB w g r psl ksp usp sv) (x : Int) : FB (w.setCell ⟨g, 16, none⟩ (.int .u32 x)) g r x ksp usp sv := ⟨h.setAt 0 _, h.len⟩
theorem FB.setKsp (h : FB w g r psl ksp usp sv) (x : Int) : FB (w.setCell ⟨g, 17, none⟩ (.int .u32 x)) g r psl x usp sv := ⟨h.setAt 1 _, h.len⟩
theorem FB.setUsp (h : FB w g r psl ksp usp sv) (x : Int) : FB (w.setCell ⟨g, 18, none⟩ (.int .u32 x)) g r psl ksp x sv := ⟨h.setAt 2 _, h.len⟩
theorem FB.setSv (h : FB w g r psl ksp usp sv) (x : Value) : FB (w.setCell ⟨g, 19, none⟩ x) g r psl ksp usp x := ⟨h.setAt 3 _, h.len⟩
end

/-- Is a status the user's? -/
def usr (x : Int) : Bool := bits BinOp.and IntKind.u32 x 16777216 != 0

theorem isUser_any (x : Int) (w : World) :
    Calls Try.prog 23 #[.int .u32 x] w fun e w' => e = .returned (.bool (usr x)) ∧ w = w' := by
  go_enter Try.func23, Try.ntmps23
  go_wp2
  go_ret
  exact ⟨rfl, rfl⟩
theorem forget_any (g : Nat) (w : World) (c : Value) (hc : w.cell? ⟨g, 19, none⟩ = some c) (hf : w.frozen? ⟨g, 19, none⟩ = false) :
    Calls Try.prog 10 #[.pointer (some ⟨g, 0, none⟩)] w fun e w' => e = .returned (.tuple #[]) ∧ w' = w.setCell ⟨g, 19, none⟩ (.slice none 0 0) := by
  go_enter Try.func10, Try.ntmps10
  go_wp2
  go_end0
  exact ⟨rfl, rfl⟩
theorem steps_any (g : Nat) (w : World) (ao : Option Addr) (n c : Nat) (hc : w.cell? ⟨g, 19, none⟩ = some (.slice ao n c)) :
    Calls Try.prog 13 #[.pointer (some ⟨g, 0, none⟩)] w fun e w' => e = .returned (.int .i64 n) ∧ w = w' := by
  go_enter Try.func13, Try.ntmps13
  go_wp2
  go_ret
  exact ⟨rfl, rfl⟩


theorem mask_any (n : Int) (w : World) :
    Calls Try.prog 24 #[.int .i64 n] w fun e w' => e = .returned (.int .u32 (if n = 1 then 255 else if n = 2 then 65535 else if n = 4 then 4294967295 else 0)) ∧ w = w' := by
  by_cases h1 : n = 1
  · subst h1
    go_enter Try.func24, Try.ntmps24
    go_wp2
    go_ret
    exact ⟨rfl, rfl⟩
  by_cases h2 : n = 2
  · subst h2
    go_enter Try.func24, Try.ntmps24
    go_wp2
    go_ret
    exact ⟨rfl, rfl⟩
  by_cases h4 : n = 4
  · subst h4
    go_enter Try.func24, Try.ntmps24
    go_wp2
    go_ret
    exact ⟨rfl, rfl⟩
  · have b1 : (n == 1) = false := by simp [h1]
    have b2 : (n == 2) = false := by simp [h2]
    have b4 : (n == 4) = false := by simp [h4]
    rw [if_neg h1, if_neg h2, if_neg h4]
    clear h1 h2 h4
    go_enter Try.func24, Try.ntmps24
    go_wp2
    go_ret
    exact ⟨rfl, rfl⟩

theorem stack_any (g : Nat) (user : Bool) (w : World) {r : List Int} {psl ksp usp : Int} {sv : Value} (h : FB w g r psl ksp usp sv) :
    Calls Try.prog 16 #[.pointer (some ⟨g, 0, none⟩), .bool user] w fun e w' => e = .returned (.int .u32 (if user = usr psl then r.getD 14 0 else if user then usp else ksp)) ∧ w = w' := by
  have c0 := h.cpsl
  have c1 := h.cksp
  have c2 := h.cusp
  have c3 := h.reg 14 (by omega)
  clear h
  generalize hu : usr psl = u
  have Hu := Lib.hid hu
  clear hu
  cases u <;> cases user
  all_goals
    go_enter Try.func16, Try.ntmps16
    go_wp2_with (go_at_call 23; refine (isUser_any _ _).mono ?_; rintro e w' ⟨rfl, rfl⟩; rw [Hu.out])
    go_ret
    exact ⟨rfl, rfl⟩

end Go.Proofs.Ytoocbodkjldlcaa.Rg
