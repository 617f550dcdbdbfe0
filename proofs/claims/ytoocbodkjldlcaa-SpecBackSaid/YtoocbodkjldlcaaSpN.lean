/- What Encode comes to. -/
import Derived.Test.YtoocbodkjldlcaaSpJ
namespace Go.Proofs.Ytoocbodkjldlcaa.Sp
set_option linter.unusedVariables false
set_option linter.unusedSimpArgs false
open Go.RowKit
/-- What Encode answers: the code, and the number of the error. -/
def Enc (w : World) (p : List Int × Int) (e : Ending) (w' : World) : Prop := ∃ x, e = .returned (.tuple #[x, .int .i64 p.2]) ∧ OwnB w' w.heap.size x p.1 ∧ Upd (fun _ => False) w w'
def encB (s : Spc) (n : Int) : List Int × Int := if s.k = 12 ∧ s.i < 0 ∧ 0 ≤ s.r ∧ s.r ≤ 15 ∧ ext s.v n = s.v then (putB s.v n.toNat, 0) else ([], 1)
/-- The byte of an index. -/
def ib (i : Int) : Int := bits BinOp.or IntKind.u8 64 (rm i)
def codeF (s : Spc) (n : Nat) : List Int := if 0 ≤ s.i then ib s.i :: (firstF s n).1 else (firstF s n).1
def encF (s : Spc) (acc n : Int) : List Int × Int :=
  if msk n = 0 then ([], 1) else if acc = 98 then encB s n
  else if (firstF s n.toNat).2 = false ∨ s.r < 0 ∨ 15 < s.r ∨ 15 < s.i then ([], 1)
  else if (decF (codeF s n.toNat) acc n).2 ≠ 0 ∨ (decF (codeF s n.toNat) acc n).1.k ≠ s.k ∨ (s.k = 12 ∧ ext s.v n ≠ s.v) then ([], 1)
  else (codeF s n.toNat, 0)
theorem firstF_len (s : Spc) (n : Nat) (hn : n ≤ 4) : (firstF s n).1.length ≤ 5 := by
  unfold firstF putB
  split
  · simp
  split
  · simp
  split
  · split
    · simp
    · split <;> simp
  split
  · simp; omega
  split <;> simp
end Go.Proofs.Ytoocbodkjldlcaa.Sp
