/-
  No cell of these rows narrows 'for every input' (looked for: loops, veiled, ifaces, maps, wideKeys, modest, calm, conditions, laid).
  DERIVED. THE GIVEN ROWS OF THIS SEAT. 3 by the template 'for every input the law returns true; each argument reads behind the call as it read before'; 0 by the template 'total and deterministic' (their statements: YtoocbodkjldlcaaTotals.lean).
  GIVEN WITH THE SEED: the statements are not yours to turn. If you find one false, say at which input.
  Laid BY PROGRAM, IN A SANDBOX (cutbox-rows.mjs): the forced cells as the released guide's own fill.sh prints them over the translation c79432c78c5b33a7… (all of the seat's roots in one cut). By AI agents, Wed Nov 11 2026. No macro, syntax, notation, axiom, sorry.
-/
import Derived.Test.YtoocbodkjldlcaaChecked
import GoSem.Claim
import GoSem.ClaimJoined
import GoSem.ClaimMapViews
import Derived.JoinedTies
import Derived.KernelRfl
namespace Go.Proofs.Ytoocbodkjldlcaa
/- THE CELL 'sum', in the pinned program and in every row, IS THE sha256 OF THE DUMP (.gsa) THAT YtoocbodkjldlcaaProg.lean LOADS. Nothing in Lean hashes anything: it is a label: what it is worth is what the hold of that sum in a sandbox is worth. -/
noncomputable def Try.pinned : Pinned := { name := "ytoocbodkjldlcaa", sum := "c79432c78c5b33a776137c67d2f00c46b16db0c59a6270072dc88640c3267615", checked := Try.checked }
namespace Rows
def none {H : Type} : Left H := { results := [], args := [] }

/-- 'camshaftlaw07.RegsForgets': WHATEVER THE INPUT: true; the input reads as it did. -/
def regsForgetsSpec : ChangeSpec := { name := "regsForgets", fn := fun _ => fun
  | [d1, d2, d3, d4] => { results := [.lit (.bool true)], args := [d1, d2, d3, d4] }
  | _ => none }
def regsForgetsRow : OpenClaim := { program := "ytoocbodkjldlcaa", sum := "c79432c78c5b33a776137c67d2f00c46b16db0c59a6270072dc88640c3267615", func := "camshaft/camshaftlaw07.RegsForgets", spec := "regsForgets", apart := false }
def RegsForgetsSaid : Prop := regsForgetsRow.holds Try.pinned (OpenSpec.ofChange regsForgetsSpec)

/-- ITS FALSE NEIGHBOUR: 'it returns false'. Refute it at one input. -/
def regsForgetsWrong : ChangeSpec := { name := "regsForgets", fn := fun _ => fun
  | [d1, d2, d3, d4] => { results := [.lit (.bool false)], args := [d1, d2, d3, d4] }
  | _ => none }
def RegsForgetsWrongFalsely : Prop := regsForgetsRow.holds Try.pinned (OpenSpec.ofChange regsForgetsWrong)

/-- 'camshaftlaw07.RegsStacks': WHATEVER THE INPUT: true; the input reads as it did. -/
def regsStacksSpec : ChangeSpec := { name := "regsStacks", fn := fun _ => fun
  | [d1, d2, d3, d4, d5] => { results := [.lit (.bool true)], args := [d1, d2, d3, d4, d5] }
  | _ => none }
def regsStacksRow : OpenClaim := { program := "ytoocbodkjldlcaa", sum := "c79432c78c5b33a776137c67d2f00c46b16db0c59a6270072dc88640c3267615", func := "camshaft/camshaftlaw07.RegsStacks", spec := "regsStacks", apart := false }
def RegsStacksSaid : Prop := regsStacksRow.holds Try.pinned (OpenSpec.ofChange regsStacksSpec)

/-- ITS FALSE NEIGHBOUR: 'it returns false'. Refute it at one input. -/
def regsStacksWrong : ChangeSpec := { name := "regsStacks", fn := fun _ => fun
  | [d1, d2, d3, d4, d5] => { results := [.lit (.bool false)], args := [d1, d2, d3, d4, d5] }
  | _ => none }
def RegsStacksWrongFalsely : Prop := regsStacksRow.holds Try.pinned (OpenSpec.ofChange regsStacksWrong)

/-- 'camshaftlaw11.SpecBack': WHATEVER THE INPUT: true; the input reads as it did. -/
def specBackSpec : ChangeSpec := { name := "specBack", fn := fun _ => fun
  | [d1, d2, d3] => { results := [.lit (.bool true)], args := [d1, d2, d3] }
  | _ => none }
def specBackRow : OpenClaim := { program := "ytoocbodkjldlcaa", sum := "c79432c78c5b33a776137c67d2f00c46b16db0c59a6270072dc88640c3267615", func := "camshaft/camshaftlaw11.SpecBack", spec := "specBack", apart := false }
def SpecBackSaid : Prop := specBackRow.holds Try.pinned (OpenSpec.ofChange specBackSpec)

/-- ITS FALSE NEIGHBOUR: 'it returns false'. Refute it at one input. -/
def specBackWrong : ChangeSpec := { name := "specBack", fn := fun _ => fun
  | [d1, d2, d3] => { results := [.lit (.bool false)], args := [d1, d2, d3] }
  | _ => none }
def SpecBackWrongFalsely : Prop := specBackRow.holds Try.pinned (OpenSpec.ofChange specBackWrong)

/- THE SECOND FORM. 'bulk': how many values and letters a reading holds, each counted each time it is reached (what is shared counts as often as it is met; a slice's spare places count too). A statement '..UptoSaid' is the law's where the arguments, and the package variables that the reading takes, are together of bulk at most 1048576: NARROWER than '..Said'. Prove '..Said' where nothing that the law and all that it calls make is longer than what came in: it says more and counts as full. Else prove '..UptoSaid'. A law counts once. -/
mutual
def uptoBulk {H : Type} : DataW H → Nat
  | .lit (.string bytes) => bytes.length + 1
  | .lit _ => 1
  | .nil => 1
  | .ptr d => uptoBulk d + 1
  | .slice elems spare => uptoBulkAll elems + uptoBulkAll spare + 1
  | .agg parts => uptoBulkAll parts + 1
  | .iface _ d => uptoBulk d + 1
  | .map entries => uptoBulkEntries entries + 1
  | .held _ => 1
def uptoBulkAll {H : Type} : List (DataW H) → Nat
  | [] => 0
  | d :: r => uptoBulk d + uptoBulkAll r
def uptoBulkEntries {H : Type} : List (Lit × DataW H) → Nat
  | [] => 0
  | x :: r => uptoBulkEntry x + uptoBulkEntries r
def uptoBulkEntry {H : Type} : Lit × DataW H → Nat
  | (.string bytes, d) => bytes.length + uptoBulk d + 1
  | (_, d) => uptoBulk d + 1
 end
def uptoSmall : (H : Type) → List (DataW H) → Bool := fun _ ds => decide (uptoBulkAll ds ≤ 1048576)
def OpenSpec.upto (s : _root_.Go.ChangeSpec) : _root_.Go.OpenSpec := { _root_.Go.OpenSpec.ofChange s with cond := some uptoSmall }

/-- 'camshaftlaw07.RegsForgets', WHERE WHAT IT READS IS OF BULK AT MOST 1048576: true; the input reads as it did. -/
def regsForgetsUptoRow : OpenClaim := { program := "ytoocbodkjldlcaa", sum := "c79432c78c5b33a776137c67d2f00c46b16db0c59a6270072dc88640c3267615", func := "camshaft/camshaftlaw07.RegsForgets", spec := "regsForgets", apart := false, narrowed := true }
def RegsForgetsUptoSaid : Prop := regsForgetsUptoRow.holds Try.pinned (OpenSpec.upto regsForgetsSpec)

/-- 'camshaftlaw07.RegsStacks', WHERE WHAT IT READS IS OF BULK AT MOST 1048576: true; the input reads as it did. -/
def regsStacksUptoRow : OpenClaim := { program := "ytoocbodkjldlcaa", sum := "c79432c78c5b33a776137c67d2f00c46b16db0c59a6270072dc88640c3267615", func := "camshaft/camshaftlaw07.RegsStacks", spec := "regsStacks", apart := false, narrowed := true }
def RegsStacksUptoSaid : Prop := regsStacksUptoRow.holds Try.pinned (OpenSpec.upto regsStacksSpec)

/-- 'camshaftlaw11.SpecBack', WHERE WHAT IT READS IS OF BULK AT MOST 1048576: true; the input reads as it did. -/
def specBackUptoRow : OpenClaim := { program := "ytoocbodkjldlcaa", sum := "c79432c78c5b33a776137c67d2f00c46b16db0c59a6270072dc88640c3267615", func := "camshaft/camshaftlaw11.SpecBack", spec := "specBack", apart := false, narrowed := true }
def SpecBackUptoSaid : Prop := specBackUptoRow.holds Try.pinned (OpenSpec.upto specBackSpec)

end Rows
end Go.Proofs.Ytoocbodkjldlcaa
