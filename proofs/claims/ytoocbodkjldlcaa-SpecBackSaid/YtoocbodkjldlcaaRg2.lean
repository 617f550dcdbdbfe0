/- The registers' methods that write: what each call does to the file's block. -/
import Derived.Test.YtoocbodkjldlcaaRg1
import Derived.Deep.RegionWith
namespace Go.Proofs.Ytoocbodkjldlcaa.Rg
set_option linter.unusedVariables false
set_option linter.unusedSimpArgs false
open Go.RowKit

theorem setStack_any (g : Nat) (user : Bool) (x : Int) (w : World) {r : List Int} {psl ksp usp : Int} {sv : Value} (h : FB w g r psl ksp usp sv) :
    Calls Try.prog 14 #[.pointer (some ⟨g, 0, none⟩), .bool user, .int .u32 x] w fun e w' => e = .returned (.tuple #[]) ∧
      w' = w.setCell ⟨g, if user = usr psl then 14 else if user then 18 else 17, none⟩ (.int .u32 x) := by
  have c0 := h.cpsl
  have c1 := h.cksp
  have c2 := h.cusp
  have c3 := h.reg 14 (by omega)
  have f := h.fz
  clear h
  generalize hu : usr psl = u
  have Hu := Lib.hid hu
  clear hu
  cases u <;> cases user
  all_goals
    go_enter Try.func14, Try.ntmps14
    go_wp2_with (go_at_call 23; refine (isUser_any _ _).mono ?_; rintro e w' ⟨rfl, rfl⟩; rw [Hu.out])
    go_end0
    exact ⟨rfl, rfl⟩

def putW (w : World) (g : Nat) (r14 psl ksp usp x : Int) : World :=
  (if usr x = usr psl then w else if usr x then (w.setCell ⟨g, 17, none⟩ (.int .u32 r14)).setCell ⟨g, 14, none⟩ (.int .u32 usp)
    else (w.setCell ⟨g, 18, none⟩ (.int .u32 r14)).setCell ⟨g, 14, none⟩ (.int .u32 ksp)).setCell ⟨g, 16, none⟩ (.int .u32 x)

theorem put_any (g : Nat) (x : Int) (w : World) {r : List Int} {psl ksp usp : Int} {sv : Value} (h : FB w g r psl ksp usp sv) :
    Calls Try.prog 15 #[.pointer (some ⟨g, 0, none⟩), .int .u32 x] w fun e w' => e = .returned (.tuple #[]) ∧
      Same w' (putW w g (r.getD 14 0) psl ksp usp x) := by
  have c0 := h.cpsl
  have c1 := h.cksp
  have c2 := h.cusp
  have c3 := h.reg 14 (by omega)
  have f := h.fz
  clear h
  unfold putW
  generalize hu : usr psl = u
  have Hu := Lib.hid hu
  clear hu
  generalize hv : usr x = v
  have Hv := Lib.hid hv
  clear hv
  have ku : ∀ W, Calls Try.prog 23 #[.int .u32 psl] W fun e w' => e = .returned (.bool u) ∧ w' = W := fun W => (isUser_any psl W).mono fun _ _ ⟨a, b⟩ => ⟨by rw [a, Hu.out], b.symm⟩
  have kv : ∀ W, Calls Try.prog 23 #[.int .u32 x] W fun e w' => e = .returned (.bool v) ∧ w' = W := fun W => (isUser_any x W).mono fun _ _ ⟨a, b⟩ => ⟨by rw [a, Hv.out], b.symm⟩
  have KU := Lib.hid ku
  have KV := Lib.hid kv
  clear ku kv Hu Hv
  cases u <;> cases v
  all_goals
    go_enter Try.func15, Try.ntmps15
    go_wp2_with fail
    go_quiet (first | (go_at_call_of 23 (Value.int IntKind.u32 x); refine Calls.quiet_of_same (KV.out _)) | (go_at_call_of 23 (Value.int IntKind.u32 psl); refine Calls.quiet_of_same (KU.out _)))
    go_wp2_with (go_at_call 23; refine (KV.out _).mono ?_; rintro e w' ⟨rfl, rfl⟩)
  · go_end0
    exact ⟨rfl, rfl, rfl, rfl, rfl⟩
  · go_region
    all_goals go_wp2
    all_goals go_end0
    all_goals exact ⟨rfl, rfl, rfl, rfl, rfl⟩
  · go_region
    all_goals go_wp2
    all_goals go_end0
    all_goals exact ⟨rfl, rfl, rfl, rfl, rfl⟩
  · go_end0
    exact ⟨rfl, rfl, rfl, rfl, rfl⟩

/-- The steps' cells. -/
def stepCells (l : List (Int × Int)) : List Value := l.flatMap fun s => [.int .i64 s.1, .int .u32 s.2]
theorem info59 : (Try.prog.info? 59).map (fun i => (i.zero, i.size, i.bytes)) = some (some (.agg #[.int .i64 0, .int .u32 0]), 2, 16) := by kernel_rfl

/-- What a call may have done to the file and its steps: the new file, the new slice, and what else stays. -/
def FileEnds (w w' : World) (g : Nat) (sv : Value) (r : List Int) (psl ksp usp : Int) (l : List (Int × Int)) : Prop :=
  ∃ sv', FB w' g r psl ksp usp sv' ∧ w'.ownsRow 0 59 2 sv' l.length (stepCells l) ∧ Upd (fun k => k = g ∨ OB sv k) w w' ∧ (∀ k, OB sv' k → OB sv k ∨ w.heap.size ≤ k)

theorem step_yes (g : Nat) (n d : Int) (w : World) {r : List Int} {psl ksp usp : Int} {sv : Value} {l : List (Int × Int)} (h : FB w g r psl ksp usp sv) (ho : w.ownsRow 0 59 2 sv l.length (stepCells l))
    (h0 : 0 ≤ n) (h1 : n ≤ 15) (hl : (l.length + 1) * 16 ≤ 140737488355328) :
    Calls Try.prog 9 #[.pointer (some ⟨g, 0, none⟩), .int .i64 n, .int .u32 d] w fun e w' => e = .returned (.int .i64 0) ∧
      FileEnds w w' g sv (r.set n.toNat (IntKind.u32.wrap (r.getD n.toNat 0 + d))) psl ksp usp (l ++ [(n, d)]) := by
  have h2 : n < 16 := by omega
  have c := h.reg n.toNat (by omega)
  have c3 := h.csv
  have f := h.fz
  have hlt := h.blk.lt
  have hne := own_ne ho h.blk (by decide)
  go_enter Try.func9, Try.ntmps9
  go_wp2_with fail
  go_region
  go_wp2_with (at_builtin; go_must (refine wpList_app1 rfl (.tmp 32) (.tmp 36) 55 59 _ 2 16 rfl Try.underlying55 info59 rfl (by decide) (by decide) sv l.length (stepCells l) [.int .i64 n, .int .u32 d] w.heap.size rfl rfl rfl ?c1 ?c0 ?c2 hl ?c3))
  case c1 => simp [Value.oneCell']
  case c0 => exact Blk.drew (by simpa using Blk.new (w.setCell _ _) _ _)
  case c2 => exact own_upd ho (((Upd.refl (fun k => k = g) w).setCell (.inl rfl) _).alloc _).drew (fun k hk he => hne (he ▸ hk))
  case c3 =>
    intro g1 c1 w1 own1 up1 hg1
    have fb1 : FB w1 g (r.set n.toNat (IntKind.u32.wrap (r.getD n.toNat 0 + d))) psl ksp usp sv := ⟨(((h.setR n.toNat (by omega) _).blk.alloc _).drew).upd up1 hne, by simp [h.len]⟩
    have k3 := fb1.csv
    have kf := fb1.fz
    go_wp2
    go_ret
    refine ⟨rfl, _, fb1.setSv _, ?_, ?_, ?_⟩
    · have := own_far own1 (p := ⟨g, 19, none⟩) (own_ne own1 fb1.blk (by decide)) (.slice (some ⟨g1, 0, none⟩) (l.length + 1) c1)
      simpa [stepCells] using this
    · exact ((((Upd.refl _ w).setCell (.inl (.inl rfl)) _).alloc _).drew.trans up1 (fun _ _ h => .inr h)).setCell (.inl (.inl rfl)) _
    · intro k hk
      cases hk
      rcases hg1 with h | h
      · exact .inl h
      · exact .inr (by show w.heap.size ≤ g1; omega)

/-- A step at a register that isn't there. -/
theorem step_no (g : Nat) (n d : Int) (w : World) (hn : n < 0 ∨ 15 < n) :
    Calls Try.prog 9 #[.pointer (some ⟨g, 0, none⟩), .int .i64 n, .int .u32 d] w fun e w' => e = .returned (.int .i64 1) ∧ w = w' := by
  rcases hn with hn | hn
  · go_enter Try.func9, Try.ntmps9
    go_wp2
    go_ret
    exact ⟨rfl, rfl⟩
  · have hn0 : ¬ n < 0 := by omega
    go_enter Try.func9, Try.ntmps9
    go_wp2
    go_ret
    exact ⟨rfl, rfl⟩

end Go.Proofs.Ytoocbodkjldlcaa.Rg
