/- '==' on states and on their registers: a state is equal to itself. -/
import Derived.Test.YtoocbodkjldlcaaRg6
import Derived.ChangeKeysEq
namespace Go.Proofs.Ytoocbodkjldlcaa.Rg
set_option linter.unusedVariables false
set_option linter.unusedSimpArgs false
open Go.RowKit

theorem cells22 : Try.prog.cellsOf 22 = 1 := by kernel_rfl
theorem info22 : ∃ i, Try.prog.info? 22 = some i := by
  have h : (Try.prog.info? 22).isSome = true := by kernel_rfl
  exact Option.isSome_iff_exists.1 h
theorem isAgg22 (w : World) : (isAgg 22).run Try.prog w = .ok false w := by
  unfold isAgg; rw [Sem.run_bind, run_underlying Try.underlying22 w]; rfl
theorem eqItems_self (d : Nat) (r : List Int) (w : World) : ∀ is : List Nat, (∀ i ∈ is, i < r.length) →
    (Op.eqItems (d + 1) 22 1 (r.map (Value.int .u32)).toArray (r.map (Value.int .u32)).toArray is).run Try.prog w = .ok true w
  | [], _ => by simp [Op.eqItems]
  | i :: is, h => by
    have hp : (part 22 (r.map (Value.int .u32)).toArray (i * 1)).run Try.prog w = .ok (.int .u32 (r.getD i 0)) w := by
      unfold part
      rw [Sem.run_bind, isAgg22]
      have hi := h i (by simp)
      simp [hi, List.getD]
    simp only [Op.eqItems, Sem.run_bind, hp, Result.andThen_ok, run_equalIn_int w d 22 .u32 .u32 _ _ Try.underlying22]
    simpa using eqItems_self d r w is (fun j hj => h j (by simp [hj]))
theorem equalIn23 (d : Nat) {r : List Int} (hr : r.length = 16) (w : World) :
    (Op.equalIn (d + 2) 23 (.agg (r.map (Value.int .u32)).toArray) (.agg (r.map (Value.int .u32)).toArray)).run Try.prog w = .ok true w := by
  obtain ⟨i, hi⟩ := info22
  rw [run_equalIn_array w (d + 1) _ _ Try.underlying23 hi, cells22]
  exact eqItems_self d r w _ (fun i hi => by rw [hr]; exact List.mem_range.1 hi)

set_option maxHeartbeats 1000000 in
theorem eq27 {r : List Int} (hr : r.length = 16) (a b c : Int) {rest : List Value} (hrest : Rest rest) (w : World) :
    (binOp .eql 27 (.agg (stateCells r a b c rest).toArray) (.agg (stateCells r a b c rest).toArray)).run Try.prog w = .ok (.bool true) w := by
  have h23 := fun d w => equalIn23 d hr w
  obtain ⟨r0, r1, r2, r3, r4, r5, r6, r7, r8, r9, r10, r11, r12, r13, r14, r15, rfl⟩ := list16 r hr
  obtain ⟨s0, s1, s2, s3, s4, s5, s6, rfl⟩ := hrest.ex
  simp only [List.map_cons, List.map_nil] at h23
  have h23' := h23 9997
  simp only [Nat.reduceAdd] at h23'
  simp only [stateCells, List.map_cons, List.map_nil, List.cons_append, List.nil_append]
  simp [go_sem, binOp, Op.equal, Op.maxDepth, h23']
theorem eq23 {r : List Int} (hr : r.length = 16) (w : World) :
    (binOp .eql 23 (.agg (r.map (Value.int .u32)).toArray) (.agg (r.map (Value.int .u32)).toArray)).run Try.prog w = .ok (.bool true) w := by
  have h := equalIn23 9998 hr w
  simp only [Nat.reduceAdd] at h
  simp only [binOp, Op.equal, Op.maxDepth, Sem.run_bind, h, Result.andThen_ok, Sem.run_pure]
end Go.Proofs.Ytoocbodkjldlcaa.Rg
