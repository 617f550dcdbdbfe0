/- Load and Save: a state's cells into the file, and back. -/
import Derived.Test.YtoocbodkjldlcaaRg4
import Derived.Deep.MidRow
namespace Go.Proofs.Ytoocbodkjldlcaa.Rg
set_option linter.unusedVariables false
set_option linter.unusedSimpArgs false
open Go.RowKit

def stateCells (r : List Int) (psl ksp usp : Int) (rest : List Value) : List Value := r.map (Value.int .u32) ++ (Value.int .u32 psl :: Value.int .u32 ksp :: Value.int .u32 usp :: rest)
theorem stateCells_get {r : List Int} (hr : r.length = 16) (psl ksp usp : Int) (rest : List Value) (i : Nat) : (stateCells r psl ksp usp rest)[16 + i]? = (Value.int .u32 psl :: Value.int .u32 ksp :: Value.int .u32 usp :: rest)[i]? := by
  rw [stateCells, List.getElem?_append_right (by simp [hr])]; simp [hr]
theorem stateCells_set {r : List Int} (hr : r.length = 16) (psl ksp usp : Int) (rest : List Value) (i : Nat) (v : Value) :
    (stateCells r psl ksp usp rest).set (16 + i) v = r.map (Value.int .u32) ++ (Value.int .u32 psl :: Value.int .u32 ksp :: Value.int .u32 usp :: rest).set i v := by
  rw [stateCells, List.set_append_right _ _ (by simp [hr])]; simp [hr]
theorem stateCells_length {r : List Int} (hr : r.length = 16) (psl ksp usp : Int) (rest : List Value) (hrest : rest.length = 7) : (stateCells r psl ksp usp rest).length = 26 := by simp [stateCells, hr, hrest]
theorem size23 : (Try.prog.info? 23).map (·.size) = some 16 := by kernel_rfl
theorem size27 : (Try.prog.info? 27).map (·.size) = some 26 := by kernel_rfl
theorem size57 : (Try.prog.info? 57).map (·.size) = some 20 := by kernel_rfl

theorem fileRange {w : World} {g : Nat} {r : List Int} {psl ksp usp : Int} {sv : Value} (h : FB w g r psl ksp usp sv) : w.rangeAt g 0 (r.map (Value.int .u32)) := by
  intro j v hv
  rw [Nat.zero_add, h.blk.cell, fileCells, List.getElem?_toArray, List.getElem?_append_left (by exact (List.getElem?_eq_some_iff.1 hv).1)]
  exact hv
theorem blkRange {w : World} {g : Nat} {cs : List Value} {T : TypeId} (h : Blk w g cs.toArray T) (o n : Nat) : w.rangeAt g o ((cs.drop o).take n) := by
  intro j v hv
  rw [h.cell, List.getElem?_toArray]
  rw [List.getElem?_take] at hv
  split at hv
  · rw [← hv, List.getElem?_drop]
  · cases hv

/-- The tables, the vectors' base, the halt: what the file leaves alone. -/
structure Rest (rest : List Value) : Prop where
  ex : ∃ a b c d e f g, rest = [.int .u32 a, .int .u32 b, .int .u32 c, .int .u32 d, .int .u32 e, .int .u32 f, .int .i64 g]
theorem list16 {α : Type} (r : List α) (h : r.length = 16) : ∃ r0 r1 r2 r3 r4 r5 r6 r7 r8 r9 r10 r11 r12 r13 r14 r15, r = [r0, r1, r2, r3, r4, r5, r6, r7, r8, r9, r10, r11, r12, r13, r14, r15] := by
  match r, h with
  | [r0, r1, r2, r3, r4, r5, r6, r7, r8, r9, r10, r11, r12, r13, r14, r15], _ => exact ⟨_, _, _, _, _, _, _, _, _, _, _, _, _, _, _, _, rfl⟩

theorem load_any (g : Nat) (w : World) {r : List Int} {psl ksp usp : Int} {sv : Value} (h : FB w g r psl ksp usp sv) (r' : List Int) (psl' ksp' usp' : Int) (rest : List Value) (hr : r'.length = 16) :
    Calls Try.prog 8 #[.pointer (some ⟨g, 0, none⟩), .agg (stateCells r' psl' ksp' usp' rest).toArray] w fun e w' => e = .returned (.tuple #[]) ∧ FB w' g r' psl' ksp' usp' (.slice none 0 0) ∧ Upd (fun k => k = g) w w' := by
  have hlt := h.blk.lt
  have bx : Blk (w.alloc (.cells (stateCells r' psl' ksp' usp' rest).toArray 27)) w.heap.size (stateCells r' psl' ksp' usp' rest).toArray 27 := Blk.new _ _ _
  have rg := blkRange bx 0 16
  have e16 : ((stateCells r' psl' ksp' usp' rest).drop 0).take 16 = r'.map (Value.int .u32) := by simp [stateCells, hr]
  rw [e16] at rg
  have k16 : (stateCells r' psl' ksp' usp' rest).toArray[16]? = some (.int .u32 psl') := by
    rw [List.getElem?_toArray, stateCells, List.getElem?_append_right (by simp [hr])]; simp [hr]
  have k17 : (stateCells r' psl' ksp' usp' rest).toArray[17]? = some (.int .u32 ksp') := by
    rw [List.getElem?_toArray, stateCells, List.getElem?_append_right (by simp [hr])]; simp [hr]
  have k18 : (stateCells r' psl' ksp' usp' rest).toArray[18]? = some (.int .u32 usp') := by
    rw [List.getElem?_toArray, stateCells, List.getElem?_append_right (by simp [hr])]; simp [hr]
  have HB := Lib.hid (h.blk.alloc (.cells (stateCells r' psl' ksp' usp' rest).toArray 27))
  have HL := Lib.hid h.len
  clear h e16 bx
  generalize hst : (stateCells r' psl' ksp' usp' rest).toArray = st at *
  clear hst
  obtain ⟨r0, r1, r2, r3, r4, r5, r6, r7, r8, r9, r10, r11, r12, r13, r14, r15, rfl⟩ := list16 r' hr
  simp only [List.map_cons, List.map_nil] at rg
  have HR := Lib.hid rg
  clear rg
  go_enter Try.func8, Try.ntmps8
  go_wp2_with (first
    | (refine wpList_load_mid rfl 23 (.tmp 7) rfl w.heap.size 0 rfl _ _ HR.out Try.underlying23 rfl size23 ?_)
    | (refine wpList_store_row rfl 57 (.tmp 16) (.tmp 15) rfl g _ rfl rfl 57 _ HB.out size57 ?c1 ?c2 ?c3))
  case c1 => simp [fileCells, HL.out]
  case c2 => simp [Value.oneCell']
  case c3 =>
    go_wp2
    go_end0
    refine ⟨rfl, ⟨?_, rfl⟩, ?_⟩
    · exact setRow_heap _ _ _ _ _ _ HB.out
    · exact ⟨rfl, rfl, rfl, by simp, fun k hk hn => (setRow_other _ _ _ _ hn).trans (Below.heap_alloc _ _ _ hk)⟩

end Go.Proofs.Ytoocbodkjldlcaa.Rg
