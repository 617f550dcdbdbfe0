/- Save. -/
import Derived.Test.YtoocbodkjldlcaaRg5
import Derived.Test.YtoocbodkjldlcaaReg
namespace Go.Proofs.Ytoocbodkjldlcaa.Rg
set_option linter.unusedVariables false
set_option linter.unusedSimpArgs false
open Go.RowKit

/-- The world within the statement that fills the box: which of the four stores are done. -/
def SaveD (w0 : World) (g b : Nat) (r : List Int) (psl ksp usp : Int) (sv : Value) (r' : List Int) (psl' ksp' usp' : Int) (rest : List Value) : List Bool → World → Prop
  | [b0, b1, b2, b3], w => FB w g r psl ksp usp sv ∧ Blk w b (stateCells (if b0 then r else r') (if b1 then psl else psl') (if b2 then ksp else ksp') (if b3 then usp else usp') rest).toArray 27 ∧
      (∃ z, Blk w (b + 1) z 27 ∧ z.size = 26) ∧ Upd (fun k => b ≤ k) w0 w
  | _, _ => False

set_option maxRecDepth 100000 in
theorem save_any (g : Nat) (w : World) {r : List Int} {psl ksp usp : Int} {sv : Value} (h : FB w g r psl ksp usp sv) (r' : List Int) (psl' ksp' usp' : Int) (rest : List Value) (hr : r'.length = 16) (hrest : rest.length = 7) (hone : ∀ v ∈ rest, v.oneCell' = true) :
    Calls Try.prog 11 #[.pointer (some ⟨g, 0, none⟩), .agg (stateCells r' psl' ksp' usp' rest).toArray] w fun e w' => e = .returned (.agg (stateCells r psl ksp usp rest).toArray) ∧ Upd (fun _ => False) w w' := by
  have hlt := h.blk.lt
  have H := Lib.hid h
  have hst : ∃ st, st = (stateCells r' psl' ksp' usp' rest).toArray := ⟨_, rfl⟩
  obtain ⟨st, hst⟩ := hst
  rw [← hst]
  have HS := Lib.hid hst
  clear hst h
  go_enter Try.func11, Try.ntmps11
  go_wp2
  have hz : ∃ z : Array Value, z = #[Value.int IntKind.u32 0, Value.int IntKind.u32 0, Value.int IntKind.u32 0, Value.int IntKind.u32 0,
        Value.int IntKind.u32 0, Value.int IntKind.u32 0, Value.int IntKind.u32 0, Value.int IntKind.u32 0,
        Value.int IntKind.u32 0, Value.int IntKind.u32 0, Value.int IntKind.u32 0, Value.int IntKind.u32 0,
        Value.int IntKind.u32 0, Value.int IntKind.u32 0, Value.int IntKind.u32 0, Value.int IntKind.u32 0,
        Value.int IntKind.u32 0, Value.int IntKind.u32 0, Value.int IntKind.u32 0, Value.int IntKind.u32 0,
        Value.int IntKind.u32 0, Value.int IntKind.u32 0, Value.int IntKind.u32 0, Value.int IntKind.u32 0,
        Value.int IntKind.u32 0, Value.int IntKind.i64 0] := ⟨_, rfl⟩
  obtain ⟨z, hz⟩ := hz
  rw [← hz]
  refine wp_region_L (CE [17, 19, 21, 23] (SaveD w g w.heap.size r psl ksp usp sv r' psl' ksp' usp' rest)) (by kernel_rfl) (by kernel_rfl) ?_ ?_
  · refine ⟨⟨((H.out.blk.alloc _).alloc _).drew, H.out.len⟩, ?_, ⟨z, ?_, ?_⟩, ?_⟩
    · have e : (stateCells r' psl' ksp' usp' rest).toArray = st := HS.out.symm
      show Blk _ _ (stateCells r' psl' ksp' usp' rest).toArray 27
      rw [e]
      exact ((Blk.new w st 27).alloc _).drew
    · have := Blk.new (w.alloc (.cells st 27)) z 27
      rw [World.size_alloc] at this
      exact this.drew
    · rw [hz]; rfl
    · exact (((Upd.refl _ w).alloc _).alloc _).drew
  refine walkL_pure rfl rfl ?_ ?_ ?_
  rotate_left
  · intro w; go_simp; rfl
  simp only [Act.put, List.setIfInBounds_toArray, List.set, Nat.reduceAdd]
  refine walkL_pure rfl rfl ?_ ?_ ?_
  rotate_left
  · intro w; go_simp; rfl
  simp only [Act.put, List.setIfInBounds_toArray, List.set, Nat.reduceAdd]
  refine walkL_pure rfl rfl ?_ ?_ ?_
  rotate_left
  · intro w; go_simp; rfl
  simp only [Act.put, List.setIfInBounds_toArray, List.set, Nat.reduceAdd]
  refine walkL_read rfl rfl (.agg (r.map (Value.int .u32)).toArray) ?_ ?_
  · rintro L w1 hn ⟨h1, h2, h3, h4⟩
    exact exec_load rfl rfl (run_loadVar_mid _ _ _ _ _ _ (fileRange h1) Try.underlying23 rfl (by simp [h1.len, size23]))
  simp only [Act.put, List.setIfInBounds_toArray, List.set, Nat.reduceAdd]
  refine walkL_pure rfl rfl ?_ ?_ ?_
  rotate_left
  · intro w; go_simp; rfl
  simp only [Act.put, List.setIfInBounds_toArray, List.set, Nat.reduceAdd]
  refine walkL_pure rfl rfl ?_ ?_ ?_
  rotate_left
  · intro w; go_simp; rfl
  simp only [Act.put, List.setIfInBounds_toArray, List.set, Nat.reduceAdd]
  refine walkL_pure rfl rfl ?_ ?_ ?_
  rotate_left
  · intro w; go_simp; rfl
  simp only [Act.put, List.setIfInBounds_toArray, List.set, Nat.reduceAdd]
  refine walkL_read rfl rfl (.int .u32 psl) ?_ ?_
  · rintro L w1 hn ⟨h1, h2, h3, h4⟩
    have c := h1.cpsl
    go_simp
  simp only [Act.put, List.setIfInBounds_toArray, List.set, Nat.reduceAdd]
  refine walkL_pure rfl rfl ?_ ?_ ?_
  rotate_left
  · intro w; go_simp; rfl
  simp only [Act.put, List.setIfInBounds_toArray, List.set, Nat.reduceAdd]
  refine walkL_pure rfl rfl ?_ ?_ ?_
  rotate_left
  · intro w; go_simp; rfl
  simp only [Act.put, List.setIfInBounds_toArray, List.set, Nat.reduceAdd]
  refine walkL_pure rfl rfl ?_ ?_ ?_
  rotate_left
  · intro w; go_simp; rfl
  simp only [Act.put, List.setIfInBounds_toArray, List.set, Nat.reduceAdd]
  refine walkL_read rfl rfl (.int .u32 ksp) ?_ ?_
  · rintro L w1 hn ⟨h1, h2, h3, h4⟩
    have c := h1.cksp
    go_simp
  simp only [Act.put, List.setIfInBounds_toArray, List.set, Nat.reduceAdd]
  refine walkL_pure rfl rfl ?_ ?_ ?_
  rotate_left
  · intro w; go_simp; rfl
  simp only [Act.put, List.setIfInBounds_toArray, List.set, Nat.reduceAdd]
  refine walkL_pure rfl rfl ?_ ?_ ?_
  rotate_left
  · intro w; go_simp; rfl
  simp only [Act.put, List.setIfInBounds_toArray, List.set, Nat.reduceAdd]
  refine walkL_pure rfl rfl ?_ ?_ ?_
  rotate_left
  · intro w; go_simp; rfl
  simp only [Act.put, List.setIfInBounds_toArray, List.set, Nat.reduceAdd]
  refine walkL_read rfl rfl (.int .u32 usp) ?_ ?_
  · rintro L w1 hn ⟨h1, h2, h3, h4⟩
    have c := h1.cusp
    go_simp
  simp only [Act.put, List.setIfInBounds_toArray, List.set, Nat.reduceAdd]
  refine walkL_pure rfl rfl ?_ ?_ ?_
  rotate_left
  · intro w; go_simp; rfl
  simp only [Act.put, List.setIfInBounds_toArray, List.set, Nat.reduceAdd]
  refine walkL_act rfl ?_ ?_
  · rintro L w1 hn ⟨h1, h2, h3, h4⟩
    dsimp only at h2
    have m0 : L.getD 17 false = false := getD_both (mem_ready.1 hn.ready).1
    have hne : ¬ g = w.heap.size := by omega
    have hl : (if L.getD 17 false = true then r else r').length = 16 := by split; exact h1.len; exact hr
    refine ⟨_, exec_store rfl rfl rfl (run_storeVar_mid w1 w.heap.size 0 23 (r.map (Value.int .u32)).toArray ?_ (by simp [h1.len, size23]) (all_oneCell_toArray ?_)), ?_⟩
    · exact h2.there 0 _ (by simp only [List.size_toArray, List.length_map]; rw [stateCells_length hl _ _ _ _ hrest, h1.len]; omega)
    · intro v hv; obtain ⟨x, _, rfl⟩ := List.mem_map.1 hv; rfl
    · unfold CE; simp only [List.map_cons, List.map_nil]
      rw [hn.set_self, getD_set_ne false (by decide), getD_set_ne false (by decide), getD_set_ne false (by decide)]
      simp only [m0] at h2
      refine ⟨?_, ?_, ?_, Upd.setCells (.inl (Nat.le_refl _)) _ _ _ h4⟩
      · exact ⟨h1.blk.upd (Upd.setCells (S := fun k => k = w.heap.size) (.inl rfl) _ _ _ (Upd.refl _ w1)) hne, h1.len⟩
      · exact Blk.setCells _ (r.map (Value.int .u32)) (r'.map (Value.int .u32)) [] w1 h2 (by simp [hr, h1.len])
      · obtain ⟨z1, hz1, hz2⟩ := h3
        exact ⟨z1, hz1.upd (Upd.setCells (S := fun k => k = w.heap.size) (.inl rfl) _ _ _ (Upd.refl _ w1)) (by omega), hz2⟩
  simp only [Act.put, List.setIfInBounds_toArray, List.set, Nat.reduceAdd]
  refine walkL_pure rfl rfl ?_ ?_ ?_
  rotate_left
  · intro w; go_simp; rfl
  simp only [Act.put, List.setIfInBounds_toArray, List.set, Nat.reduceAdd]
  refine walkL_act rfl ?_ ?_
  · rintro L w1 hn ⟨h1, h2, h3, h4⟩
    dsimp only at h2
    have m0 : L.getD 19 false = false := getD_both (mem_ready.1 hn.ready).1
    have hne : ¬ g = w.heap.size := by omega
    have hl : (if L.getD 17 false = true then r else r').length = 16 := by split; exact h1.len; exact hr
    refine ⟨w1.setCell ⟨w.heap.size, 16, none⟩ (.int .u32 psl), ?_, ?_⟩
    · have hc := (h2.cell 16).trans (List.getElem?_toArray.trans (stateCells_get hl _ _ _ _ 0))
      have hf := h2.frozen 16
      go_simp
    · unfold CE; simp only [List.map_cons, List.map_nil]
      rw [getD_set_ne false (by decide), hn.set_self, getD_set_ne false (by decide), getD_set_ne false (by decide)]
      have h5 := h2.set 16 (.int .u32 psl)
      rw [List.setIfInBounds_toArray, stateCells_set hl _ _ _ _ 0] at h5
      refine ⟨⟨h1.blk.far hne _, h1.len⟩, h5, ?_, h4.setCell (.inl (Nat.le_refl _)) _⟩
      obtain ⟨z1, hz1, hz2⟩ := h3
      exact ⟨z1, hz1.far (by simp) _, hz2⟩
  simp only [Act.put, List.setIfInBounds_toArray, List.set, Nat.reduceAdd]
  refine walkL_pure rfl rfl ?_ ?_ ?_
  rotate_left
  · intro w; go_simp; rfl
  simp only [Act.put, List.setIfInBounds_toArray, List.set, Nat.reduceAdd]
  refine walkL_act rfl ?_ ?_
  · rintro L w1 hn ⟨h1, h2, h3, h4⟩
    dsimp only at h2
    have m0 : L.getD 21 false = false := getD_both (mem_ready.1 hn.ready).1
    have hne : ¬ g = w.heap.size := by omega
    have hl : (if L.getD 17 false = true then r else r').length = 16 := by split; exact h1.len; exact hr
    refine ⟨w1.setCell ⟨w.heap.size, 17, none⟩ (.int .u32 ksp), ?_, ?_⟩
    · have hc := (h2.cell 17).trans (List.getElem?_toArray.trans (stateCells_get hl _ _ _ _ 1))
      have hf := h2.frozen 17
      go_simp
    · unfold CE; simp only [List.map_cons, List.map_nil]
      rw [getD_set_ne false (by decide), getD_set_ne false (by decide), hn.set_self, getD_set_ne false (by decide)]
      have h5 := h2.set 17 (.int .u32 ksp)
      rw [List.setIfInBounds_toArray, stateCells_set hl _ _ _ _ 1] at h5
      refine ⟨⟨h1.blk.far hne _, h1.len⟩, h5, ?_, h4.setCell (.inl (Nat.le_refl _)) _⟩
      obtain ⟨z1, hz1, hz2⟩ := h3
      exact ⟨z1, hz1.far (by simp) _, hz2⟩
  simp only [Act.put, List.setIfInBounds_toArray, List.set, Nat.reduceAdd]
  refine walkL_pure rfl rfl ?_ ?_ ?_
  rotate_left
  · intro w; go_simp; rfl
  simp only [Act.put, List.setIfInBounds_toArray, List.set, Nat.reduceAdd]
  refine walkL_act rfl ?_ ?_
  · rintro L w1 hn ⟨h1, h2, h3, h4⟩
    dsimp only at h2
    have m0 : L.getD 23 false = false := getD_both (mem_ready.1 hn.ready).1
    have hne : ¬ g = w.heap.size := by omega
    have hl : (if L.getD 17 false = true then r else r').length = 16 := by split; exact h1.len; exact hr
    refine ⟨w1.setCell ⟨w.heap.size, 18, none⟩ (.int .u32 usp), ?_, ?_⟩
    · have hc := (h2.cell 18).trans (List.getElem?_toArray.trans (stateCells_get hl _ _ _ _ 2))
      have hf := h2.frozen 18
      go_simp
    · unfold CE; simp only [List.map_cons, List.map_nil]
      rw [getD_set_ne false (by decide), getD_set_ne false (by decide), getD_set_ne false (by decide), hn.set_self]
      have h5 := h2.set 18 (.int .u32 usp)
      rw [List.setIfInBounds_toArray, stateCells_set hl _ _ _ _ 2] at h5
      refine ⟨⟨h1.blk.far hne _, h1.len⟩, h5, ?_, h4.setCell (.inl (Nat.le_refl _)) _⟩
      obtain ⟨z1, hz1, hz2⟩ := h3
      exact ⟨z1, hz1.far (by simp) _, hz2⟩
  simp only [Act.put, List.setIfInBounds_toArray, List.set, Nat.reduceAdd]
  rintro w1 ⟨h1, h2, ⟨z1, h3, hz1⟩, h4⟩
  have h2' : Blk w1 w.heap.size (stateCells r psl ksp usp rest).toArray 27 := h2
  have H2 := Lib.hid h2'
  clear h2'
  have H3 := Lib.hid h3
  have H4 := Lib.hid h4
  have HZ := Lib.hid hz1
  clear h1 h2 h3 h4 hz hz1
  have L26 := Lib.hid (stateCells_length H.out.len psl ksp usp rest hrest)
  go_wp2_with (first
    | (refine wpList_load_row rfl 27 (.tmp 3) rfl w.heap.size rfl 27 (stateCells r psl ksp usp rest).toArray (0, 0) _ H2.out Try.underlying27 rfl ?c1 ?_)
    | (refine wpList_store_row rfl 27 (.tmp 4) (.tmp 27) rfl (w.heap.size + 1) (stateCells r psl ksp usp rest).toArray rfl rfl 27 z1 H3.out ?c2 ?c3 ?c4 ?_))
  case c1 => rw [List.size_toArray, L26.out]; exact size27
  case c2 => rw [List.size_toArray, L26.out]; exact size27
  case c3 => have := HZ.out; simp only [List.size_toArray, L26.out]; exact this
  case c4 =>
    refine all_oneCell_toArray fun v hv => ?_
    simp only [stateCells, List.mem_append, List.mem_map, List.mem_cons] at hv
    rcases hv with ⟨x, _, rfl⟩ | rfl | rfl | rfl | hv
    · rfl
    · rfl
    · rfl
    · rfl
    · exact hone v hv
  refine bodyPost_ret (results_cell_row rfl _ _ (w.heap.size + 1) 27 (stateCells r psl ksp usp rest).toArray (0, 0) _ rfl (setRow_heap _ _ _ _ _ _ H3.out) Try.underlying27 rfl (by rw [List.size_toArray, L26.out]; exact size27)) rfl ⟨rfl, ?_⟩
  have u := H4.out
  exact ⟨u.os, u.tape, u.output, by simpa using u.size, fun k hk _ => (setRow_other _ _ _ _ (by omega)).trans (u.block k hk (by omega))⟩
end Go.Proofs.Ytoocbodkjldlcaa.Rg
