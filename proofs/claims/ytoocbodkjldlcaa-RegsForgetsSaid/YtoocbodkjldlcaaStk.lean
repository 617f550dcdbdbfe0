/- The law on the stacks' ends: its walk. -/
import Derived.Test.YtoocbodkjldlcaaRg9
namespace Go.Proofs.Ytoocbodkjldlcaa.Rg
set_option linter.unusedVariables false
set_option linter.unusedSimpArgs false
open Go.RowKit

theorem St.stack_put (s : St) (hr : s.r.length = 16) (x : Int) (b : Bool) : (s.put x).stack b = s.stack b := by
  unfold St.put St.stack
  cases h1 : usr x <;> cases h2 : usr s.psl <;> cases b <;> simp [h1, h2, hr]
theorem St.stack_set (s : St) (hr : s.r.length = 16) (k u : Int) : ((s.setStack false k).setStack true u).stack false = k ∧ ((s.setStack false k).setStack true u).stack true = u := by
  unfold St.setStack St.stack
  cases h2 : usr s.psl <;> simp [h2, hr]
theorem St.len_put (s : St) (x : Int) : (s.put x).r.length = s.r.length := by unfold St.put; split; rfl; split <;> simp
theorem St.len_set (s : St) (b : Bool) (x : Int) : (s.setStack b x).r.length = s.r.length := by unfold St.setStack; split; simp; split <;> rfl
theorem St.psl_set (s : St) (b : Bool) (x : Int) : (s.setStack b x).psl = s.psl := by unfold St.setStack; split; rfl; split <;> rfl
theorem St.psl_put (s : St) (x : Int) : (s.put x).psl = x := by unfold St.put; split; rfl; split <;> rfl
theorem St.r_put (s : St) (x : Int) : ∃ y, (s.put x).r = s.r.set 14 y := by
  unfold St.put
  split
  · refine ⟨s.r.getD 14 0, ?_⟩
    simp only
    by_cases h : 14 < s.r.length
    · apply List.ext_getElem (by simp)
      intro i h1 h2
      rw [List.getElem_set]
      split
      · rename_i h; subst h; simp [h1]
      · rfl
    · rw [List.set_eq_of_length_le (by omega)]
  · split
    · exact ⟨_, rfl⟩
    · exact ⟨_, rfl⟩
theorem set_self (r : List Int) (h : 14 < r.length) (y : Int) (hy : (r.set 14 y).getD 14 0 = r.getD 14 0) : r.set 14 y = r := by
  have e : y = r[14] := by simpa [h] using hy
  subst e
  exact List.set_getElem_self h
theorem St.back (s : St) (hr : s.r.length = 16) (a b : Int) : (((s.put a).put b).put s.psl).r = s.r := by
  obtain ⟨y1, h1⟩ := St.r_put s a
  obtain ⟨y2, h2⟩ := St.r_put (s.put a) b
  obtain ⟨y3, h3⟩ := St.r_put ((s.put a).put b) s.psl
  have e : (((s.put a).put b).put s.psl).r = s.r.set 14 y3 := by rw [h3, h2, h1, List.set_set, List.set_set]
  rw [e]
  refine set_self _ (by omega) _ ?_
  rw [← e]
  have k1 := St.stack_put ((s.put a).put b) (by simp [St.len_put, hr]) s.psl (usr s.psl)
  rw [St.stack_put (s.put a) (by simp [St.len_put, hr]), St.stack_put s hr] at k1
  simpa [St.stack, St.psl_put] using k1

theorem boxed (w : World) (z cs : Array Value) (T : TypeId) : Upd (fun _ => False) w ((w.alloc (.cells z T)).setRow w.heap.size cs) ∧ Blk ((w.alloc (.cells z T)).setRow w.heap.size cs) w.heap.size cs T :=
  ⟨⟨rfl, rfl, rfl, by simp, fun k hk _ => (setRow_other _ _ _ _ (by omega)).trans (Below.heap_alloc _ _ _ hk)⟩, setRow_heap _ _ _ _ _ _ (Blk.new w z T)⟩
theorem Has.more {b : Nat} {w0 w w' : World} {g : Nat} {s : St} {l : List (Int × Int)} (h : Has b w g s l) (hu : Upd (fun k => b ≤ k) w0 w) (hg : Upd (fun _ => False) w w') : Has b w' g s l ∧ Upd (fun k => b ≤ k) w0 w' :=
  h.ends hu (fun sv hf => ⟨hf.blk.upd hg id, hf.len⟩) (hg.mono fun _ _ => False.elim)
theorem rest_length {rest : List Value} (h : Rest rest) : rest.length = 7 := by obtain ⟨_, _, _, _, _, _, _, rfl⟩ := h.ex; rfl
theorem rest_one {rest : List Value} (h : Rest rest) : ∀ v ∈ rest, v.oneCell' = true := by obtain ⟨_, _, _, _, _, _, _, rfl⟩ := h.ex; simp [Value.oneCell']
theorem stateCells_one (r : List Int) (a b c : Int) {rest : List Value} (h : Rest rest) : (stateCells r a b c rest).toArray.all (·.oneCell') = true := by
  refine all_oneCell_toArray fun v hv => ?_
  simp only [stateCells, List.mem_append, List.mem_map, List.mem_cons] at hv
  rcases hv with ⟨x, _, rfl⟩ | rfl | rfl | rfl | hv
  · rfl
  · rfl
  · rfl
  · rfl
  · exact rest_one h v hv

theorem stacks_any (s0 : St) (rest : List Value) (hr : s0.r.length = 16) (hrest : Rest rest) (k u a b : Int) (w : World) :
    Calls Try.prog 4 #[.agg (stateCells s0.r s0.psl s0.ksp s0.usp rest).toArray, .int .u32 k, .int .u32 u, .int .u32 a, .int .u32 b] w fun e w' => e = .returned (.bool true) ∧ Upd (fun _ => False) w w' := by
  have hst : ∃ st, st = (stateCells s0.r s0.psl s0.ksp s0.usp rest).toArray := ⟨_, rfl⟩
  obtain ⟨st, hst⟩ := hst
  rw [← hst]
  have HS := Lib.hid hst
  clear hst
  go_enter Try.func4, Try.ntmps4
  go_wp2_with fail
  refine (alive_any _).mono ?_
  rintro e w1 ⟨rfl, u1⟩
  have b1 := (Blk.new w st 27).upd u1 id
  have n1 : w.heap.size + 1 ≤ w1.heap.size := by simpa using u1.size
  have B1 := Lib.hid b1
  have U1 := Lib.hid (((Upd.refl (fun _ => False) w).alloc (.cells st 27)).then u1)
  clear b1 u1
  go_wp2_with fail
  refine (new_own _).mono ?_
  rintro e w2 ⟨g, rfl, o2, u2⟩
  have o2 : Has w1.heap.size w2 g ⟨List.replicate 16 0, 0, 0, 0⟩ [] := ⟨o2, rfl⟩
  have B2 := Lib.hid (B1.out.upd u2 (by omega))
  go_wp2_with (refine wpList_load_row rfl 27 (.tmp 5) rfl w.heap.size rfl 27 st (0, 0) _ B2.out Try.underlying27 rfl (by rw [HS.out, List.size_toArray, stateCells_length hr _ _ _ _ (by obtain ⟨_, _, _, _, _, _, _, rfl⟩ := hrest.ex; rfl)]; exact size27) ?_)
  rw [HS.out]
  refine (load_has o2 u2 s0 rest hr).mono ?_
  rintro e w3 ⟨rfl, o3, u3⟩
  rw [← HS.out]
  have B3 := Lib.hid (B1.out.upd u3 (by omega))
  clear o2 u2 B2
  go_wp2_with fail
  refine (setStack_has o3 u3 false k).mono ?_
  rintro e w4 ⟨rfl, o4, u4⟩
  clear o3 u3 B3
  go_wp2_with fail
  refine (setStack_has o4 u4 true u).mono ?_
  rintro e w5 ⟨rfl, o5, u5⟩
  clear o4 u4
  have B5 := Lib.hid (B1.out.upd u5 (by omega))
  have hS : (Try.prog.info? 27).map (·.size) = some st.size := by rw [HS.out, List.size_toArray, stateCells_length hr _ _ _ _ (rest_length hrest)]; exact size27
  have HI := Lib.hid hS
  clear hS
  have hr5 : ((s0.setStack false k).setStack true u).r.length = 16 := by simp [St.len_set, hr]
  obtain ⟨k1, k2⟩ := St.stack_set s0 hr k u
  generalize hs5 : (s0.setStack false k).setStack true u = s5 at *
  have p5 : s5.psl = s0.psl := by rw [← hs5]; simp [St.psl_set]
  clear hs5
  have P5 := Lib.hid p5
  have K1 := Lib.hid k1
  have K2 := Lib.hid k2
  have R5 := Lib.hid hr5
  clear p5 k1 k2 hr5
  go_wp2_with (refine wpList_load_row rfl 27 (.tmp 5) rfl w.heap.size rfl 27 st (0, 0) _ B5.out Try.underlying27 rfl HI.out ?_)
  rw [HS.out]
  refine (save_has o5 u5 s0 rest hr hrest).mono ?_
  rintro e w6 ⟨rfl, o6, u6, v6⟩
  rw [← HS.out]
  have B6 := Lib.hid (B5.out.upd v6 id)
  clear o5 u5 B5 v6
  have hx : ∃ x, x = (stateCells s5.r s5.psl s5.ksp s5.usp rest).toArray := ⟨_, rfl⟩
  obtain ⟨x, hx⟩ := hx
  rw [← hx]
  have HX := Lib.hid hx
  clear hx
  have hX : (Try.prog.info? 27).map (·.size) = some x.size := by rw [HX.out, List.size_toArray, stateCells_length R5.out _ _ _ _ (rest_length hrest)]; exact size27
  have IX := Lib.hid hX
  clear hX
  go_wp2_with (refine wpList_store_row rfl 27 (.tmp 12) (.tmp 28) rfl w6.heap.size x rfl rfl 27 _ (Blk.new w6 _ 27) IX.out ?c1 ?c2 ?_)
  case c1 => have := IX.out.symm.trans size27; simp at this; simp [this]
  case c2 => rw [HX.out]; exact stateCells_one _ _ _ _ hrest
  obtain ⟨v7, x7⟩ := boxed w6 _ x 27
  obtain ⟨o7, u7⟩ := o6.more u6 v7
  have B7 := B6.out.upd v7 id
  generalize World.setRow _ w6.heap.size x = w7 at *
  have X7 := Lib.hid x7
  have B7 := Lib.hid B7
  have hx6 := Blk.lt x7
  clear x7 v7 o6 u6 B6
  generalize w6.heap.size = gx at *
  refine (put_has o7 u7 a).mono ?_
  rintro e w8 ⟨rfl, o8, u8, v8⟩
  have hg : gx ≠ g := by
    rintro rfl
    obtain ⟨sv, h1, _⟩ := o7.1.ex
    have := (show w7.heap[gx]? = _ from h1.blk).symm.trans X7.out
    simp at this
  have X8 := Lib.hid (X7.out.upd v8 hg)
  have B8 := Lib.hid (B1.out.upd u8 (by omega))
  have r8 : (s5.put a).r.length = 16 := by rw [St.len_put]; exact R5.out
  have R8 := Lib.hid r8
  clear r8 o7 u7 X7 B7 v8
  go_wp2_with fail
  refine (stack_has o8 false k (by rw [St.stack_put _ R5.out]; exact K1.out)).mono ?_
  rintro e w9 ⟨rfl, rfl⟩
  go_wp2_with fail
  refine (stack_has o8 true u (by rw [St.stack_put _ R5.out]; exact K2.out)).mono ?_
  rintro e w9 ⟨rfl, rfl⟩
  go_wp2_with fail
  refine (put_has o8 u8 b).mono ?_
  rintro e w9 ⟨rfl, o9, u9, v9⟩
  have X9 := Lib.hid (X8.out.upd v9 hg)
  have B9 := Lib.hid (B1.out.upd u9 (by omega))
  have r9 : ((s5.put a).put b).r.length = 16 := by rw [St.len_put]; exact R8.out
  have R9 := Lib.hid r9
  clear r9 o8 u8 X8 B8 v9
  go_wp2_with fail
  refine (stack_has o9 false k (by rw [St.stack_put _ R8.out, St.stack_put _ R5.out]; exact K1.out)).mono ?_
  rintro e w10 ⟨rfl, rfl⟩
  go_wp2_with fail
  refine (stack_has o9 true u (by rw [St.stack_put _ R8.out, St.stack_put _ R5.out]; exact K2.out)).mono ?_
  rintro e w10 ⟨rfl, rfl⟩
  have hp : w9.cell? ⟨w.heap.size, 16, none⟩ = some (.int .u32 s0.psl) := by
    rw [B9.out.cell, HS.out, List.getElem?_toArray]
    exact stateCells_get hr _ _ _ _ 0
  go_wp2_with fail
  refine (put_has o9 u9 s0.psl).mono ?_
  rintro e w10 ⟨rfl, o10, u10, v10⟩
  have X10 := Lib.hid (X9.out.upd v10 hg)
  have B10 := Lib.hid (B1.out.upd u10 (by omega))
  clear o9 u9 X9 B9 v10 hp
  go_wp2_with (refine wpList_load_row rfl 27 (.tmp 5) rfl w.heap.size rfl 27 st (0, 0) _ B10.out Try.underlying27 rfl HI.out ?_)
  rw [HS.out]
  refine (save_has o10 u10 s0 rest hr hrest).mono ?_
  rintro e w11 ⟨rfl, o11, u11, v11⟩
  rw [← HS.out]
  have e1 : (((s5.put a).put b).put s0.psl).r = s5.r := by rw [← P5.out]; exact St.back s5 R5.out a b
  have e2 : (((s5.put a).put b).put s0.psl).psl = s0.psl := St.psl_put _ _
  rw [e1, e2]
  generalize (((s5.put a).put b).put s0.psl).ksp = k10
  generalize (((s5.put a).put b).put s0.psl).usp = u10'
  have X11 := Lib.hid (X10.out.upd v11 id)
  have B11 := Lib.hid (B1.out.upd u11 (by omega))
  clear o10 u10 X10 B10 v11 e1 e2 o11
  have hy : ∃ y, y = (stateCells s5.r s0.psl k10 u10' rest).toArray := ⟨_, rfl⟩
  obtain ⟨y, hy⟩ := hy
  rw [← hy]
  have HY := Lib.hid hy
  clear hy
  have hY : (Try.prog.info? 27).map (·.size) = some y.size := by rw [HY.out, List.size_toArray, stateCells_length R5.out _ _ _ _ (rest_length hrest)]; exact size27
  have IY := Lib.hid hY
  clear hY
  have hgl : gx < w11.heap.size := Blk.lt X11.out
  have hwl : w.heap.size < w11.heap.size := Blk.lt B11.out
  have hcy : ∀ (z : Array Value) (i : Nat), ((w11.alloc (.cells z 27)).setRow w11.heap.size y).cell? ⟨w11.heap.size, i, none⟩ = y[i]? := fun z i => (boxed w11 z y 27).2.cell i
  have hcs : ∀ (z : Array Value) (i : Nat), ((w11.alloc (.cells z 27)).setRow w11.heap.size y).cell? ⟨w.heap.size, i, none⟩ = st[i]? := fun z i => (B11.out.upd (boxed w11 z y 27).1 id).cell i
  have hy16 : y[16]? = some (.int .u32 s0.psl) := by rw [HY.out, List.getElem?_toArray]; exact stateCells_get R5.out _ _ _ _ 0
  have hs16 : st[16]? = some (.int .u32 s0.psl) := by rw [HS.out, List.getElem?_toArray]; exact stateCells_get hr _ _ _ _ 0
  have h23 := fun w => eq23 R5.out w
  have hrange : ∀ (w' : World) (g : Nat) (z : Array Value) (r : List Int) (a b c : Int) (rest : List Value), r.length = 16 → z = (stateCells r a b c rest).toArray → Blk w' g z 27 → w'.rangeAt g 0 (r.map (Value.int .u32)) := by
    intro w' g z r a b c rest hr hz hb
    rw [hz] at hb
    have h := blkRange hb 0 16
    have e16 : ((stateCells r a b c rest).drop 0).take 16 = r.map (Value.int .u32) := by simp [stateCells, hr]
    rwa [e16] at h
  have HR := Lib.hid hrange
  clear hrange
  go_wp2_with (first
    | (refine wpList_store_row rfl 27 (.tmp 13) (.tmp 61) rfl w11.heap.size y rfl rfl 27 _ (Blk.new w11 _ 27) IY.out ?c1 ?c2 ?_)
    | (refine wpList_load_mid rfl 23 (.tmp 62) rfl w11.heap.size 0 rfl (s5.r.map (Value.int .u32)) _ ?d1 Try.underlying23 rfl ?d2 ?_)
    | (refine wpList_load_mid rfl 23 (.tmp 64) rfl gx 0 rfl (s5.r.map (Value.int .u32)) _ ?e1 Try.underlying23 rfl ?e2 ?_))
  case c1 => have := IY.out.symm.trans size27; simp at this; simp [this]
  case c2 => rw [HY.out]; exact stateCells_one _ _ _ _ hrest
  case d1 => exact HR.out _ _ y s5.r _ _ _ _ R5.out HY.out (boxed w11 _ y 27).2
  case d2 => simp [R5.out, size23]
  case e1 => exact HR.out _ _ x s5.r _ _ _ _ R5.out HX.out (X11.out.upd (boxed w11 _ y 27).1 id)
  case e2 => simp [R5.out, size23]
  go_ret
  refine ⟨rfl, ?_⟩
  exact ((U1.out.then (Upd.mono u11 (fun k hk h => by omega))).then (boxed w11 _ y 27).1)
end Go.Proofs.Ytoocbodkjldlcaa.Rg
