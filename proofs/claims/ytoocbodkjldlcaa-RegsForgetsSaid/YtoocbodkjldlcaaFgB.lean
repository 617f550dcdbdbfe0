/- The law on steps that are forgotten: its walk. -/
import Derived.Test.YtoocbodkjldlcaaFgA
import Derived.Deep.LoopGhost
namespace Go.Proofs.Ytoocbodkjldlcaa.Rg
set_option linter.unusedVariables false
set_option linter.unusedSimpArgs false
open Go.RowKit

/-- A slice of ints reads as 'xs'. -/
def Nums (w : World) (ao : Option Addr) (xs : List Int) : Prop := ∀ i, i < xs.length → ∃ b o, ao = some ⟨b, o, none⟩ ∧ b < w.heap.size ∧ w.cell? ⟨b, o + i, none⟩ = some (.int .i64 (xs.getD i 0))
theorem Nums.upd {w w' : World} {ao : Option Addr} {xs : List Int} (h : Nums w ao xs) {B : Nat} (hB : w.heap.size ≤ B) (hu : Upd (fun k => B ≤ k) w w') : Nums w' ao xs := fun i hi => by
  obtain ⟨b, o, e, hb, hc⟩ := h i hi
  refine ⟨b, o, e, Nat.lt_of_lt_of_le hb hu.size, ?_⟩
  rw [← hc]
  exact World.cell?_of_block (hu.block b hb (by omega))

theorem forgets_any (s0 : St) (rest : List Value) (hf : Fit s0.r) (hrest : Rest rest) (ao bo : Option Addr) (xa xb : List Int) (ca cb : Nat) (d : Int) (w : World)
    (ha : Nums w ao xa) (hb : Nums w bo xb) (hal : xa.length ≤ 60) (hbl : xb.length ≤ 60) :
    Calls Try.prog 3 #[.agg (stateCells s0.r s0.psl s0.ksp s0.usp rest).toArray, .slice ao xa.length ca, .slice bo xb.length cb, .int .u32 d] w fun e w' => e = .returned (.bool true) ∧ Upd (fun _ => False) w w' := by
  have hr := hf.1
  have hst : ∃ st, st = (stateCells s0.r s0.psl s0.ksp s0.usp rest).toArray := ⟨_, rfl⟩
  obtain ⟨st, hst⟩ := hst
  rw [← hst]
  have HS := Lib.hid hst
  clear hst
  have hS : (Try.prog.info? 27).map (·.size) = some st.size := by rw [HS.out, List.size_toArray, stateCells_length hr _ _ _ _ (rest_length hrest)]; exact size27
  have HI := Lib.hid hS
  clear hS
  have HA := Lib.hid ha
  have HB := Lib.hid hb
  have HF := Lib.hid hf
  have HR := Lib.hid hr
  clear ha hb hf hr
  have hal' : (xa.length : Int) ≤ 60 := by omega
  have hbl' : (xb.length : Int) ≤ 60 := by omega
  go_enter Try.func3, Try.ntmps3
  go_wp2_with fail
  refine (alive_any _).mono ?_
  rintro e w1 ⟨rfl, u1⟩
  have b1 := (Blk.new w st 27).upd u1 id
  have n1 : w.heap.size + 1 ≤ w1.heap.size := by simpa using u1.size
  have B1 := Lib.hid b1
  have u0 := ((Upd.refl (fun _ => False) w).alloc (.cells st 27)).then u1
  have U1 := Lib.hid u0
  clear b1 u1 u0
  go_wp2_with fail
  refine (new_own _).mono ?_
  rintro e w2 ⟨g, rfl, o2, u2⟩
  have o2 : Has w1.heap.size w2 g ⟨List.replicate 16 0, 0, 0, 0⟩ [] := ⟨o2, rfl⟩
  have B2 := Lib.hid (B1.out.upd u2 (by omega))
  go_wp2_with (refine wpList_load_row rfl 27 (.tmp 4) rfl w.heap.size rfl 27 st (0, 0) _ B2.out Try.underlying27 rfl HI.out ?_)
  rw [HS.out]
  refine (load_has o2 u2 s0 rest HR.out).mono ?_
  rintro e w3 ⟨rfl, o3, u3⟩
  rw [← HS.out]
  clear o2 u2 B2
  have O3 := Lib.hid o3
  have U3 := Lib.hid u3
  clear o3 u3
  go_wp2_with fail
  go_loopw [31] (fun i wr => ∃ k : Nat, k ≤ xa.length ∧ i = .int .i64 k ∧ Hid (Has w1.heap.size wr g { s0 with r := ((xa.take k).foldl (stepF d) (s0.r, [])).1 } ((xa.take k).foldl (stepF d) (s0.r, [])).2 ∧ Upd (fun k => w1.heap.size ≤ k) w1 wr)) (fun i _ => xa.length - (intOf i).toNat)
  case atStart => exact ⟨0, Nat.zero_le _, rfl, Lib.hid ⟨O3.out, U3.out⟩⟩
  case round =>
    obtain ⟨k, hk, rfl, HK⟩ := hrel
    obtain ⟨hh, hu⟩ := HK.out
    have hW : Upd (fun k => w1.heap.size ≤ k) w wr := (Upd.mono U1.out (fun _ _ => False.elim)).then hu
    by_cases hlt : k < xa.length
    · obtain ⟨b, o, hao, hbl, hc⟩ := (HA.out.upd (by omega) hW) k hlt
      subst hao
      have hsz : w1.heap.size ≤ wr.heap.size := hu.size
      have H1 := Lib.hid hh
      have H2 := Lib.hid hu
      clear hh hu HK hW
      have hlen : ((xa.take k).foldl (stepF d) (s0.r, [])).2.length ≤ 60 := by
        have := steps_length (d := d) (xa.take k) (p := (s0.r, []))
        simp at this
        omega
      have HL := Lib.hid hlen
      clear hlen
      go_wp2_with (go_at_call 9; refine (step_has H1.out H2.out hsz _ _ HL.out).mono ?_; rintro e w4 ⟨⟨x, rfl⟩, q1, q2, q3⟩; have Q1 := Lib.hid q1; have Q2 := Lib.hid q2; clear q1 q2 q3)
      go_roundw
      case rel =>
        refine ⟨k + 1, by omega, by go_num, Lib.hid ⟨?_, Q2.out⟩⟩
        have := Q1.out
        rw [List.take_succ_eq_append_getElem hlt, List.foldl_append]
        simpa [hlt] using this
      case measure => simp [intOf]; omega
    · obtain rfl : k = xa.length := by omega
      rw [List.take_length] at hh
      have hsz : w1.heap.size ≤ wr.heap.size := hu.size
      have fit1 : Fit (xa.foldl (stepF d) (s0.r, [])).1 := Fit.steps xa HF.out
      generalize (xa.foldl (stepF d) (s0.r, [])).1 = r1 at *
      generalize (xa.foldl (stepF d) (s0.r, [])).2 = l1 at *
      have F1 := Lib.hid fit1
      have H1 := Lib.hid hh
      have H2 := Lib.hid hu
      clear hh hu HK hW fit1
      go_wp2_with fail
      refine (forget_has H1.out H2.out).mono ?_
      rintro e w4 ⟨rfl, o4, u4⟩
      have B4 := Lib.hid (B1.out.upd u4 (by omega))
      clear H1 H2
      have O4 := Lib.hid o4
      have U4 := Lib.hid u4
      clear o4 u4
      go_wp2_with (refine wpList_load_row rfl 27 (.tmp 4) rfl w.heap.size rfl 27 st (0, 0) _ B4.out Try.underlying27 rfl HI.out ?_)
      rw [HS.out]
      refine (save_has O4.out U4.out s0 rest HR.out hrest).mono ?_
      rintro e w5 ⟨rfl, o5, u5, v5⟩
      rw [← HS.out]
      have hx : ∃ x, x = (stateCells r1 s0.psl s0.ksp s0.usp rest).toArray := ⟨_, rfl⟩
      obtain ⟨x, hx⟩ := hx
      rw [← hx]
      have HX := Lib.hid hx
      clear hx
      have hX : (Try.prog.info? 27).map (·.size) = some x.size := by rw [HX.out, List.size_toArray, stateCells_length F1.out.1 _ _ _ _ (rest_length hrest)]; exact size27
      have IX := Lib.hid hX
      clear hX
      have O5 := Lib.hid o5
      have U5 := Lib.hid u5
      clear o5 u5 v5
      go_wp2_with (refine wpList_store_row rfl 27 (.tmp 12) (.tmp 44) rfl w5.heap.size x rfl rfl 27 _ (Blk.new w5 _ 27) IX.out ?c1 ?c2 ?_)
      case c1 => have := IX.out.symm.trans size27; simp at this; simp [this]
      case c2 => rw [HX.out]; exact stateCells_one _ _ _ _ hrest
      obtain ⟨v7, x7⟩ := boxed w5 (#[Value.int IntKind.u32 0, Value.int IntKind.u32 0, Value.int IntKind.u32 0, Value.int IntKind.u32 0,
        Value.int IntKind.u32 0, Value.int IntKind.u32 0, Value.int IntKind.u32 0, Value.int IntKind.u32 0,
        Value.int IntKind.u32 0, Value.int IntKind.u32 0, Value.int IntKind.u32 0, Value.int IntKind.u32 0,
        Value.int IntKind.u32 0, Value.int IntKind.u32 0, Value.int IntKind.u32 0, Value.int IntKind.u32 0,
        Value.int IntKind.u32 0, Value.int IntKind.u32 0, Value.int IntKind.u32 0, Value.int IntKind.u32 0,
        Value.int IntKind.u32 0, Value.int IntKind.u32 0, Value.int IntKind.u32 0, Value.int IntKind.u32 0,
        Value.int IntKind.u32 0, Value.int IntKind.i64 0]) x 27
      obtain ⟨o7, u7⟩ := O5.out.more U5.out v7
      clear O5 U5 v7
      generalize World.setRow _ w5.heap.size x = w7 at *
      have X7 := Lib.hid x7
      have O7 := Lib.hid o7
      have U7 := Lib.hid u7
      have hx7 := Blk.lt x7
      have hs7 : w1.heap.size ≤ w7.heap.size := u7.size
      clear x7 o7 u7
      generalize w5.heap.size = gx at *
      clear hsz
      go_loopw [47] (fun i wq => ∃ k : Nat, k ≤ xb.length ∧ i = .int .i64 k ∧ Hid (Has w1.heap.size wq g { s0 with r := ((xb.take k).foldl (stepF d) (r1, [])).1 } ((xb.take k).foldl (stepF d) (r1, [])).2 ∧ Upd (fun k => w1.heap.size ≤ k) w1 wq ∧ Blk wq gx x 27)) (fun i _ => xb.length - (intOf i).toNat)
      case atStart => exact ⟨0, Nat.zero_le _, rfl, Lib.hid ⟨O7.out, U7.out, X7.out⟩⟩
      case round =>
        clear O7 U7 X7 hx7 hs7
        obtain ⟨k, hk, rfl, HK⟩ := hrel
        obtain ⟨hh, hu, hxb⟩ := HK.out
        have hW : Upd (fun k => w1.heap.size ≤ k) w wr := (Upd.mono U1.out (fun _ _ => False.elim)).then hu
        by_cases hlt : k < xb.length
        · obtain ⟨b, o, hbo, hbl, hc⟩ := (HB.out.upd (by omega) hW) k hlt
          subst hbo
          have hsz : w1.heap.size ≤ wr.heap.size := hu.size
          have H1 := Lib.hid hh
          have H2 := Lib.hid hu
          have H3 := Lib.hid hxb
          clear hh hu HK hW hxb
          have hlen : ((xb.take k).foldl (stepF d) (r1, [])).2.length ≤ 60 := by
            have := steps_length (d := d) (xb.take k) (p := (r1, []))
            simp at this
            omega
          have HL := Lib.hid hlen
          clear hlen
          go_wp2_with (go_at_call 9; refine (step_has H1.out H2.out hsz _ _ HL.out).mono ?_; rintro e w4 ⟨⟨x, rfl⟩, q1, q2, q3⟩; have Q1 := Lib.hid q1; have Q2 := Lib.hid q2; have Q3 := Lib.hid q3; clear q1 q2 q3)
          go_roundw
          case rel =>
            refine ⟨k + 1, by omega, by go_num, Lib.hid ⟨?_, Q2.out, Q3.out _ _ _ (by decide) (by decide) H3.out⟩⟩
            have := Q1.out
            rw [List.take_succ_eq_append_getElem hlt, List.foldl_append]
            simpa [hlt] using this
          case measure => simp [intOf]; omega
        · obtain rfl : k = xb.length := by omega
          rw [List.take_length] at hh
          have hsz : w1.heap.size ≤ wr.heap.size := hu.size
          have bnd : ∀ s ∈ (xb.foldl (stepF d) (r1, [])).2, 0 ≤ s.1 ∧ s.1 ≤ 15 := steps_bounds xb (by simp)
          have und : (xb.foldl (stepF d) (r1, [])).2.foldr back (xb.foldl (stepF d) (r1, [])).1 = r1 := back_steps xb F1.out
          generalize (xb.foldl (stepF d) (r1, [])).1 = r2 at *
          generalize (xb.foldl (stepF d) (r1, [])).2 = l2 at *
          have BD := Lib.hid bnd
          have UD := Lib.hid und
          have H1 := Lib.hid hh
          have H2 := Lib.hid hu
          have H3 := Lib.hid hxb
          clear hh hu HK hW hxb bnd und
          go_wp2_with fail
          refine (undo_has H1.out H2.out hsz BD.out r1 UD.out F1.out.1).mono ?_
          rintro e w8 ⟨rfl, o8, u8, k8⟩
          have X8 := Lib.hid (k8 _ _ _ (by decide) (by decide) H3.out)
          have O8 := Lib.hid o8
          have U8 := Lib.hid u8
          have B8 := Lib.hid (B1.out.upd u8 (by omega))
          clear H1 H2 H3 o8 u8 k8 UD BD
          go_wp2_with fail
          have h27 : ∀ w, (binOp .eql 27 (.agg x) (.agg x)).run Try.prog w = .ok (.bool true) w := fun w => by rw [HX.out]; exact eq27 F1.out.1 _ _ _ hrest w
          refine wp_region_L (CE [] (fun _ wq => Has w1.heap.size wq g { s0 with r := r1 } [] ∧ Blk wq w.heap.size st 27 ∧ Blk wq gx x 27 ∧ Upd (fun k => w1.heap.size ≤ k) w1 wq)) (by kernel_rfl) (by kernel_rfl) ?_ ?_
          · obtain ⟨q1, q2⟩ := O8.out.more (w' := w8.drew) U8.out ((Upd.refl _ _).drew)
            exact ⟨q1, B8.out.drew, X8.out.drew, q2⟩
          refine walkL_pure rfl rfl ?_ ?_ ?_
          rotate_left
          · intro w; go_simp; rfl
          simp only [Act.put, List.setIfInBounds_toArray, List.set, Nat.reduceAdd]
          refine walkL_read rfl rfl (.agg st) ?_ ?_
          · rintro L wq hn ⟨q1, q2, q3, q4⟩
            exact exec_load rfl rfl (run_loadVar_row wq _ _ _ _ _ _ q2 Try.underlying27 rfl HI.out)
          simp only [Act.put, List.setIfInBounds_toArray, List.set, Nat.reduceAdd]
          refine walkL_call rfl (.agg x) 11 #[.pointer (some ⟨g, 0, none⟩), .agg st] ?_ ?_ ?_
          · intro wq; go_simp
          · rintro L wq hn ⟨q1, q2, q3, q4⟩
            rw [HS.out]
            refine (save_has q1 q4 s0 rest HR.out hrest).mono ?_
            rintro e wr ⟨rfl, p1, p2, p3⟩
            exact ⟨by rw [HX.out], p1, by rw [← HS.out]; exact q2.upd p3 id, q3.upd p3 id, p2⟩
          simp only [Act.put, List.setIfInBounds_toArray, List.set, Nat.reduceAdd]
          refine walkL_read rfl rfl (.agg x) ?_ ?_
          · rintro L wq hn ⟨q1, q2, q3, q4⟩
            exact exec_load rfl rfl (run_loadVar_row wq _ _ _ _ _ _ q3 Try.underlying27 rfl IX.out)
          simp only [Act.put, List.setIfInBounds_toArray, List.set, Nat.reduceAdd]
          refine walkL_pure rfl rfl ?_ ?_ ?_
          rotate_left
          · intro w; go_simp; rfl
          simp only [Act.put, List.setIfInBounds_toArray, List.set, Nat.reduceAdd]
          refine walkL_pure rfl rfl ?_ ?_ ?_
          rotate_left
          · intro w; go_simp; rfl
          simp only [Act.put, List.setIfInBounds_toArray, List.set, Nat.reduceAdd]
          refine walkL_pure rfl rfl ?_ ?_ ?_
          rotate_left
          · intro w; go_simp; rfl
          simp only [Act.put, List.setIfInBounds_toArray, List.set, Nat.reduceAdd]
          refine walkL_call rfl (.int .i64 0) 13 #[.pointer (some ⟨g, 0, none⟩)] ?_ ?_ ?_
          · intro wq; go_simp
          · rintro L wq hn ⟨q1, q2, q3, q4⟩
            refine (steps_has q1).mono ?_
            rintro e wr ⟨rfl, rfl⟩
            exact ⟨rfl, q1, q2, q3, q4⟩
          simp only [Act.put, List.setIfInBounds_toArray, List.set, Nat.reduceAdd]
          refine walkL_pure rfl rfl ?_ ?_ ?_
          rotate_left
          · intro w; go_simp; rfl
          simp only [Act.put, List.setIfInBounds_toArray, List.set, Nat.reduceAdd]
          refine walkL_pure rfl rfl ?_ ?_ ?_
          rotate_left
          · intro w; go_simp; rfl
          simp only [Act.put, List.setIfInBounds_toArray, List.set, Nat.reduceAdd]
          refine walkL_pure rfl rfl ?_ ?_ ?_
          rotate_left
          · intro w; go_simp; rfl
          simp only [Act.put, List.setIfInBounds_toArray, List.set, Nat.reduceAdd]
          rintro w9 ⟨q1, q2, q3, q4⟩
          have Q4 := Lib.hid q4
          clear q1 q2 q3 q4 h27
          go_wp2
          go_ret
          exact ⟨rfl, U1.out.then (Upd.mono Q4.out (fun k hk h => by omega))⟩
end Go.Proofs.Ytoocbodkjldlcaa.Rg
