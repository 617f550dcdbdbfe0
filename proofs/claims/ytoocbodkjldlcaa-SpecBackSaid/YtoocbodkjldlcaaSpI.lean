/- The first bytes of a specifier. -/
import Derived.Test.YtoocbodkjldlcaaSpH
import Derived.Deep.RegionLaw
import Derived.Deep.Cut
namespace Go.Proofs.Ytoocbodkjldlcaa.Sp
set_option linter.unusedVariables false
set_option linter.unusedSimpArgs false
set_option maxHeartbeats 4000000
set_option maxRecDepth 20000
open Go.RowKit
theorem OwnB.of_blk {w : World} {b g : Nat} {l : List Int} (h : Blk w g (byteCells l).toArray 5) (hb : b ≤ g) (hl : l.length ≤ 1000) : OwnB w b (.slice (some ⟨g, 0, none⟩) l.length l.length) l :=
  ⟨by simp [byteCells], .inr ⟨g, l.length, _, rfl, hb, h, Nat.le_refl _, by simp only [maxLen]; omega, by simp [byteCells], by
    rw [Nat.mul_one, show l.length = (byteCells l).length by simp [byteCells]]; exact List.take_length⟩⟩
theorem OwnB.none (w : World) (b : Nat) : OwnB w b (.slice .none 0 0) [] := ⟨rfl, .inl ⟨rfl, rfl⟩⟩
theorem OwnB.low {w : World} {b b' : Nat} {v : Value} {l : List Int} (h : OwnB w b' v l) (hb : b ≤ b') : OwnB w b v l := by
  obtain ⟨h1, h | ⟨g, cap, cur, h2, h3, r⟩⟩ := h
  · exact ⟨h1, .inl h⟩
  · exact ⟨h1, .inr ⟨g, cap, cur, h2, Nat.le_trans hb h3, r⟩⟩
theorem OwnB.nonil {w : World} {b : Nat} {xa : Option Addr} {xn xc : Nat} {l : List Int} (h : OwnB w b (.slice xa xn xc) l) : xa = .none → xc = 0 := by
  rintro rfl
  obtain ⟨_, h | ⟨g, cap, cur, h2, r⟩⟩ := h
  · cases h.1; rfl
  · cases h2
/-- A call as one step of a region that draws its order. -/
theorem step_call {P : Program} {ops : Array Oper} {o : Oper} {a : Act} {w : World} {K : Act → World → Prop} {Q : Exit → Act → World → Prop} {E : Prop} (hg : o.guard = .none) (f : FuncId) (args : Array Value)
    (hrun : (execOp a.eval o).run P w = .ok (.enter f args) w) {R : Value → World → Prop} (hc : Calls P f args w (fun e w' => ∃ v, e = .returned v ∧ R v w')) (hK : ∀ v w', R v w' → K (a.put o.dst v) w') :
    if Region.wanted o (yielded ops a.tmps) = true then Oper.wp P o a w K Q else E := by
  have hw : Region.wanted o (yielded ops a.tmps) = true := by simp [Region.wanted, hg]
  rw [if_pos hw]
  unfold Oper.wp
  rw [hrun]
  simp only [Oper.upon]
  exact hc.mono fun e w' ⟨v, he, hr⟩ => by subst he; exact hK v w' hr

theorem run_appB {w : World} (ty : TypeId) (v : Value) (b : Nat) (l ys : List Int) (sao : Option Addr) (c : Nat) (hn : sao = .none → c = 0)
    (hy : RdB w sao ys) (HO : OwnB w b v l) (hb : b ≤ w.heap.size) (hl : l.length + ys.length ≤ 100000) :
    ∃ v' w1, (Builtin.append_ #[46, 46] ty #[v, .slice sao ys.length c]).run Try.prog w = .ok v' w1 ∧ OwnB w1 b v' (l ++ ys) ∧ Upd (OB v) w w1 ∧ (∀ k, OB v' k → OB v k ∨ w.heap.size ≤ k) := by
  obtain ⟨i0, hi, hzz⟩ := Option.map_eq_some_iff.1 info5
  simp only [Prod.mk.injEq] at hzz
  obtain ⟨hz0, hz1, hz2⟩ := hzz
  cases sao with
  | none =>
    have hy0 : ys = [] := by
      rcases ys with _ | ⟨y, t⟩
      · rfl
      · obtain ⟨_, _, e, _⟩ := hy 0 (by simp)
        cases e
    subst hy0
    rw [hn rfl]
    refine ⟨v, w, run_append_owned_none (P := Try.prog) w b 46 ty 5 i0 1 Try.underlying46 hi v l.length _ HO, ?_, Upd.refl _ w, fun k hk => .inl hk⟩
    rw [List.append_nil]; exact HO
  | some ad =>
    obtain ⟨v', w1, h1, hown, hg, hnil, hat⟩ := run_append_own_at (P := Try.prog) w b 46 ty 5 i0 (.int .u8 0) 1 1 Try.underlying46 hi hz0 hz1 hz2 rfl (by decide) v l.length _ HO ad ys.length c (byteCells ys) (by simp [byteCells]) (by
        intro j u hj
        have hjl : j < ys.length := by
          rcases Nat.lt_or_ge j ys.length with h' | h'
          · exact h'
          · simp [byteCells, h'] at hj
        obtain ⟨b', o', e, _, hc⟩ := hy j hjl
        cases e
        simp only [Addr.add, Option.isSome_none]
        simp [byteCells, hjl] at hj
        rw [← hj]
        have hc' : w.cell? ⟨b', o' + j, .none⟩ = some (Value.int IntKind.u8 ys[j]) := by simpa [List.getD, hjl] using hc
        split
        · rename_i h0
          subst h0
          exact hc'
        · exact hc') (by
        intro u hu
        simp only [byteCells, List.mem_map] at hu
        obtain ⟨_, _, rfl⟩ := hu
        rfl) (by simp only [maxLen]; omega) (by omega) hb
    refine ⟨v', w1, h1, ?_, (Upd.refl (OB v) w).grown hg (fun k hk => .inl hk), ?_⟩
    · unfold OwnB
      rw [List.length_append]
      simpa [byteCells] using hown
    · intro k hk
      rcases hat with hat | hat
      · left; rw [OB, ← hat]; exact hk
      · right; rw [OB, hat] at hk; cases hk; exact Nat.le_refl _
theorem step_appB {ops : Array Oper} {o : Oper} {a : Act} {w : World} {K : Act → World → Prop} {Q : Exit → Act → World → Prop} {E : Prop} (hg : o.guard = .none) (s x : Operand)
    (ho : o.op = .call { callee := .builtin .append, args := #[s, x], argTypes := #[46, 46] })
    (v : Value) (b : Nat) (l ys : List Int) (sao : Option Addr) (c : Nat) (hs : a.eval s = v) (hx : a.eval x = .slice sao ys.length c) (hn : sao = .none → c = 0)
    (hy : RdB w sao ys) (HO : OwnB w b v l) (hb : b ≤ w.heap.size) (hl : l.length + ys.length ≤ 100000)
    (h : ∀ v' w1, OwnB w1 b v' (l ++ ys) → Upd (OB v) w w1 → (∀ k, OB v' k → OB v k ∨ w.heap.size ≤ k) → K (a.put o.dst v') w1) :
    if Region.wanted o (yielded ops a.tmps) = true then Oper.wp Try.prog o a w K Q else E := by
  have hw : Region.wanted o (yielded ops a.tmps) = true := by simp [Region.wanted, hg]
  rw [if_pos hw]
  obtain ⟨v', w1, hr, h2, h3, h4⟩ := run_appB o.type v b l ys sao c hn hy HO hb hl
  unfold Oper.wp execOp
  simp only [ho, resolve, invoke, builtin, Sem.run_bind, Sem.run_pure, Result.andThen_ok, List.map_toArray, List.map_cons, List.map_nil, hs, hx, hr]
  exact h v' w1 h2 h3 h4

def rm (r : Int) : Int := bits BinOp.and IntKind.i64 r 15 % 256
def hd (b r : Int) : Int := bits BinOp.or IntKind.u8 b (rm r)
def firstF (s : Spc) (n : Nat) : List Int × Bool :=
  if s.k = 0 then ([s.v % 256], decide (s.v < 64))
  else if 5 ≤ s.k ∧ s.k ≤ 9 then ([hd (16 * s.k) s.r], true)
  else if s.k = 10 ∨ s.k = 11 then
    (if ext s.v 1 = s.v then hd (16 * s.k) s.r :: putB s.v 1 else if ext s.v 2 = s.v then hd (16 * s.k + 32) s.r :: putB s.v 2 else hd (16 * s.k + 64) s.r :: putB s.v 4, true)
  else if s.k = 12 then (143 :: putB s.v n, true)
  else if s.k = 13 then (159 :: putB s.v 4, true)
  else ([], false)
def Fst (w : World) (p : List Int × Bool) (e : Ending) (w' : World) : Prop := ∃ x, e = .returned (.tuple #[x, .bool p.2]) ∧ OwnB w' w.heap.size x p.1 ∧ Upd (fun _ => False) w w'
section
variable (r i v m : Int) (n : Nat) (w : World) (hv : 0 ≤ v) (hv2 : v < 4294967296)
theorem blk1 (w : World) (A : Obj) (y : Int) : OwnB ((w.alloc A).alloc (.cells #[.int .u8 y] 5)) w.heap.size (.slice (some ⟨w.heap.size + 1, 0, .none⟩) 1 1) [y] := by
  have := OwnB.of_blk (b := w.heap.size) (l := [y]) (g := w.heap.size + 1) (w := (w.alloc A).alloc (.cells #[.int .u8 y] 5)) (by have := Blk.new (w.alloc A) #[.int .u8 y] 5; rw [World.size_alloc] at this; exact this) (by omega) (by simp)
  exact this
theorem first_0 (hv : 0 ≤ v) (hv2 : v < 4294967296) : Calls Try.prog 27 #[.agg (Spc.cells ⟨0, r, i, v, m⟩), .int .i64 n] w (Fst w ([v % 256], decide (v < 64))) := by
  unfold Spc.cells
  simp only []
  go_enter Try.func27, Try.ntmps27
  go_wp2
  go_region
  all_goals go_wp2
  all_goals exact bodyPost_ret (v := .tuple #[_, _]) (by simp [results, Try.results27, go_sem]) rfl ⟨_, rfl, (blk1 w _ _).drew, (((Upd.refl _ w).alloc _).alloc _).drew⟩
theorem first_5 (k : Int) (hk : 5 ≤ k) (hk9 : k ≤ 9) (hv : 0 ≤ v) (hv2 : v < 4294967296) : Calls Try.prog 27 #[.agg (Spc.cells ⟨k, r, i, v, m⟩), .int .i64 n] w (Fst w ([hd (16 * k) r], true)) := by
  rcases (by omega : k = 5 ∨ k = 6 ∨ k = 7 ∨ k = 8 ∨ k = 9) with rfl | rfl | rfl | rfl | rfl
  all_goals
    unfold Spc.cells
    simp only []
    go_enter Try.func27, Try.ntmps27
    go_wp2
    exact bodyPost_ret (v := .tuple #[_, _]) (by simp [results, Try.results27, go_sem]) rfl ⟨_, rfl, blk1 w _ _, ((Upd.refl _ w).alloc _).alloc _⟩
theorem first_bad (k : Int) (hk : k < 0 ∨ (0 < k ∧ k < 5) ∨ 13 < k) : Calls Try.prog 27 #[.agg (Spc.cells ⟨k, r, i, v, m⟩), .int .i64 n] w (Fst w ([], false)) := by
  unfold Spc.cells
  simp only []
  have e0 : (k == 0) = false := by rw [beq_eq_false_iff_ne]; omega
  have e5 : (k == 5) = false := by rw [beq_eq_false_iff_ne]; omega
  have e6 : (k == 6) = false := by rw [beq_eq_false_iff_ne]; omega
  have e7 : (k == 7) = false := by rw [beq_eq_false_iff_ne]; omega
  have e8 : (k == 8) = false := by rw [beq_eq_false_iff_ne]; omega
  have e9 : (k == 9) = false := by rw [beq_eq_false_iff_ne]; omega
  have e10 : (k == 10) = false := by rw [beq_eq_false_iff_ne]; omega
  have e11 : (k == 11) = false := by rw [beq_eq_false_iff_ne]; omega
  have e12 : (k == 12) = false := by rw [beq_eq_false_iff_ne]; omega
  have e13 : (k == 13) = false := by rw [beq_eq_false_iff_ne]; omega
  clear hk
  go_enter Try.func27, Try.ntmps27
  go_wp2
  exact bodyPost_ret (v := .tuple #[_, _]) (by simp [results, Try.results27, go_sem]) rfl ⟨_, rfl, OwnB.none _ _, (Upd.refl _ w).alloc _⟩
theorem first_12 (hv : 0 ≤ v) (hv2 : v < 4294967296) (hn : n ≤ 4) : Calls Try.prog 27 #[.agg (Spc.cells ⟨12, r, i, v, m⟩), .int .i64 n] w (Fst w (143 :: putB v n, true)) := by
  unfold Spc.cells
  simp only []
  have hl : (putB v n).length ≤ 4 := by simp [putB]; omega
  go_enter Try.func27, Try.ntmps27
  go_wp2_with (first
    | (go_at_call 26; refine (put_any v n _ hv hv2 hn).mono ?_; rintro e w' ⟨x, rfl, ho, hu⟩; have HO := Lib.hid ho; have HU := Lib.hid ((((Upd.refl (fun _ => False) w).alloc _).alloc _).then hu); have HB := Lib.hid ((blk1 w _ _).upd hu (fun _ _ h => h)); obtain ⟨xa, xc, rfl, hxc, hxr, hx⟩ := ho.slice; have HX := Lib.hid hxr; have HN := Lib.hid (OwnB.nonil ho); clear hu hxr hx ho)
    | (at_builtin; go_must (refine wpList_appB rfl (.tmp 74) (.tmp 78) rfl _ w.heap.size [143] (putB v n) xa xc rfl rfl HN.out HX.out HB.out ?_ ?_ ?_)))
  · exact HU.out.size
  · simp only [List.length_cons, List.length_nil]; omega
  · intro v' w1 own1 up1 hv1
    have HO1 := Lib.hid own1
    have HU1 : Hid (Upd (fun _ => False) w w1) := Lib.hid (HU.out.trans up1 (fun j hj h => by cases h; exact absurd hj (by show ¬ w.heap.size + 1 < w.heap.size; omega)))
    clear own1 up1 hv1
    go_wp2
    exact bodyPost_ret (v := .tuple #[v', .bool true]) (by simp [results, Try.results27, go_sem]) rfl ⟨_, rfl, HO1.out, HU1.out⟩
theorem first_13 (hv : 0 ≤ v) (hv2 : v < 4294967296) : Calls Try.prog 27 #[.agg (Spc.cells ⟨13, r, i, v, m⟩), .int .i64 n] w (Fst w (159 :: putB v 4, true)) := by
  unfold Spc.cells
  simp only []
  have hl : (putB v 4).length ≤ 4 := by simp [putB]
  go_enter Try.func27, Try.ntmps27
  go_wp2_with (first
    | (go_at_call 26; refine (put_any v 4 _ hv hv2 (by decide)).mono ?_; rintro e w' ⟨x, rfl, ho, hu⟩; have HO := Lib.hid ho; have HU := Lib.hid ((((Upd.refl (fun _ => False) w).alloc _).alloc _).then hu); have HB := Lib.hid ((blk1 w _ _).upd hu (fun _ _ h => h)); obtain ⟨xa, xc, rfl, hxc, hxr, hx⟩ := ho.slice; have HX := Lib.hid hxr; have HN := Lib.hid (OwnB.nonil ho); clear hu hxr hx ho)
    | (at_builtin; go_must (refine wpList_appB rfl (.tmp 82) (.tmp 85) rfl _ w.heap.size [159] (putB v 4) xa xc rfl rfl HN.out HX.out HB.out ?_ ?_ ?_)))
  · exact HU.out.size
  · simp only [List.length_cons, List.length_nil]; omega
  · intro v' w1 own1 up1 hv1
    have HO1 := Lib.hid own1
    have HU1 : Hid (Upd (fun _ => False) w w1) := Lib.hid (HU.out.trans up1 (fun j hj h => by cases h; exact absurd hj (by show ¬ w.heap.size + 1 < w.heap.size; omega)))
    clear own1 up1 hv1
    go_wp2
    exact bodyPost_ret (v := .tuple #[v', .bool true]) (by simp [results, Try.results27, go_sem]) rfl ⟨_, rfl, HO1.out, HU1.out⟩
theorem blkN (W : World) (y : Int) (b : Nat) (hb : b ≤ W.heap.size) : OwnB (W.alloc (.cells #[.int .u8 y] 5)) b (.slice (some ⟨W.heap.size, 0, .none⟩) 1 1) [y] :=
  OwnB.of_blk (l := [y]) (Blk.new W _ 5) hb (by simp)
/-- The three sizes. -/
def szs : Array Value := #[.int .i64 1, .int .i64 2, .int .i64 4]
def sz (j : Nat) : Nat := if j = 0 then 1 else if j = 1 then 2 else 4
abbrev yy (k : Int) (j : Nat) (r : Int) : Int := bits BinOp.or IntKind.u8 (IntKind.u8.wrap (IntKind.u8.wrap (IntKind.i64.wrap (IntKind.i64.wrap (IntKind.i64.wrap (10 + IntKind.i64.wrap (2 * (j : Int))) + k) - 10)) * 16)) (bits BinOp.and IntKind.i64 r 15 % 256)
theorem first_10 (hv : 0 ≤ v) (hv2 : v < 4294967296) : Calls Try.prog 27 #[.agg (Spc.cells ⟨10, r, i, v, m⟩), .int .i64 n] w (Fst w (firstF ⟨10, r, i, v, m⟩ n)) := by
  generalize hF : Fst w (firstF ⟨10, r, i, v, m⟩ n) = F
  have HF := Lib.hid hF
  clear hF
  unfold Spc.cells
  simp only []
  go_enter Try.func27, Try.ntmps27
  go_wp2
  go_loopw [42] (fun s42 W => ∃ j : Nat, j ≤ 2 ∧ s42 = .int .i64 j ∧ Hid (∀ j', j' < j → ext v (sz j') ≠ v) ∧ Hid (Blk W w.heap.size (Spc.cells ⟨10, r, i, v, m⟩) 43) ∧ Hid (Blk W (w.heap.size + 1) szs 3) ∧ Hid (Upd (fun _ => False) w W)) (fun s42 _ => 3 - (intOf s42).toNat)
  case atStart =>
    refine ⟨0, by omega, rfl, Lib.hid (fun j' h => absurd h (by omega)), Lib.hid ?_, Lib.hid ?_, Lib.hid (((Upd.refl _ w).alloc _).alloc _)⟩
    · exact (Blk.new w _ 43).alloc _
    · have := Blk.new (w.alloc (.cells (Spc.cells ⟨10, r, i, v, m⟩) 43)) szs 3
      rw [World.size_alloc] at this
      exact this
  case round =>
    obtain ⟨j, hj, rfl, HN, HB, HA, HU⟩ := hrel
    have hext : ∀ (W : World), Calls Try.prog 25 #[.int .u32 v, .int .i64 (sz j)] W fun e w' => e = .returned (.int .u32 (ext v (sz j))) ∧ w' = W := fun W => ext_any v _ W hv hv2
    have c0 := HB.out.cell 0
    have c3 := HB.out.cell 3
    have a0 := HA.out.cell j
    have hsz : (szs[j]?) = some (.int .i64 (sz j)) := by rcases (by omega : j = 0 ∨ j = 1 ∨ j = 2) with rfl | rfl | rfl <;> rfl
    have hsz4 : sz j ≤ 4 := by unfold sz; split; omega; split <;> omega
    rw [hsz] at a0
    have hsz1 : 1 ≤ sz j := by unfold sz; split; omega; split <;> omega
    have HZ := Lib.hid hsz
    clear hsz
    simp only [Spc.cells, List.getElem?_toArray, List.getElem?_cons_zero, List.getElem?_cons_succ] at c0 c3
    have hlt : w.heap.size + 1 < wr.heap.size := HA.out.lt
    have hlt0 : w.heap.size < wr.heap.size := by omega
    have HX := Lib.hid hext
    have hpl : (putB v (sz j)).length ≤ 4 := by simp [putB]; omega
    clear hext
    by_cases he : ext v (sz j) = v
    · have he' : (ext v (sz j) == v) = true := by simpa using he
      have HE := Lib.hid he
      clear he
      go_wp2_with fail
      go_quiet (first | (go_at_call 25; refine Calls.quiet_of_same (HX.out _)))
      go_wp2_with fail
      generalize hW : World.drewN wr _ = W
      have d0 : W.cell? ⟨w.heap.size, 0, .none⟩ = some (.int .i64 10) := hW ▸ c0
      have d3 : W.cell? ⟨w.heap.size, 3, .none⟩ = some (.int .u32 v) := hW ▸ c3
      have dl : w.heap.size < W.heap.size := hW ▸ hlt0
      have HV : Hid (Upd (fun _ => False) w W) := Lib.hid (hW ▸ HU.out.drewN _)
      clear hW c0 c3 a0 HB HA HU HX hlt hlt0 he' HZ
      go_cut [4, 5] from 9 (fun s4 s5 W => s5 = .bool true ∧ Hid (OwnB W w.heap.size s4 (yy 10 j r :: putB v (sz j))) ∧ Hid (Upd (fun _ => False) w W))
      case first =>
        go_region_law (first
          | (refine step_call rfl 26 #[.int .u32 v, .int .i64 (sz j)] (by go_simp) (put_any v _ _ hv hv2 hsz4) ?_
             rintro x w1 ⟨ho, hu⟩
             have HO := Lib.hid ho
             have HC := Lib.hid hu
             have HT : Hid (Upd (fun _ => False) w w1) := Lib.hid (by first | exact HV.out.drew.then hu | exact (HV.out.drew.alloc _).then hu)
             obtain ⟨xa, xc, rfl, hxc, hxr, hx⟩ := ho.slice
             have HR := Lib.hid hxr
             first | (have e0 := cellUpd hu (by show w.heap.size < W.heap.size; exact dl) d0) | skip
             clear hu ho hxr hx)
          | (refine step_appB rfl (.tmp 65) (.tmp 69) rfl _ w.heap.size [yy 10 j r] (putB v (sz j)) xa xc rfl rfl (OwnB.nonil HO.out) ?_ ?_ ?_ ?_ ?_
             · first | exact HR.out | exact RdB.upd HR.out ((Upd.refl _ _).alloc _)
             · first | exact blkN w1 _ _ HT.out.size | exact OwnB.upd (blkN W.drew _ _ (Nat.le_of_lt dl)) HC.out (fun _ _ h => h)
             · first | exact HT.out.size | exact Nat.le_trans HT.out.size (by rw [World.size_alloc]; omega)
             · simp only [List.length_cons, List.length_nil]; omega
             intro v' w2 own1 up1 hv1
             have HF1 := Lib.hid own1
             have HF2 : Hid (Upd (fun _ => False) w w2) := Lib.hid (by
               first
               | exact HT.out.trans up1 (fun k hk h => by cases h; exact absurd hk (by show ¬ W.heap.size < w.heap.size; omega))
               | exact (HT.out.alloc _).trans up1 (fun k hk h => by cases h; exact absurd hk (by show ¬ w1.heap.size < w.heap.size; have := HT.out.size; omega)))
             clear own1 up1 hv1))
        all_goals go_wp2
        all_goals go_meet
        all_goals exact ⟨rfl, HF1, HF2⟩
      case rest =>
        obtain ⟨rfl, HF1, HF2⟩ := hcut
        clear d0 d3 dl HV
        have hN := HN.out
        have hE := HE.out
        have e : firstF ⟨10, r, i, v, m⟩ n = (yy 10 j r :: putB v (sz j), true) := by
          rcases (by omega : j = 0 ∨ j = 1 ∨ j = 2) with rfl | rfl | rfl
          · have : ext v 1 = v := hE
            simp [firstF, this, sz]; rfl
          · have h1 : ext v 1 ≠ v := hN 0 (by omega)
            have h2 : ext v 2 = v := hE
            simp [firstF, h1, h2, sz]; rfl
          · have h1 : ext v 1 ≠ v := hN 0 (by omega)
            have h2 : ext v 2 ≠ v := hN 1 (by omega)
            simp [firstF, h1, h2, sz]; rfl
        clear hN hE
        go_wp2
        rw [← HF.out, e]
        exact ⟨u4, rfl, HF1.out, HF2.out⟩
    · have hne : (ext v (sz j) == v) = false := by simpa using he
      have hj2 : j < 2 := by
        rcases (by omega : j < 2 ∨ j = 2) with h | rfl
        · exact h
        · exact absurd (show ext v 4 = v by simp [ext]) he
      have HN1 := Lib.hid (show ∀ j', j' < j + 1 → ext v (sz j') ≠ v from fun j' h => by
        rcases (by omega : j' < j ∨ j' = j) with h | rfl
        · exact HN.out j' h
        · exact he)
      clear he
      go_wp2_with fail
      go_quiet (first | (go_at_call 25; refine Calls.quiet_of_same (HX.out _)))
      go_wp2_with fail
      refine ⟨⟨j + 1, by omega, rfl, HN1, Lib.hid (HB.out.drewN _), Lib.hid (HA.out.drewN _), Lib.hid (HU.out.drewN _)⟩, by simp [intOf]; omega⟩
end
end Go.Proofs.Ytoocbodkjldlcaa.Sp
