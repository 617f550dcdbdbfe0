/-
  'RegsForgets' returns true, whatever the state, the two lists of registers and the number, and leaves its arguments as they were.
  No condition: every state, every two slices of ints, every number.
-/
import Derived.Test.YtoocbodkjldlcaaFgB
import Derived.Test.YtoocbodkjldlcaaOpn
namespace Go.Proofs.Ytoocbodkjldlcaa.forgets
set_option linter.unusedVariables false
set_option linter.unusedSimpArgs false
open Go.ChangeShapes Go.WideShapes Go.ChangeAt Go.RowKit

theorem own : ownKnob Try.prog.godebug = none := by kernel_rfl
theorem laidOut : laidOutB Try.prog = true := by kernel_rfl

/-- Where more than 60 steps are asked the law looks no further. -/
theorem long_any (st : Array Value) (ao bo : Option Addr) (na nb ca cb : Nat) (d : Int) (w : World) (h : 60 < na ∨ 60 < nb) :
    Calls Try.prog 3 #[.agg st, .slice ao na ca, .slice bo nb cb, .int .u32 d] w fun e w' => e = .returned (.bool true) ∧ Upd (fun _ => False) w w' := by
  by_cases ha : 60 < na
  · have ha' : (60 : Int) < na := by omega
    go_enter Try.func3, Try.ntmps3
    go_wp2_with (go_at_call 6; refine (Rg.alive_any _).mono ?_; rintro e w1 ⟨rfl, u1⟩; have U1 := Lib.hid u1; clear u1)
    go_ret
    exact ⟨rfl, ((Upd.refl _ w).alloc _).then U1.out⟩
  · have ha' : (na : Int) ≤ 60 := by omega
    have hb' : (60 : Int) < nb := by omega
    go_enter Try.func3, Try.ntmps3
    go_wp2_with (go_at_call 6; refine (Rg.alive_any _).mono ?_; rintro e w1 ⟨rfl, u1⟩; have U1 := Lib.hid u1; clear u1)
    go_ret
    exact ⟨rfl, ((Upd.refl _ w).alloc _).then U1.out⟩

/-- A slice of ints that came in. -/
theorem open_nums {H : Type} {enc : TypeId × Value → H} {W : World} {v : Value} {dd : DataW H} {p : List MemPlace} {base : Nat} (hv : Value.okWide Try.prog W .any base 28 v)
    (h : DataW.Trod enc Try.prog W 0 (fun _ => true) true 28 v dd p) : ∃ ao xs c, v = .slice ao xs.length c ∧ Rg.Nums W ao xs := by
  obtain ⟨ao, n, c, rfl⟩ := okWide_slice Try.underlying28 hv
  obtain ⟨fuel, hf⟩ := h
  rcases open_ints Try.underlying28 Try.underlying3 (by kernel_rfl) hf with ⟨hcs, _⟩ | ⟨x, l, c', zs, hcs, _, hl, hm, hz, _, hcell, hwz⟩
  · simp [Value.cells] at hcs
    obtain ⟨rfl, rfl, rfl⟩ := hcs
    exact ⟨none, [], 0, rfl, fun i hi => by simp at hi⟩
  · simp [Value.cells] at hcs
    obtain ⟨rfl, rfl, rfl⟩ := hcs
    have hz' : zs.length = c := by simpa using hz
    refine ⟨some x, zs.take n, c, by rw [List.length_take, Nat.min_eq_left (by omega)], fun i hi => ?_⟩
    rw [List.length_take, Nat.min_eq_left (by omega)] at hi
    obtain ⟨b, o, sp⟩ := x
    have h0 := hcell 0 (by omega)
    have hs : sp = none := by simpa [Addr.add] using World.cell?_spot h0
    subst hs
    have hi' := hcell i (by omega)
    have e : (⟨b, o, none⟩ : Addr).add i = ⟨b, o + i, none⟩ := by unfold Addr.add; split <;> simp_all
    rw [e] at hi'
    refine ⟨b, o, rfl, World.block_lt_of_cell? W ⟨b, o + i, none⟩ hi', ?_⟩
    rw [hi']
    simp [List.getD, List.getElem?_take_of_lt hi]

set_option maxRecDepth 100000 in
theorem lifted (os : Os) (started : os.Started) (H : Type) (enc : TypeId × Value → H) :
    ReturnsInHanded {} Try.checked os 3 .any (Rows.regsForgetsSpec.pre6 enc Try.prog Try.f3 Rows.regsForgetsRow.domain false) (Rows.regsForgetsSpec.post enc Try.prog Try.f3 false true false false) := by
  refine returnsInHanded_of_change (C := Try.checked) own started (by kernel_rfl) Try.func3
    (ChangeSpec.witness6 (enc := enc) (C := Try.checked) false ⟨#[], #[.agg (Rg.stateCells (List.replicate 16 0) 0 0 0 [.int .u32 0, .int .u32 0, .int .u32 0, .int .u32 0, .int .u32 0, .int .u32 0, .int .i64 0]).toArray, .slice none 0 0, .slice none 0 0, .int .u32 0], []⟩ 8 (by kernel_rfl) (by kernel_rfl) (by kernel_rfl) (by kernel_rfl)) ?_
  intro W base args ds gs before hval0 hW hcnd _
  have hval : ∀ (j : Nat) t v, Try.f3.params[j]? = some t → args[j]? = some v → Value.okWide Try.prog W .any base t v := hval0
  have hW' := hW
  obtain ⟨p, q, hA0, hV, rfl, hfz, hnd⟩ := hW
  have hA : DataW.TrodAll enc Try.prog W 0 (fun _ => true) true Try.f3.params.toList args.toList ds p := hA0
  rw [Try.params3] at hA hval
  obtain ⟨v0, vs0, d0, ds0, p0, q0, hargs, rfl, rfl, h0, r0⟩ := trodAll_cons hA
  obtain ⟨v1, vs1, d1, ds1, p1, q1, rfl, rfl, rfl, h1, r1⟩ := trodAll_cons r0
  obtain ⟨v2, vs2, d2, ds2, p2, q2, rfl, rfl, rfl, h2, r2⟩ := trodAll_cons r1
  obtain ⟨v3, vs3, d3, ds3, p3, q3, rfl, rfl, rfl, h3, r3⟩ := trodAll_cons r2
  obtain ⟨rfl, rfl, rfl⟩ := trodAll_nil r3
  obtain rfl : args = #[v0, v1, v2, v3] := by cases args; simp_all
  obtain ⟨rfl, rfl⟩ := trodVars_none hV
  have lt0 : ∀ x ∈ p0, x.block < W.heap.size := by obtain ⟨m, hm⟩ := h0; exact DataW.trod_lt m _ _ _ hm
  have lt1 : ∀ x ∈ p1, x.block < W.heap.size := by obtain ⟨m, hm⟩ := h1; exact DataW.trod_lt m _ _ _ hm
  have lt2 : ∀ x ∈ p2, x.block < W.heap.size := by obtain ⟨m, hm⟩ := h2; exact DataW.trod_lt m _ _ _ hm
  obtain ⟨r, psl, ksp, usp, rest, rfl, hr, hrest, hfit⟩ := open_state (hval 0 27 v0 rfl rfl)
  obtain ⟨ao, xa, ca, rfl, ha⟩ := open_nums (hval 1 28 v1 rfl rfl) h1
  obtain ⟨bo, xb, cb, rfl, hb⟩ := open_nums (hval 2 28 v2 rfl rfl) h2
  obtain ⟨a3, rfl, rfl, rfl, w3⟩ := open_int Try.underlying22 (hval 3 22 v3 rfl rfl) h3
  clear hA0 hval0
  have walk : Calls Try.prog 3 #[.agg (Rg.stateCells r psl ksp usp rest).toArray, .slice ao xa.length ca, .slice bo xb.length cb, .int .u32 a3] W fun e w' => e = .returned (.bool true) ∧ Upd (fun _ => False) W w' := by
    by_cases hlong : 60 < xa.length ∨ 60 < xb.length
    · exact long_any _ _ _ _ _ _ _ _ W hlong
    · exact Rg.forgets_any ⟨r, psl, ksp, usp⟩ rest ⟨hr, hfit⟩ hrest ao bo xa xb ca cb a3 W ha hb (by omega) (by omega)
  refine walk.mono fun e W' ⟨he, up⟩ => ?_
  have bel := up.below
  subst he
  exact ⟨_, rfl, _, _, _, [], _, [], hW', trodAll_mk1 (shut_bool Try.underlying4 _), (trodAll_cons_mk (Below.trod laidOut (by kernel_rfl) (of_decide_eq_true (by kernel_rfl)) h0 bel lt0) (trodAll_cons_mk (Below.trod laidOut (by kernel_rfl) (of_decide_eq_true (by kernel_rfl)) h1 bel lt1) (trodAll_cons_mk (Below.trod laidOut (by kernel_rfl) (of_decide_eq_true (by kernel_rfl)) h2 bel lt2) (trodAll_cons_mk (shut_int Try.underlying22 w3) trodAll_mk0)))), rfl, bel.frame _, fun h => by cases h⟩

theorem over : Rows.regsForgetsRow.holds Try.pinned (OpenSpec.ofChange Rows.regsForgetsSpec) :=
  OpenClaim.holds_of_wide 3 Try.f3 rfl rfl rfl rfl rfl rfl rfl ⟨rfl, rfl, rfl, rfl, rfl⟩ rfl rfl rfl rfl rfl (by kernel_rfl) Try.func3 (by kernel_rfl)
    (of_decide_eq_true (by kernel_rfl)) (by unfold Func.isWrapper; first | (rw [if_pos (by decide +kernel)]; kernel_rfl) | (rw [if_neg (by decide +kernel)]; exact ⟨rfl, rfl⟩))
    (fun os started H enc _ => lifted os started H enc)

theorem regsForgets_holds : Rows.RegsForgetsSaid := over
#print axioms regsForgets_holds
end Go.Proofs.Ytoocbodkjldlcaa.forgets
