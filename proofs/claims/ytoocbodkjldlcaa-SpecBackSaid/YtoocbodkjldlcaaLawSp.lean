/-
  'SpecBack' returns true, whatever the specifier, the operand and the bytes, and leaves its arguments as they were.
  No condition: every specifier, every operand, every slice of bytes.
-/
import Derived.Test.YtoocbodkjldlcaaSpQ
import Derived.Test.YtoocbodkjldlcaaOpn
namespace Go.Proofs.Ytoocbodkjldlcaa.back
set_option linter.unusedVariables false
set_option linter.unusedSimpArgs false
open Go.ChangeShapes Go.WideShapes Go.ChangeAt Go.RowKit Go.Proofs.Ytoocbodkjldlcaa.Sp
theorem own : ownKnob Try.prog.godebug = none := by kernel_rfl
theorem laidOut : laidOutB Try.prog = true := by kernel_rfl
theorem types43 : Try.prog.cellTypes Try.prog.depth 43 = some [3, 3, 3, 22, 3] := by kernel_rfl
theorem cells43 : Try.prog.cellsOf 43 = 5 := by kernel_rfl
theorem types45 : Try.prog.cellTypes Try.prog.depth 45 = some [5, 3] := by kernel_rfl
theorem cells45 : Try.prog.cellsOf 45 = 2 := by kernel_rfl
theorem u32_has {x : Int} (h : IntKind.u32.has x) : 0 ≤ x ∧ x < 4294967296 := by
  obtain ⟨h1, h2⟩ := h
  simp [IntKind.min, IntKind.max, IntKind.signed, IntKind.bits] at h1 h2
  omega
theorem u8_has {x : Int} (h : IntKind.u8.has x) : 0 ≤ x ∧ x < 256 := by
  obtain ⟨h1, h2⟩ := h
  simp [IntKind.min, IntKind.max, IntKind.signed, IntKind.bits] at h1 h2
  omega
theorem open_spc {w : World} {base : Nat} {v : Value} (h : Value.okWide Try.prog w .any base 43 v) : ∃ k r i x m : Int, v = .agg (Spc.cells ⟨k, r, i, x, m⟩) ∧ 0 ≤ x ∧ x < 4294967296 := by
  obtain ⟨cs, rfl, hl, hc⟩ := open_cells Try.underlying43 types43 cells43 h
  match cs, hl with
  | [c0, c1, c2, c3, c4], _ =>
    obtain ⟨u0, e0, o0⟩ := hc 0 c0 rfl
    obtain rfl : 3 = u0 := Option.some.inj e0
    obtain ⟨n0, rfl, h0⟩ := cell_int Try.underlying3 o0
    obtain ⟨u1, e1, o1⟩ := hc 1 c1 rfl
    obtain rfl : 3 = u1 := Option.some.inj e1
    obtain ⟨n1, rfl, h1⟩ := cell_int Try.underlying3 o1
    obtain ⟨u2, e2, o2⟩ := hc 2 c2 rfl
    obtain rfl : 3 = u2 := Option.some.inj e2
    obtain ⟨n2, rfl, h2⟩ := cell_int Try.underlying3 o2
    obtain ⟨u3, e3, o3⟩ := hc 3 c3 rfl
    obtain rfl : 22 = u3 := Option.some.inj e3
    obtain ⟨n3, rfl, h3⟩ := cell_int Try.underlying22 o3
    obtain ⟨u4, e4, o4⟩ := hc 4 c4 rfl
    obtain rfl : 3 = u4 := Option.some.inj e4
    obtain ⟨n4, rfl, h4⟩ := cell_int Try.underlying3 o4
    exact ⟨n0, n1, n2, n3, n4, rfl, (u32_has h3).1, (u32_has h3).2⟩
theorem open_opr {w : World} {base : Nat} {v : Value} (h : Value.okWide Try.prog w .any base 45 v) : ∃ a n : Int, v = .agg #[.int .u8 a, .int .i64 n] := by
  obtain ⟨cs, rfl, hl, hc⟩ := open_cells Try.underlying45 types45 cells45 h
  match cs, hl with
  | [c0, c1], _ =>
    obtain ⟨u0, e0, o0⟩ := hc 0 c0 rfl
    obtain rfl : 5 = u0 := Option.some.inj e0
    obtain ⟨n0, rfl, h0⟩ := cell_int Try.underlying5 o0
    obtain ⟨u1, e1, o1⟩ := hc 1 c1 rfl
    obtain rfl : 3 = u1 := Option.some.inj e1
    obtain ⟨n1, rfl, h1⟩ := cell_int Try.underlying3 o1
    exact ⟨n0, n1, rfl⟩
/-- A slice of bytes that came in. -/
theorem open_bts {H : Type} {enc : TypeId × Value → H} {W : World} {v : Value} {dd : DataW H} {p : List MemPlace} {base : Nat} (hv : Value.okWide Try.prog W .any base 46 v)
    (h : DataW.Trod enc Try.prog W 0 (fun _ => true) true 46 v dd p) : ∃ ao xs c, v = .slice ao xs.length c ∧ RdB W ao xs ∧ Byt xs ∧ xs.length ≤ c ∧ (ao = none → c = 0) := by
  obtain ⟨ao, n, c, rfl⟩ := okWide_slice Try.underlying46 hv
  obtain ⟨fuel, hf⟩ := h
  rcases open_ints Try.underlying46 Try.underlying5 (by kernel_rfl) hf with ⟨hcs, _⟩ | ⟨x, l, c', zs, hcs, _, hl, hm, hz, _, hcell, hwz⟩
  · simp [Value.cells] at hcs
    obtain ⟨rfl, rfl, rfl⟩ := hcs
    exact ⟨none, [], 0, rfl, fun i hi => by simp at hi, fun x hx => by simp at hx, by simp, fun _ => rfl⟩
  · simp [Value.cells] at hcs
    obtain ⟨rfl, rfl, rfl⟩ := hcs
    have hz' : zs.length = c := by simpa using hz
    refine ⟨some x, zs.take n, c, by rw [List.length_take, Nat.min_eq_left (by omega)], fun i hi => ?_, fun y hy => ?_, by rw [List.length_take]; omega, fun h => by cases h⟩
    · rw [List.length_take, Nat.min_eq_left (by omega)] at hi
      obtain ⟨b, o, sp⟩ := x
      have h0 := hcell 0 (by omega)
      have hs : sp = none := by simpa [Addr.add] using World.cell?_spot h0
      subst hs
      have hi' := hcell i (by omega)
      have e : (⟨b, o, none⟩ : Addr).add i = ⟨b, o + i, none⟩ := by unfold Addr.add; split <;> simp_all
      rw [e] at hi'
      refine ⟨b, o, rfl, World.block_lt_of_cell? W ⟨b, o + i, none⟩ hi', ?_⟩
      rw [hi']
      simp [List.getD, List.getElem?_take_of_lt hi]
    · exact u8_has (by simpa [Lit.wf, IntKind.has] using hwz y (List.mem_of_mem_take hy))


set_option maxRecDepth 100000 in
theorem lifted (os : Os) (started : os.Started) (H : Type) (enc : TypeId × Value → H) :
    ReturnsInHanded {} Try.checked os 5 .any (Rows.specBackSpec.pre6 enc Try.prog Try.f5 Rows.specBackRow.domain false) (Rows.specBackSpec.post enc Try.prog Try.f5 false true false false) := by
  refine returnsInHanded_of_change (C := Try.checked) own started (by kernel_rfl) Try.func5
    (ChangeSpec.witness6 (enc := enc) (C := Try.checked) false ⟨#[], #[.agg (Spc.cells ⟨0, 0, 0, 0, 0⟩), .agg #[.int .u8 0, .int .i64 0], .slice none 0 0], []⟩ 8 (by kernel_rfl) (by kernel_rfl) (by kernel_rfl) (by kernel_rfl)) ?_
  intro W base args ds gs before hval0 hW hcnd _
  have hval : ∀ (j : Nat) t v, Try.f5.params[j]? = some t → args[j]? = some v → Value.okWide Try.prog W .any base t v := hval0
  have hW' := hW
  obtain ⟨p, q, hA0, hV, rfl, hfz, hnd⟩ := hW
  have hA : DataW.TrodAll enc Try.prog W 0 (fun _ => true) true Try.f5.params.toList args.toList ds p := hA0
  rw [Try.params5] at hA hval
  obtain ⟨v0, vs0, d0, ds0, p0, q0, hargs, rfl, rfl, h0, r0⟩ := trodAll_cons hA
  obtain ⟨v1, vs1, d1, ds1, p1, q1, rfl, rfl, rfl, h1, r1⟩ := trodAll_cons r0
  obtain ⟨v2, vs2, d2, ds2, p2, q2, rfl, rfl, rfl, h2, r2⟩ := trodAll_cons r1
  obtain ⟨rfl, rfl, rfl⟩ := trodAll_nil r2
  obtain rfl : args = #[v0, v1, v2] := by cases args; simp_all
  obtain ⟨rfl, rfl⟩ := trodVars_none hV
  have lt0 : ∀ x ∈ p0, x.block < W.heap.size := by obtain ⟨m, hm⟩ := h0; exact DataW.trod_lt m _ _ _ hm
  have lt1 : ∀ x ∈ p1, x.block < W.heap.size := by obtain ⟨m, hm⟩ := h1; exact DataW.trod_lt m _ _ _ hm
  have lt2 : ∀ x ∈ p2, x.block < W.heap.size := by obtain ⟨m, hm⟩ := h2; exact DataW.trod_lt m _ _ _ hm
  obtain ⟨k, r, i, x, m, rfl, hx0, hx1⟩ := open_spc (hval 0 43 v0 rfl rfl)
  obtain ⟨acc, n, rfl⟩ := open_opr (hval 1 45 v1 rfl rfl)
  obtain ⟨ao, l, c, rfl, hr, hb, hc, hn⟩ := open_bts (hval 2 46 v2 rfl rfl) h2
  clear hA0 hval0
  have walk : Calls Try.prog 5 #[.agg (Spc.cells ⟨k, r, i, x, m⟩), .agg #[.int .u8 acc, .int .i64 n], .slice ao l.length c] W fun e w' => e = .returned (.bool true) ∧ Upd (fun _ => False) W w' := by
    by_cases hl : l.length ≤ 256
    · exact back_any k r i x m acc n W ao l c hr hb hc hn hl hx0 hx1
    · exact back_long k r i x m acc n W ao l.length c (by omega)
  refine walk.mono fun e W' ⟨he, up⟩ => ?_
  have bel := up.below
  subst he
  exact ⟨_, rfl, _, _, _, [], _, [], hW', trodAll_mk1 (shut_bool Try.underlying4 _), (trodAll_cons_mk (Below.trod laidOut (by kernel_rfl) (of_decide_eq_true (by kernel_rfl)) h0 bel lt0) (trodAll_cons_mk (Below.trod laidOut (by kernel_rfl) (of_decide_eq_true (by kernel_rfl)) h1 bel lt1) (trodAll_cons_mk (Below.trod laidOut (by kernel_rfl) (of_decide_eq_true (by kernel_rfl)) h2 bel lt2) trodAll_mk0))), rfl, bel.frame _, fun h => by cases h⟩

theorem over : Rows.specBackRow.holds Try.pinned (OpenSpec.ofChange Rows.specBackSpec) :=
  OpenClaim.holds_of_wide 5 Try.f5 rfl rfl rfl rfl rfl rfl rfl ⟨rfl, rfl, rfl, rfl, rfl⟩ rfl rfl rfl rfl rfl (by kernel_rfl) Try.func5 (by kernel_rfl)
    (of_decide_eq_true (by kernel_rfl)) (by unfold Func.isWrapper; first | (rw [if_pos (by decide +kernel)]; kernel_rfl) | (rw [if_neg (by decide +kernel)]; exact ⟨rfl, rfl⟩))
    (fun os started H enc _ => lifted os started H enc)

theorem specBack_holds : Rows.SpecBackSaid := over
#print axioms specBack_holds
end Go.Proofs.Ytoocbodkjldlcaa.back
