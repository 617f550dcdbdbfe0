/- What comes in: numbers, bits, tables, bytes. -/
import Derived.Test.YtomiodlipibloaaFT
import Derived.Test.YtomiodlipibloaaRows
import Derived.ProofKit
import Derived.OpenShut
namespace Go.Proofs.Ytomiodlipibloaa
set_option linter.unusedVariables false
set_option linter.unusedSimpArgs false
set_option maxRecDepth 100000
open Go.RowKit Go.ChangeShapes Go.WideShapes Go.ChangeAt F

/-- A struct's cells, by the cells' types. -/
theorem open_cells {P : Program} {w : World} {base : Nat} {t : TypeId} {v : Value} {fs : Array Field} {ts : List TypeId} (hs : P.underlying t = some (.struct fs)) (hts : P.cellTypes P.depth t = some ts) (hn : P.cellsOf t = ts.length)
    (h : Value.okWide P w .any base t v) : ∃ cs : List Value, v = .agg cs.toArray ∧ cs.length = ts.length ∧ ∀ (i : Nat) c, cs[i]? = some c → ∃ u, ts[i]? = some u ∧ Cell.okWide P w .any base u c := by
  unfold Value.okWide at h
  rw [hs] at h
  obtain ⟨cs, rfl, hsz, ts', ht', _, hall⟩ := h
  obtain rfl : ts = ts' := Option.some.inj (hts.symm.trans ht')
  refine ⟨cs.toList, by simp, by simp [hsz, hn], fun i c hc => ?_⟩
  have hi : i < ts.length := by
    have := (List.getElem?_eq_some_iff.1 hc).1
    simp [hsz, hn] at this; exact this
  obtain ⟨u, hu, ho⟩ := hall i c (by simpa using hc)
  rw [Nat.mod_eq_of_lt hi] at hu
  exact ⟨u, hu, ho⟩
theorem cell_int {P : Program} {w : World} {base : Nat} {u : TypeId} {k : IntKind} {c : Value} (hu : P.underlying u = some (.int k)) (h : Cell.okWide P w .any base u c) : ∃ n, c = .int k n ∧ k.has n := by
  unfold Cell.okWide at h
  rw [hu] at h
  unfold Cell.ok at h
  rw [hu] at h
  cases c <;> simp at h
  obtain ⟨rfl, h⟩ := h
  exact ⟨_, rfl, h⟩

theorem u32_has {x : Int} (h : IntKind.u32.has x) : 0 ≤ x ∧ x < 4294967296 := by
  obtain ⟨h1, h2⟩ := h
  simp [IntKind.min, IntKind.max, IntKind.signed, IntKind.bits] at h1 h2
  omega
theorem u8_has {x : Int} (h : IntKind.u8.has x) : 0 ≤ x ∧ x < 256 := by
  obtain ⟨h1, h2⟩ := h
  simp [IntKind.min, IntKind.max, IntKind.signed, IntKind.bits] at h1 h2
  omega
theorem i64_has {x : Int} (h : IntKind.i64.has x) : -9223372036854775808 ≤ x ∧ x < 9223372036854775808 := by
  obtain ⟨h1, h2⟩ := h
  simp [IntKind.min, IntKind.max, IntKind.signed, IntKind.bits] at h1 h2
  omega
theorem open_int {P : Program} {w : World} {base : Nat} {t : TypeId} {k : IntKind} {v : Value} (ht : P.underlying t = some (.int k)) (h : Value.okWide P w .any base t v) : ∃ n, v = .int k n ∧ k.has n := by
  simp only [Value.okWide, ht] at h
  exact cell_int ht h
theorem types25 : Try.prog.cellTypes Try.prog.depth 25 = some [23, 23, 23, 23, 23] := by kernel_rfl
theorem cells25 : Try.prog.cellsOf 25 = 5 := by kernel_rfl
theorem open_tab {w : World} {base : Nat} {v : Value} (h : Value.okWide Try.prog w .any base 25 v) : ∃ T : Tab, v = .agg T.cells ∧ T.Fit := by
  obtain ⟨cs, rfl, hl, hc⟩ := open_cells Try.underlying25 types25 cells25 h
  match cs, hl with
  | [c0, c1, c2, c3, c4], _ =>
    obtain ⟨u0, e0, o0⟩ := hc 0 c0 rfl
    obtain rfl : 23 = u0 := Option.some.inj e0
    obtain ⟨n0, rfl, h0⟩ := cell_int Try.underlying23 o0
    obtain ⟨u1, e1, o1⟩ := hc 1 c1 rfl
    obtain rfl : 23 = u1 := Option.some.inj e1
    obtain ⟨n1, rfl, h1⟩ := cell_int Try.underlying23 o1
    obtain ⟨u2, e2, o2⟩ := hc 2 c2 rfl
    obtain rfl : 23 = u2 := Option.some.inj e2
    obtain ⟨n2, rfl, h2⟩ := cell_int Try.underlying23 o2
    obtain ⟨u3, e3, o3⟩ := hc 3 c3 rfl
    obtain rfl : 23 = u3 := Option.some.inj e3
    obtain ⟨n3, rfl, h3⟩ := cell_int Try.underlying23 o3
    obtain ⟨u4, e4, o4⟩ := hc 4 c4 rfl
    obtain rfl : 23 = u4 := Option.some.inj e4
    obtain ⟨n4, rfl, h4⟩ := cell_int Try.underlying23 o4
    exact ⟨⟨n0, n1, n2, n3, n4⟩, rfl, ⟨u32_has h0, u32_has h1, u32_has h2, u32_has h3, u32_has h4⟩⟩
/-- A slice of bytes that came in. -/
theorem open_bts {H : Type} {enc : TypeId × Value → H} {W : World} {v : Value} {dd : DataW H} {p : List MemPlace} {base : Nat} (hv : Value.okWide Try.prog W .any base 22 v)
    (h : DataW.Trod enc Try.prog W 0 (fun _ => true) true 22 v dd p) : ∃ ao xs c, v = .slice ao xs.length c ∧ RdB W ao xs ∧ Byt xs ∧ xs.length ≤ c ∧ (ao = none → c = 0) := by
  obtain ⟨ao, n, c, rfl⟩ := okWide_slice Try.underlying22 hv
  obtain ⟨fuel, hf⟩ := h
  rcases open_ints Try.underlying22 Try.underlying5 (by kernel_rfl) hf with ⟨hcs, _⟩ | ⟨x, l, c', zs, hcs, _, hl, hm, hz, _, hcell, hwz⟩
  · simp [Value.cells] at hcs
    obtain ⟨rfl, rfl, rfl⟩ := hcs
    exact ⟨none, [], 0, rfl, fun i hi => by simp at hi, fun x hx => by simp at hx, by simp, fun _ => rfl⟩
  · simp [Value.cells] at hcs
    obtain ⟨rfl, rfl, rfl⟩ := hcs
    have hz' : zs.length = c := by simpa using hz
    refine ⟨some x, zs.take n, c, by rw [List.length_take, Nat.min_eq_left (by omega)], fun i hi => ?_, fun y hy => ?_, by rw [List.length_take]; omega, fun h => by cases h⟩
    · rw [List.length_take, Nat.min_eq_left (by omega)] at hi
      obtain ⟨b, o, sp⟩ := x
      have h0 := hcell 0 (by omega)
      have hs : sp = none := by simpa [Addr.add] using World.cell?_spot h0
      subst hs
      have hi' := hcell i (by omega)
      have e : (⟨b, o, none⟩ : Addr).add i = ⟨b, o + i, none⟩ := by unfold Addr.add; split <;> simp_all
      rw [e] at hi'
      refine ⟨b, o, rfl, World.block_lt_of_cell? W ⟨b, o + i, none⟩ hi', ?_⟩
      rw [hi']
      simp [List.getD, List.getElem?_take_of_lt hi]
    · exact u8_has (by simpa [Lit.wf, IntKind.has] using hwz y (List.mem_of_mem_take hy))


end Go.Proofs.Ytomiodlipibloaa
