/- The buffer of translations: an entry taken out. -/
import Derived.Test.YtomiodlipibloaaFG
namespace Go.Proofs.Ytomiodlipibloaa.F
set_option linter.unusedVariables false
set_option linter.unusedSimpArgs false
set_option maxHeartbeats 1000000
set_option maxRecDepth 20000
open Go.RowKit
theorem own_set {w : World} {b : Nat} {e : TypeId} {size n c g : Nat} {xs : List Value} (h : w.ownsRow b e size (.slice (some ⟨g, 0, none⟩) n c) n xs) (j : Nat) (u : Value) :
    (w.setCell ⟨g, j, none⟩ u).ownsRow b e size (.slice (some ⟨g, 0, none⟩) n c) n (xs.set j u) := by
  refine ⟨by rw [List.length_set]; exact h.1, ?_⟩
  rcases h.2 with ⟨h', _⟩ | ⟨g', cap, cur, hv, hg, hh, hnc, hcm, hcs, ht⟩
  · cases h'
  · cases hv
    refine .inr ⟨g, c, cur.setIfInBounds j u, rfl, hg, (show Blk w g cur e from hh).set j u, hnc, hcm, by simp [hcs], ?_⟩
    rw [← ht]
    simp [List.take_set]
theorem own_some' {w : World} {b : Nat} {e : TypeId} {size n c g : Nat} {xs : List Value} (h : w.ownsRow b e size (.slice (some ⟨g, 0, none⟩) n c) n xs) : ∃ cur : Array Value, Blk w g cur e ∧ cur.size = c * size ∧ n ≤ c ∧ c ≤ 9223372036854775807 := by
  rcases h.2 with ⟨h', _⟩ | ⟨g', cap, cur, hv, hg, hh, hnc, hcm, hcs, ht⟩
  · cases h'
  · cases hv
    exact ⟨cur, hh, hcs, hnc, by unfold maxLen at hcm; omega⟩
theorem sc_take : ∀ (s : Ents) (i : Nat), (sc s).take (i * 2) = sc (s.take i)
  | [], i => by simp [sc]
  | p :: s, 0 => by simp [sc]
  | p :: s, i + 1 => by
    rw [show (i + 1) * 2 = i * 2 + 1 + 1 by omega, sc, List.take_succ_cons, List.take_succ_cons, sc_take s i, List.take_succ_cons, sc]
theorem sc_drop : ∀ (s : Ents) (i : Nat), (sc s).drop (i * 2) = sc (s.drop i)
  | [], i => by simp [sc]
  | p :: s, 0 => by simp [sc]
  | p :: s, i + 1 => by
    rw [show (i + 1) * 2 = i * 2 + 1 + 1 by omega, sc, List.drop_succ_cons, List.drop_succ_cons, sc_drop s i, List.drop_succ_cons]
theorem sc_erase (s : Ents) (i : Nat) : sc (s.eraseIdx i) = (sc s).take (i * 2) ++ (sc s).drop ((i + 1) * 2) := by
  rw [List.eraseIdx_eq_take_drop_succ, sc_app, sc_take, sc_drop]
theorem sc_one : ∀ (s : Ents), ∀ v ∈ sc s, v.oneCell' = true
  | [], v, h => by cases h
  | p :: s, v, h => by
    simp only [sc, List.mem_cons] at h
    rcases h with rfl | rfl | h
    · rfl
    · rfl
    · exact sc_one s v h
theorem info136 : (Try.prog.info? 136).map (fun i => (i.zero, i.size, i.bytes)) = some (some (.agg #[.int .u32 0, .int .u32 0]), 2, 8) := by kernel_rfl
theorem info136i : ∃ i, Try.prog.info? 136 = some i ∧ i.zero = some (.agg #[.int .u32 0, .int .u32 0]) ∧ i.size = 2 ∧ i.bytes = 8 := by
  obtain ⟨i0, hi, hzz⟩ := Option.map_eq_some_iff.1 info136
  simp only [Prod.mk.injEq] at hzz
  exact ⟨i0, hi, hzz.1, hzz.2.1, hzz.2.2⟩
/-- An append that fits, as one step of a region. -/
theorem step_fits {ops : Array Oper} {o : Oper} {a : Act} {w : World} {K : Act → World → Prop} {Q : Exit → Act → World → Prop} {E : Prop} (hg : o.guard = none) (s x : Operand) (t e : TypeId) (i : TypeInfo) (size : Nat)
    (ho : o.op = .call { callee := .builtin .append, args := #[s, x], argTypes := #[t, t] }) (ht : Try.prog.underlying t = some (.slice e)) (hi : Try.prog.info? e = some i) (hsize : i.size = size)
    (g n cap : Nat) (xs : List Value) (ad : Addr) (m c : Nat) (news : List Value) (hs : a.eval s = .slice (some ⟨g, 0, none⟩) n cap) (hx : a.eval x = .slice (some ad) m c)
    (hown : w.ownsRow 0 e size (.slice (some ⟨g, 0, none⟩) n cap) n xs) (hl : news.length = m * size) (hnews : ∀ j u, news[j]? = some u → w.cell? (ad.add j) = some u) (h1 : ∀ u ∈ news, u.oneCell' = true) (hroom : n + m ≤ cap) (k : Nat) (hk : n + m = k)
    (h : ∀ w1, w1.ownsRow 0 e size (.slice (some ⟨g, 0, none⟩) k cap) k (xs ++ news) → Upd (fun k => k = g) w w1 → K (a.put o.dst (.slice (some ⟨g, 0, none⟩) k cap)) w1) :
    if Region.wanted o (yielded ops a.tmps) = true then Oper.wp Try.prog o a w K Q else E := by
  subst hk
  have hw : Region.wanted o (yielded ops a.tmps) = true := by simp [Region.wanted, hg]
  rw [if_pos hw]
  obtain ⟨w1, hr, h2, h3⟩ := run_append_fits (P := Try.prog) w 0 t o.type e i size ht hi hsize g n cap xs hown ad m c news hl hnews h1 hroom
  unfold Oper.wp execOp
  simp only [ho, resolve, invoke, builtin, Sem.run_bind, Sem.run_pure, Result.andThen_ok, List.map_toArray, List.map_cons, List.map_nil, hs, hx, hr]
  exact h w1 h2 ((Upd.refl (fun k => k = g) w).grown h3 (fun k hk => .inl (by cases hk; rfl)))
theorem zero136 (w : World) : (zeroValue 136).run Try.prog w = .ok (.agg #[.int .u32 0, .int .u32 0]) w := by kernel_rfl
theorem clear_one (W : World) (g o q : Nat) (ty : TypeId) (hc : ∀ j, j < 2 → (W.cell? ⟨g, o + j, none⟩).isSome = true) (hf : ∀ j, j < 2 → W.frozen? ⟨g, o + j, none⟩ = false) :
    (Builtin.clear_ #[130] ty #[.slice (some ⟨g, o, none⟩) 1 q]).run Try.prog W = .ok (.tuple #[]) (W.setCells g o [.int .u32 0, .int .u32 0]) := by
  have hzc : (Builtin.zeroCells (Value.agg #[.int .u32 0, .int .u32 0]).cells 1).toList = [.int .u32 0, .int .u32 0] := by kernel_rfl
  have hst := run_storeCells_cells (P := Try.prog) g o [.int .u32 0, .int .u32 0] 0 W (by simpa using hc) (by simpa using hf) (by intro v hv; simp at hv; rw [hv]; rfl)
  simp only [Nat.add_zero] at hst
  simp [Builtin.clear_, run_underlying Try.underlying130, zero136, hzc, hst]
section
variable (g c : Nat) (s : Ents) (w : World)
theorem del_any (i N : Nat) (hN : s.length = N + 1) (hi : i ≤ N) (hs8 : N < 8) (hO : w.ownsRow 0 136 2 (.slice (some ⟨g, 0, none⟩) (N + 1) c) (N + 1) (sc s)) :
    Calls Try.prog 79 #[.slice (some ⟨g, 0, none⟩) (N + 1) c, .int .i64 i, .int .i64 ((i : Int) + 1)] w fun e w' => e = .returned (.slice (some ⟨g, 0, none⟩) N c) ∧ w'.ownsRow 0 136 2 (.slice (some ⟨g, 0, none⟩) N c) N (sc (s.eraseIdx i)) ∧ Upd (fun k => k = g) w w' := by
  obtain ⟨cur, hB, hcs, hnc, hcm⟩ := own_some' hO
  have hil : (i : Int) ≤ N := by omega
  have h8 : (N : Int) < 8 := by omega
  have hlc : (N : Int) + 1 ≤ c := by omega
  have hcm' : (c : Int) ≤ 9223372036854775807 := by omega
  have HO := Lib.hid hO
  have HB := Lib.hid hB
  have HN : Hid (c ≤ 9223372036854775807 ∧ N + 1 ≤ c ∧ N < 8 ∧ i ≤ N ∧ s.length = N + 1) := Lib.hid ⟨hcm, hnc, hs8, hi, hN⟩
  clear hO hB hcm hs8 hcs hN
  obtain ⟨I, hI, hIz, hIs, hIb⟩ := info136i
  have HT : Hid (w.ownsRow 0 136 2 (.slice (some ⟨g, 0, none⟩) i c) i (sc (s.take i))) := Lib.hid (by
    have := own_take HO.out i (by have := HN.out; omega)
    rwa [sc_take] at this)
  have HL : Hid ((sc (s.drop (i + 1))).length = (N - i) * 2) := Lib.hid (by rw [sc_len, List.length_drop]; have := HN.out; omega)
  have HR : Hid (i + (N - i) ≤ c) := Lib.hid (by have := HN.out; omega)
  have HK : Hid (i + (N - i) = N) := Lib.hid (by have := HN.out; omega)
  have HNW : Hid (∀ (a : Nat), (a = (i + 1) * 2 ∨ N = i) → ∀ j u, (sc (s.drop (i + 1)))[j]? = some u → w.cell? ((⟨g, a, none⟩ : Addr).add j) = some u) := Lib.hid (by
    intro a ha j u hj
    have hjl : j < (sc (s.drop (i + 1))).length := (List.getElem?_eq_some_iff.1 hj).1
    have := HN.out
    rw [HL.out] at hjl
    obtain rfl : a = (i + 1) * 2 := by omega
    rw [show (⟨g, (i + 1) * 2, none⟩ : Addr).add j = ⟨g, (i + 1) * 2 + j, none⟩ by unfold Addr.add; split <;> simp_all]
    rw [own_cell HO.out ((i + 1) * 2 + j) (by omega), ← hj, ← sc_drop, List.getElem?_drop])
  have HE : Hid (∀ w1 : World, w1.ownsRow 0 136 2 (.slice (some ⟨g, 0, none⟩) N c) N (sc (s.take i) ++ sc (s.drop (i + 1))) → Upd (fun k => k = g) w.drew w1 →
      (∀ q ty, (Builtin.clear_ #[130] ty #[.slice (some ⟨g, N * 2, none⟩) 1 q]).run Try.prog w1 = .ok (.tuple #[]) (w1.setCells g (N * 2) [.int .u32 0, .int .u32 0])) ∧
      (w1.setCells g (N * 2) [.int .u32 0, .int .u32 0]).ownsRow 0 136 2 (.slice (some ⟨g, 0, none⟩) N c) N (sc (s.eraseIdx i)) ∧ Upd (fun k => k = g) w (w1.setCells g (N * 2) [.int .u32 0, .int .u32 0])) := Lib.hid (by
    intro w1 ho hu
    have hu : Upd (fun k => k = g) w w1 := ⟨hu.os, hu.tape, hu.output, hu.size, hu.block⟩
    obtain ⟨cur, hB1, hcs1, _, _⟩ := own_some' ho
    have hn := HN.out
    refine ⟨fun q ty => clear_one w1 g (N * 2) q ty (fun j hj => (hB1.there (N * 2) 2 (by omega) j hj).1) (fun j hj => (hB1.there (N * 2) 2 (by omega) j hj).2), ?_, Upd.setCells (g := g) (S := fun k => k = g) (.inl rfl) _ _ _ hu⟩
    have hlen : (sc (s.take i) ++ sc (s.drop (i + 1))).length = N * 2 := ho.1
    have h1 := own_set (own_set ho (N * 2) (.int .u32 0)) (N * 2 + 1) (.int .u32 0)
    rw [List.set_eq_of_length_le (by rw [List.length_set]; omega), List.set_eq_of_length_le (by omega)] at h1
    rw [List.eraseIdx_eq_take_drop_succ, sc_app]
    exact h1)
  have HI := Lib.hid hI
  have HIS := Lib.hid hIs
  clear hI hIz hIs hIb
  by_cases hic : i + 1 < c
  · have hic' : (i : Int) + 1 < c := by omega
    have q1 : i ≤ c := by omega
    have q4 : (i : Int) ≤ c := by omega
    have q5 : (0 : Int) ≤ i := by omega
    have q7 : (0 : Int) ≤ (i : Int) + 1 := by omega
    have q8 : ¬ c = i + 1 := by omega
    have q9 : i ≤ N := hi
    go_enter Try.func79, Try.ntmps79
    go_wp2_with fail
    go_region_held3 (fun w' => True) (trivial)
      (first
        | (refine step_fits rfl (.tmp 22) (.tmp 25) 130 136 I 2 rfl Try.underlying130 HI.out HIS.out g i c (sc (s.take i)) ⟨g, (i + 1) * 2, none⟩ (N - i) (c - (i + 1)) (sc (s.drop (i + 1))) rfl rfl HT.out HL.out (HNW.out _ (.inl rfl)) (sc_one _) HR.out N HK.out ?_
           intro w1 own1 up1
           obtain ⟨kc, h1, h2⟩ := HE.out w1 own1 up1
           have HO1 := Lib.hid h1
           have HU1 := Lib.hid h2
           clear own1 up1 h1 h2))
    go_wp2
    exact bodyPost_ret (v := .slice (some ⟨g, 0, none⟩) N c) (by simp [results, Try.results79, go_sem]) rfl ⟨rfl, HO1.out, HU1.out⟩
  · obtain rfl : N = i := by omega
    obtain rfl : c = N + 1 := by omega
    clear hlc hil hnc hi hic hcm'
    have HL2 : Hid ((sc (s.drop (N + 1))).length = 0 * 2) := Lib.hid (by rw [HL.out]; omega)
    have HR2 : Hid (N + 0 ≤ N + 1) := Lib.hid (by omega)
    have HK2 : Hid (N + 0 = N) := Lib.hid (by omega)
    have q4 : (N : Int) ≤ (N : Int) + 1 := by omega
    have q5 : (0 : Int) ≤ N := by omega
    have q7 : (0 : Int) ≤ (N : Int) + 1 := by omega
    go_enter Try.func79, Try.ntmps79
    go_wp2_with fail
    go_region_held3 (fun w' => True) (trivial)
      (first
        | (refine step_fits rfl (.tmp 22) (.tmp 25) 130 136 I 2 rfl Try.underlying130 HI.out HIS.out g N (N + 1) (sc (s.take N)) ⟨g, 0, none⟩ 0 0 (sc (s.drop (N + 1))) rfl rfl HT.out HL2.out (HNW.out _ (by simp)) (sc_one _) HR2.out N HK2.out ?_
           intro w1 own1 up1
           obtain ⟨kc, h1, h2⟩ := HE.out w1 own1 up1
           have HO1 := Lib.hid h1
           have HU1 := Lib.hid h2
           clear own1 up1 h1 h2))
    go_wp2
    exact bodyPost_ret (v := .slice (some ⟨g, 0, none⟩) N (N + 1)) (by simp [results, Try.results79, go_sem]) rfl ⟨rfl, HO1.out, HU1.out⟩
end
end Go.Proofs.Ytomiodlipibloaa.F
