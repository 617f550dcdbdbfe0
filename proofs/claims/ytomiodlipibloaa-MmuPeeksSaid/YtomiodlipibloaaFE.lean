/- Rows of bytes that a call makes, slices of bytes that are read; copy. -/
import Derived.Test.YtomiodlipibloaaFD
import Derived.Laws.CopyOwn
namespace Go.Proofs.Ytomiodlipibloaa.F
set_option linter.unusedVariables false
set_option linter.unusedSimpArgs false
set_option maxHeartbeats 1000000
open Go.RowKit
/-- A slice of bytes reads as 'l'. -/
def RdB (w : World) (ao : Option Addr) (l : List Int) : Prop := ∀ i, i < l.length → ∃ b o, ao = some ⟨b, o, none⟩ ∧ b < w.heap.size ∧ w.cell? ⟨b, o + i, none⟩ = some (.int .u8 (l.getD i 0))
theorem RdB.updS {w w' : World} {ao : Option Addr} {l : List Int} (h : RdB w ao l) {S : Nat → Prop} (hu : Upd S w w') (hs : ∀ b o, ao = some ⟨b, o, none⟩ → ¬ S b) : RdB w' ao l := fun i hi => by
  obtain ⟨b, o, e, hb, hc⟩ := h i hi
  refine ⟨b, o, e, Nat.lt_of_lt_of_le hb hu.size, ?_⟩
  rw [← hc]
  exact World.cell?_of_block (hu.block b hb (hs b o e))
theorem RdB.upd {w w' : World} {ao : Option Addr} {l : List Int} (h : RdB w ao l) (hu : Upd (fun _ => False) w w') : RdB w' ao l := h.updS hu (fun _ _ _ => id)
section
variable {P : Program} {ops : Array Oper} {rest : List Oper} {o : Oper} {a : Act} {Q : Exit → Act → World → Prop}
/-- A row of bytes of a call's own. -/
def OwnB (w : World) (b : Nat) (v : Value) (l : List Int) : Prop := w.ownsRow b 5 1 v l.length (bc l)
theorem OwnB.slice {w : World} {b : Nat} {v : Value} {l : List Int} (h : OwnB w b v l) : ∃ ao c, v = .slice ao l.length c ∧ l.length ≤ c ∧ RdB w ao l ∧ (∀ k, OB v k → b ≤ k ∧ k < w.heap.size) := by
  obtain ⟨h1, h | ⟨g, cap, cur, rfl, hb, hg, hn, hc, hs, ht⟩⟩ := h
  · obtain ⟨rfl, h0⟩ := h
    have : l = [] := List.length_eq_zero_iff.1 h0
    subst this
    exact ⟨none, 0, rfl, Nat.le_refl _, fun i hi => by simp at hi, fun k hk => by cases hk⟩
  · have hlt : g < w.heap.size := (Array.getElem?_eq_some_iff.1 hg).1
    refine ⟨_, cap, rfl, hn, fun i hi => ⟨g, 0, rfl, hlt, ?_⟩, fun k hk => by cases hk; exact ⟨hb, hlt⟩⟩
    have hi' : i < cur.size := by omega
    have h3 : cur.toList[i]? = (bc l)[i]? := by rw [← ht, List.getElem?_take_of_lt (by omega)]
    simp only [World.cell?, hg]
    simp only [Nat.zero_add]
    rw [← Array.getElem?_toList, h3]
    simp [bc, List.getD, hi]
theorem OwnB.upd {w w' : World} {b : Nat} {v : Value} {l : List Int} (h : OwnB w b v l) {S : Nat → Prop} (hu : Upd S w w') (hs : ∀ k, OB v k → ¬ S k) : OwnB w' b v l := own_upd h hu hs
theorem OwnB.drew {w : World} {b : Nat} {v : Value} {l : List Int} (h : OwnB w b v l) : OwnB w.drew b v l := h
theorem info5 : (Try.prog.info? 5).map (fun i => (i.zero, i.size, i.bytes)) = some (some (.int .u8 0), 1, 1) := by kernel_rfl
theorem wpList_appB {w : World} (hgd : o.guard = none) (s x : Operand)
    (ho : o.op = .call { callee := .builtin .append, args := #[s, x], argTypes := #[22, 22] })
    (v : Value) (b : Nat) (l ys : List Int) (sao : Option Addr) (c : Nat) (hs : a.eval s = v) (hx : a.eval x = .slice sao ys.length c) (hn : sao = none → c = 0)
    (hy : RdB w sao ys) (HO : OwnB w b v l) (hb : b ≤ w.heap.size) (hl : l.length + ys.length ≤ 100000)
    (h : ∀ v' w1, OwnB w1 b v' (l ++ ys) → Upd (OB v) w w1 → (∀ k, OB v' k → OB v k ∨ w.heap.size ≤ k) → wpList Try.prog ops Q rest (a.put o.dst v') w1) :
    wpList Try.prog ops Q (o :: rest) a w := by
  obtain ⟨i0, hi, hzz⟩ := Option.map_eq_some_iff.1 info5
  simp only [Prod.mk.injEq] at hzz
  obtain ⟨hz0, hz1, hz2⟩ := hzz
  cases sao with
  | none =>
    have hy0 : ys = [] := by
      rcases ys with _ | ⟨y, t⟩
      · rfl
      · obtain ⟨_, _, e, _⟩ := hy 0 (by simp)
        cases e
    subst hy0
    rw [hn rfl] at hx
    refine wpList_append_own_none hgd s x 22 ho b 5 i0 1 Try.underlying22 hi v l.length _ hs HO hx (h v w ?_ (Upd.refl _ w) (fun k hk => .inl hk))
    rw [List.append_nil]; exact HO
  | some ad =>
    refine wpList_append_own_at w hgd s x 22 ho b 5 i0 (.int .u8 0) 1 1 Try.underlying22 hi hz0 hz1 hz2 rfl (by decide) v l.length _ hs HO ad ys.length c (bc ys) hx (by simp [bc]) ?_ ?_
      (by simp only [maxLen]; omega) (by omega) hb ?_
    · intro j u hj
      have hjl : j < ys.length := by
        rcases Nat.lt_or_ge j ys.length with h' | h'
        · exact h'
        · simp [bc, h'] at hj
      obtain ⟨b', o', e, _, hc⟩ := hy j hjl
      cases e
      simp only [Addr.add, Option.isSome_none]
      simp [bc, hjl] at hj
      rw [← hj]
      have hc' : w.cell? ⟨b', o' + j, none⟩ = some (Value.int IntKind.u8 ys[j]) := by simpa [List.getD, hjl] using hc
      split
      · rename_i h0
        subst h0
        exact hc'
      · exact hc'
    · intro u hu
      simp only [bc, List.mem_map] at hu
      obtain ⟨_, _, rfl⟩ := hu
      rfl
    · intro v' w1 hown hg hnil hat
      refine h v' w1 ?_ ((Upd.refl (OB v) w).grown hg (fun k hk => .inl hk)) ?_
      · unfold OwnB
        rw [List.length_append]
        simpa [bc] using hown
      · intro k hk
        rcases hat with hat | hat
        · left; rw [OB, ← hat]; exact hk
        · right; rw [OB, hat] at hk; cases hk; exact Nat.le_refl _
end

theorem OwnB.of_blk {w : World} {b g : Nat} {l : List Int} (h : Blk w g (bc l).toArray 5) (hb : b ≤ g) (hl : l.length ≤ 1000) : OwnB w b (.slice (some ⟨g, 0, none⟩) l.length l.length) l :=
  ⟨by simp [bc], .inr ⟨g, l.length, _, rfl, hb, h, Nat.le_refl _, by simp only [maxLen]; omega, by simp [bc], by
    rw [Nat.mul_one, show l.length = (bc l).length by simp [bc]]; exact List.take_length⟩⟩
theorem OwnB.none (w : World) (b : Nat) : OwnB w b (.slice .none 0 0) [] := ⟨rfl, .inl ⟨rfl, rfl⟩⟩
theorem OwnB.low {w : World} {b b' : Nat} {v : Value} {l : List Int} (h : OwnB w b' v l) (hb : b ≤ b') : OwnB w b v l := by
  obtain ⟨h1, h | ⟨g, cap, cur, h2, h3, r⟩⟩ := h
  · exact ⟨h1, .inl h⟩
  · exact ⟨h1, .inr ⟨g, cap, cur, h2, Nat.le_trans hb h3, r⟩⟩
theorem OwnB.nonil {w : World} {b : Nat} {xa : Option Addr} {xn xc : Nat} {l : List Int} (h : OwnB w b (.slice xa xn xc) l) : xa = .none → xc = 0 := by
  rintro rfl
  obtain ⟨_, h | ⟨g, cap, cur, h2, r⟩⟩ := h
  · cases h.1; rfl
  · cases h2
/-- A call as one step of a region that draws its order. -/
theorem step_call {P : Program} {ops : Array Oper} {o : Oper} {a : Act} {w : World} {K : Act → World → Prop} {Q : Exit → Act → World → Prop} {E : Prop} (hg : o.guard = .none) (f : FuncId) (args : Array Value)
    (hrun : (execOp a.eval o).run P w = .ok (.enter f args) w) {R : Value → World → Prop} (hc : Calls P f args w (fun e w' => ∃ v, e = .returned v ∧ R v w')) (hK : ∀ v w', R v w' → K (a.put o.dst v) w') :
    if Region.wanted o (yielded ops a.tmps) = true then Oper.wp P o a w K Q else E := by
  have hw : Region.wanted o (yielded ops a.tmps) = true := by simp [Region.wanted, hg]
  rw [if_pos hw]
  unfold Oper.wp
  rw [hrun]
  simp only [Oper.upon]
  exact hc.mono fun e w' ⟨v, he, hr⟩ => by subst he; exact hK v w' hr

theorem run_appB {w : World} (ty : TypeId) (v : Value) (b : Nat) (l ys : List Int) (sao : Option Addr) (c : Nat) (hn : sao = .none → c = 0)
    (hy : RdB w sao ys) (HO : OwnB w b v l) (hb : b ≤ w.heap.size) (hl : l.length + ys.length ≤ 100000) :
    ∃ v' w1, (Builtin.append_ #[22, 22] ty #[v, .slice sao ys.length c]).run Try.prog w = .ok v' w1 ∧ OwnB w1 b v' (l ++ ys) ∧ Upd (OB v) w w1 ∧ (∀ k, OB v' k → OB v k ∨ w.heap.size ≤ k) := by
  obtain ⟨i0, hi, hzz⟩ := Option.map_eq_some_iff.1 info5
  simp only [Prod.mk.injEq] at hzz
  obtain ⟨hz0, hz1, hz2⟩ := hzz
  cases sao with
  | none =>
    have hy0 : ys = [] := by
      rcases ys with _ | ⟨y, t⟩
      · rfl
      · obtain ⟨_, _, e, _⟩ := hy 0 (by simp)
        cases e
    subst hy0
    rw [hn rfl]
    refine ⟨v, w, run_append_owned_none (P := Try.prog) w b 22 ty 5 i0 1 Try.underlying22 hi v l.length _ HO, ?_, Upd.refl _ w, fun k hk => .inl hk⟩
    rw [List.append_nil]; exact HO
  | some ad =>
    obtain ⟨v', w1, h1, hown, hg, hnil, hat⟩ := run_append_own_at (P := Try.prog) w b 22 ty 5 i0 (.int .u8 0) 1 1 Try.underlying22 hi hz0 hz1 hz2 rfl (by decide) v l.length _ HO ad ys.length c (bc ys) (by simp [bc]) (by
        intro j u hj
        have hjl : j < ys.length := by
          rcases Nat.lt_or_ge j ys.length with h' | h'
          · exact h'
          · simp [bc, h'] at hj
        obtain ⟨b', o', e, _, hc⟩ := hy j hjl
        cases e
        simp only [Addr.add, Option.isSome_none]
        simp [bc, hjl] at hj
        rw [← hj]
        have hc' : w.cell? ⟨b', o' + j, .none⟩ = some (Value.int IntKind.u8 ys[j]) := by simpa [List.getD, hjl] using hc
        split
        · rename_i h0
          subst h0
          exact hc'
        · exact hc') (by
        intro u hu
        simp only [bc, List.mem_map] at hu
        obtain ⟨_, _, rfl⟩ := hu
        rfl) (by simp only [maxLen]; omega) (by omega) hb
    refine ⟨v', w1, h1, ?_, (Upd.refl (OB v) w).grown hg (fun k hk => .inl hk), ?_⟩
    · unfold OwnB
      rw [List.length_append]
      simpa [bc] using hown
    · intro k hk
      rcases hat with hat | hat
      · left; rw [OB, ← hat]; exact hk
      · right; rw [OB, hat] at hk; cases hk; exact Nat.le_refl _
theorem step_appB {ops : Array Oper} {o : Oper} {a : Act} {w : World} {K : Act → World → Prop} {Q : Exit → Act → World → Prop} {E : Prop} (hg : o.guard = .none) (s x : Operand)
    (ho : o.op = .call { callee := .builtin .append, args := #[s, x], argTypes := #[22, 22] })
    (v : Value) (b : Nat) (l ys : List Int) (sao : Option Addr) (c : Nat) (hs : a.eval s = v) (hx : a.eval x = .slice sao ys.length c) (hn : sao = .none → c = 0)
    (hy : RdB w sao ys) (HO : OwnB w b v l) (hb : b ≤ w.heap.size) (hl : l.length + ys.length ≤ 100000)
    (h : ∀ v' w1, OwnB w1 b v' (l ++ ys) → Upd (OB v) w w1 → (∀ k, OB v' k → OB v k ∨ w.heap.size ≤ k) → K (a.put o.dst v') w1) :
    if Region.wanted o (yielded ops a.tmps) = true then Oper.wp Try.prog o a w K Q else E := by
  have hw : Region.wanted o (yielded ops a.tmps) = true := by simp [Region.wanted, hg]
  rw [if_pos hw]
  obtain ⟨v', w1, hr, h2, h3, h4⟩ := run_appB o.type v b l ys sao c hn hy HO hb hl
  unfold Oper.wp execOp
  simp only [ho, resolve, invoke, builtin, Sem.run_bind, Sem.run_pure, Result.andThen_ok, List.map_toArray, List.map_cons, List.map_nil, hs, hx, hr]
  exact h v' w1 h2 h3 h4


theorem wrt_splice : ∀ (b l : List Int) (a : Nat), a + b.length ≤ l.length → wrt l a b = l.take a ++ (b ++ l.drop (a + b.length))
  | [], l, a, _ => by simp [wrt]
  | x :: b, l, a, h => by
    simp only [List.length_cons] at h
    rw [wrt, wrt_splice b _ _ (by rw [List.length_set]; omega)]
    rw [List.drop_set_of_lt (by omega), List.take_succ_eq_append_getElem (by rw [List.length_set]; omega), List.getElem_set_self, List.take_set_of_le (Nat.le_refl _)]
    simp only [List.append_assoc, List.cons_append, List.nil_append, List.length_cons]
    rw [show a + 1 + b.length = a + (b.length + 1) by omega]
section
variable {P : Program} {ops : Array Oper} {rest : List Oper} {o : Oper} {a : Act} {Q : Exit → Act → World → Prop}
theorem wpList_copyU {w : World} (hgd : o.guard = none) (d s : Operand) (dT sT : TypeId)
    (ho : o.op = .call { callee := .builtin .copy, args := #[d, s], argTypes := #[dT, sT] }) (elem : TypeId) (hu : P.underlying dT = some (.slice elem)) (hsz : (P.info? elem).map (·.size) = some 1)
    (dp sp : Option Addr) (dLen dCap sLen sCap : Nat) (hd : a.eval d = .slice dp dLen dCap) (hs : a.eval s = .slice sp sLen sCap)
    (g off : Nat) (cur : List Value) (t : TypeId) (hg : Blk w g cur.toArray t) (cs : List Value) (hn : cs.length = Nat.min sLen dLen)
    (hpos : 0 < cs.length → dp = some ⟨g, off, none⟩ ∧ ∃ ad, sp = some ad ∧ ∀ j v, cs[j]? = some v → w.cell? (ad.add j) = some v)
    (hfit : off + cs.length ≤ cur.length) (h1 : ∀ v ∈ cs, v.oneCell' = true)
    (h : ∀ w', Blk w' g (splice cur off cs).toArray t → Upd (fun k => k = g) w w' → wpList P ops Q rest (a.put o.dst (goInt cs.length)) w') :
    wpList P ops Q (o :: rest) a w := by
  by_cases h0 : cs.length = 0
  · obtain rfl : cs = [] := List.eq_nil_of_length_eq_zero h0
    refine wpList_copy_nothing hgd d s dT sT ho elem hu hsz dp sp dLen dCap sLen sCap hd hs (by simpa using hn.symm) ?_
    exact h w (by rw [show splice cur off [] = cur by simp [splice]]; exact hg) (Upd.refl _ _)
  · obtain ⟨rfl, ad, rfl, hsrc⟩ := hpos (by omega)
    refine wpList_copy_own hgd d s dT sT ho elem hu hsz g off dLen dCap ad sLen sCap hd hs cur.toArray t hg cs hn hsrc (by simpa using hfit) h1 ?_
    exact h _ (show _ = _ by simpa [splice] using setRow_heap w g _ _ t _ hg) ⟨rfl, rfl, rfl, by simp [World.setRow], fun k hk hn => setRow_other w g k _ (fun e => hn (by omega))⟩
end
end Go.Proofs.Ytomiodlipibloaa.F
