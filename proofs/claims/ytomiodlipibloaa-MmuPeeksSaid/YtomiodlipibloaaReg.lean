/- Regions that draw their order: one walk in the text's order serves every order, also where operations write; what is known of the world may hang on which operations are done. -/
import Derived.Test.YtomiodlipibloaaBase
namespace Go.Proofs.Ytomiodlipibloaa
set_option linter.unusedVariables false
set_option linter.unusedSimpArgs false
open Go.RowKit

section
variable {P : Program} {ops : Array Oper} {md : Region.Mode} {C : Array Bool → World → Prop}

/-- Which operations are done is closed under what they wait for. -/
def Shut (md : Region.Mode) (ops : Array Oper) (L : Array Bool) : Prop :=
  ∀ j oj, ops[j]? = some oj → L.getD j false = true → ∀ e ∈ oj.after, Region.binds md e = true → L.getD e.on false = true
/-- Operation 'i' may come up now. -/
structure Now (md : Region.Mode) (ops : Array Oper) (i : Nat) (L : Array Bool) : Prop where
  ready : i ∈ Region.ready md ops L
  shut : Shut md ops L

/-- In the world 'w' the operation yields 'v', and leaves a world of 'D'. -/
def Gives (P : Program) (D : World → Prop) (v : Value) : Result Next → Prop
  | .ok (.value u) w' => u = v ∧ D w'
  | .ok .skip w' => v = undef ∧ D w'
  | .ok (.enter f args) w' => Calls P f args w' (fun e w'' => e = .returned v ∧ D w'')
  | _ => False
def opGives (P : Program) (o : Oper) (a : Act) (w : World) (v : Value) (D : World → Prop) : Prop := Gives P D v ((execOp a.eval o).run P w)

/-- Whenever it comes up, operation 'i' yields 'v'. -/
def YL (P : Program) (md : Region.Mode) (ops : Array Oper) (C : Array Bool → World → Prop) (i : Nat) (o : Oper) (v : Value) (a : Act) : Prop :=
  (Region.wanted o (yielded ops a.tmps) = true ∧ ∀ L w, Now md ops i L → C L w → opGives P o a w v (C (L.setIfInBounds i true))) ∨
  (Region.wanted o (yielded ops a.tmps) = false ∧ v = undef ∧ ∀ L w, Now md ops i L → C L w → C (L.setIfInBounds i true) w)

theorem YL.same {i : Nat} {o : Oper} {v : Value} {a a' : Act} (hy : YL P md ops C i o v a) (he : execOp a'.eval o = execOp a.eval o)
    (hw : Region.wanted o (yielded ops a'.tmps) = Region.wanted o (yielded ops a.tmps)) : YL P md ops C i o v a' := by
  unfold YL opGives at *
  rw [he, hw]
  exact hy

def oneL (P : Program) (md : Region.Mode) (ops : Array Oper) (C : Array Bool → World → Prop) (i : Nat) (K : Act → Prop) (a : Act) : Prop :=
  ∃ o, ops[i]? = some o ∧ ∃ v, YL P md ops C i o v a ∧ K (a.put o.dst v)

/-- Whatever order is picked from here on. -/
def anyL (P : Program) (md : Region.Mode) (ops : Array Oper) (C : Array Bool → World → Prop) (Q : Array Bool → Act → Prop) : Nat → Array Bool → Act → Prop
  | 0, L, a => Region.ready md ops L = [] ∧ Q L a
  | n + 1, L, a => (Region.ready md ops L = [] → Q L a) ∧ ∀ i ∈ Region.ready md ops L, oneL P md ops C i (anyL P md ops C Q n (L.setIfInBounds i true)) a

theorem oneL_mono {i : Nat} {a : Act} {K K' : Act → Prop} (h : ∀ a, K a → K' a) (hh : oneL P md ops C i K a) : oneL P md ops C i K' a :=
  let ⟨o, ho, v, hy, hk⟩ := hh
  ⟨o, ho, v, hy, h _ hk⟩

theorem Shut.set {L : Array Bool} {i : Nat} (h : Now md ops i L) : Shut md ops (L.setIfInBounds i true) := by
  intro j oj hj hl e he hb
  obtain ⟨_, oi, hoi, hall⟩ := mem_ready.1 h.ready
  by_cases hij : i = j
  · subst hij
    obtain rfl : oj = oi := Option.some.inj (hj.symm.trans hoi)
    exact getD_set_true (hall e he hb)
  · rw [getD_set_ne false hij] at hl
    exact getD_set_true (h.shut j oj hj hl e he hb)

theorem wpAny_of_anyL {Q : Array Bool → Act → Prop} {Q' : Exit → Act → World → Prop} (hQ : ∀ L a w, C L w → Q L a → Q' .normal a w) : ∀ (n : Nat) (L : Array Bool) (a : Act) (w : World), Shut md ops L → C L w →
    anyL P md ops C Q n L a → wpAny P md ops Q' n L a w
  | 0, _, _, _, _, hw, h => ⟨h.1, hQ _ _ _ hw h.2⟩
  | n + 1, L, a, w, hs, hw, h => by
    refine ⟨fun h0 => hQ _ _ _ hw (h.1 h0), fun i hi => ?_⟩
    obtain ⟨o, ho, v, hy, hk⟩ := h.2 i hi
    have hnow : Now md ops i L := ⟨hi, hs⟩
    have go := fun w' (hw' : C (L.setIfInBounds i true) w') => wpAny_of_anyL hQ n (L.setIfInBounds i true) (a.put o.dst v) w' (Shut.set hnow) hw' hk
    unfold wpOp
    simp only [ho]
    rcases hy with ⟨hwt, hall⟩ | ⟨hwt, rfl, hall⟩
    · rw [if_pos hwt]
      refine .inl ?_
      have hg := hall L w hnow hw
      unfold opGives at hg
      unfold Oper.wp
      generalize (execOp a.eval o).run P w = r at hg ⊢
      cases r with
      | ok x w' =>
        cases x <;> simp only [Gives] at hg <;> simp only [Oper.upon]
        case value u => obtain ⟨rfl, h2⟩ := hg; exact go _ h2
        case skip => obtain ⟨rfl, h2⟩ := hg; exact go _ h2
        case enter f args => exact hg.mono fun e w'' ⟨he, h2⟩ => by subst he; exact go _ h2
      | halt x w' => simp only [Gives] at hg
    · rw [if_neg (by simp [hwt])]
      exact go _ (hall L w hnow hw)

theorem oneL_put {i j : Nat} {oi oj : Oper} {v : Value} (hj : ops[j]? = some oj) (hap : oi.apart ops oj = true)
    (hsi : ∀ cs b, oi.op ≠ .select cs b) (hsj : ∀ cs b, oj.op ≠ .select cs b) {K : Act → Prop} {a : Act}
    (hy : YL P md ops C i oi v a) (h : oneL P md ops C j K (a.put oi.dst v)) :
    oneL P md ops C j (fun a' => YL P md ops C i oi v a' ∧ K (a'.put oi.dst v)) a := by
  obtain ⟨h1, h2, h3⟩ := Oper.apart_spec hap
  obtain ⟨o, ho, u, hu, hk⟩ := h
  obtain rfl : o = oj := Option.some.inj (ho.symm.trans hj)
  refine ⟨o, ho, u, ?_, hy.same (execOp_put oi hsi a o.dst u h3) (wanted_put oi a o.dst u h3), by rw [← Act.put_comm a v u h2]; exact hk⟩
  exact hu.same (execOp_put o hsj a oi.dst v h1).symm (wanted_put o a oi.dst v h1).symm

theorem anyL_first {Q : Array Bool → Act → Prop} {i : Nat} {oi : Oper} {v : Value} (hi : ops[i]? = some oi) (hsel : ∀ (j : Nat) (o : Oper) cs b, ops[j]? = some o → o.op ≠ .select cs b) :
    ∀ (n : Nat) (L : Array Bool) (a : Act),
      (∀ j oj, ops[j]? = some oj → j ≠ i → L.getD j true = false → (∀ e ∈ oj.after, Region.binds md e = true → e.on ≠ i) → oi.apart ops oj = true) →
      i ∈ Region.ready md ops L → YL P md ops C i oi v a → anyL P md ops C Q n (L.setIfInBounds i true) (a.put oi.dst v) → anyL P md ops C Q (n + 1) L a := by
  intro n
  induction n with
  | zero =>
    intro L a _ hr hy H
    refine ⟨fun h => (by rw [h] at hr; cases hr), fun j hj => ?_⟩
    by_cases hji : j = i
    · subst hji; exact ⟨oi, hi, v, hy, H⟩
    · have := ready_mono hj hji
      rw [H.1] at this
      cases this
  | succ n ih =>
    intro L a hfree hr hy H
    refine ⟨fun h => (by rw [h] at hr; cases hr), fun j hj => ?_⟩
    by_cases hji : j = i
    · subst hji; exact ⟨oi, hi, v, hy, H⟩
    have h1 := H.2 j (ready_mono hj hji)
    obtain ⟨hjun, oj, hoj, hall⟩ := mem_ready.1 hj
    have hno : ∀ e ∈ oj.after, Region.binds md e = true → e.on ≠ i := by
      intro e he hb heq
      have h1 := hall e he hb
      have h0 := (mem_ready.1 hr).1
      rw [heq] at h1
      rcases Nat.lt_or_ge i L.size with h' | h'
      · simp [h'] at h0 h1; rw [h0] at h1; cases h1
      · simp [Array.getElem?_eq_none h'] at h1
    have h2 := oneL_put hoj (hfree j oj hoj hji hjun hno) (fun cs b => hsel i oi cs b hi) (fun cs b => hsel j oj cs b hoj) hy h1
    refine oneL_mono (fun a' h3 => ih (L.setIfInBounds j true) a' ?_ (ready_mono hr (Ne.symm hji)) h3.1 ?_) h2
    · intro k ok hk hki hun hno'
      refine hfree k ok hk hki ?_ hno'
      by_cases hjk : j = k
      · subst hjk; exact hjun
      · rwa [getD_set_ne true hjk] at hun
    · rw [Array.setIfInBounds_comm _ _ hji]
      exact h3.2

/-- THE WALK IN THE TEXT's ORDER. -/
def walkL (P : Program) (md : Region.Mode) (ops : Array Oper) (C : Array Bool → World → Prop) (Q : Array Bool → Act → Prop) : List Oper → Nat → Array Bool → Act → Prop
  | [], _, L, a => Q L a
  | o :: rest, k, L, a => ∃ v, YL P md ops C k o v a ∧ walkL P md ops C Q rest (k + 1) (L.setIfInBounds k true) (a.put o.dst v)

theorem anyL_of_walk {Q : Array Bool → Act → Prop} (hs : Region.noSelect ops = true) : ∀ (l : List Oper) (k : Nat) (L : Array Bool) (a : Act), (∀ j, l[j]? = ops[k + j]?) →
    Region.lexFrom md ops l.length k L = true → walkL P md ops C Q l k L a → anyL P md ops C Q l.length L a
  | [], _, _, _, _, hB, h => ⟨by simpa [Region.lexFrom] using hB, h⟩
  | o :: l, k, L, a, hl, hB, h => by
    have h0 : ops[k]? = some o := by simpa using (hl 0).symm
    simp only [List.length_cons, Region.lexFrom, Bool.and_eq_true] at hB
    obtain ⟨⟨hr, hf⟩, hB'⟩ := hB
    obtain ⟨v, hy, hK⟩ := h
    exact anyL_first h0 (Region.noSelect_spec hs) l.length L a (Region.free_spec h0 hf) (by simpa using hr) hy
      (anyL_of_walk hs l (k + 1) _ _ (fun j => by have := hl (j + 1); simpa [Nat.add_assoc, Nat.add_comm 1 j] using this) hB' hK)

theorem wp_region_L {id : Nat} {Q : Exit → Act → World → Prop} {a : Act} {w : World} {l : List Oper} (C : Array Bool → World → Prop) (hm : P.follows .mixedOrders = true) (hB : Region.lexB .any l.toArray = true)
    (hC : C (Array.replicate l.length false) w.drew)
    (h : walkL P .any l.toArray C (fun L a' => ∀ w', C L w' → Q .normal a' w') l 0 (Array.replicate l.length false) a) : (Code.region id l.toArray true).wp P Q a w := by
  simp only [Region.lexB, Bool.and_eq_true] at hB
  have hB2 := hB.2
  simp only [List.size_toArray] at hB2
  refine wp_region_any hm (wpAny_of_anyL (C := C) (Q := fun L a' => ∀ w', C L w' → Q .normal a' w') (fun L a w hw h => h w hw) _ _ _ _ ?_ ?_ ?_)
  · intro j oj _ hl
    rw [getD_replicate_false] at hl
    cases hl
  · simpa using hC
  · have := anyL_of_walk (md := .any) (C := C) hB.1 l 0 (Array.replicate l.length false) a (by simp) hB2 h
    simpa using this

/-- What waits for 'i' directly isn't done when 'i' comes up. -/
theorem Now.before {i : Nat} {L : Array Bool} (h : Now md ops i L) (j : Nat) (hj : Region.waitsFor md ops j i = true) : L.getD j false = false := by
  cases hl : L.getD j false with
  | false => rfl
  | true =>
    obtain ⟨oj, hoj, e, he, hb, hon⟩ := Region.waitsFor_spec hj
    have h1 := h.shut j oj hoj hl e he hb
    have h2 := getD_both (mem_ready.1 h.ready).1
    rw [hon, h2] at h1
    cases h1
/-- What 'i' waits for directly is done when 'i' comes up. -/
theorem Now.behind {i : Nat} {L : Array Bool} (h : Now md ops i L) (j : Nat) (hj : Region.waitsFor md ops i j = true) : L.getD j false = true := by
  obtain ⟨oi, hoi, e, he, hb, hon⟩ := Region.waitsFor_spec hj
  obtain ⟨_, o, ho, hall⟩ := mem_ready.1 h.ready
  obtain rfl : o = oi := Option.some.inj (ho.symm.trans hoi)
  rw [← hon]
  exact hall e he hb

/-! ### One operation of the walk -/
variable {Q : Array Bool → Act → Prop} {L0 : Array Bool} {a : Act} {o : Oper} {rest : List Oper} {k : Nat}
/-- An operation that leaves the world alone: one value in every world. -/
theorem walkL_still (hw : Region.wanted o (yielded ops a.tmps) = true) (v : Value) (hC : ∀ L w, Now md ops k L → C L w → C (L.setIfInBounds k true) w)
    (hv : ∀ L w, Now md ops k L → C L w → (execOp a.eval o).run P w = .ok (.value v) w) (h : walkL P md ops C Q rest (k + 1) (L0.setIfInBounds k true) (a.put o.dst v)) :
    walkL P md ops C Q (o :: rest) k L0 a :=
  ⟨v, .inl ⟨hw, fun L w hn hc => by unfold opGives; rw [hv L w hn hc]; exact ⟨rfl, hC L w hn hc⟩⟩, h⟩
theorem walkL_skip (hw : Region.wanted o (yielded ops a.tmps) = false) (hC : ∀ L w, Now md ops k L → C L w → C (L.setIfInBounds k true) w)
    (h : walkL P md ops C Q rest (k + 1) (L0.setIfInBounds k true) (a.put o.dst undef)) : walkL P md ops C Q (o :: rest) k L0 a :=
  ⟨undef, .inr ⟨hw, rfl, hC⟩, h⟩
/-- A store. -/
theorem walkL_act (hw : Region.wanted o (yielded ops a.tmps) = true)
    (hv : ∀ L w, Now md ops k L → C L w → ∃ w', (execOp a.eval o).run P w = .ok .skip w' ∧ C (L.setIfInBounds k true) w') (h : walkL P md ops C Q rest (k + 1) (L0.setIfInBounds k true) (a.put o.dst undef)) :
    walkL P md ops C Q (o :: rest) k L0 a :=
  ⟨undef, .inl ⟨hw, fun L w hn hc => by obtain ⟨w', h1, h2⟩ := hv L w hn hc; unfold opGives; rw [h1]; exact ⟨rfl, h2⟩⟩, h⟩
/-- A call. -/
theorem walkL_call (hw : Region.wanted o (yielded ops a.tmps) = true) (v : Value) (f : FuncId) (args : Array Value) (he : ∀ w, (execOp a.eval o).run P w = .ok (.enter f args) w)
    (hv : ∀ L w, Now md ops k L → C L w → Calls P f args w (fun e w' => e = .returned v ∧ C (L.setIfInBounds k true) w')) (h : walkL P md ops C Q rest (k + 1) (L0.setIfInBounds k true) (a.put o.dst v)) :
    walkL P md ops C Q (o :: rest) k L0 a :=
  ⟨v, .inl ⟨hw, fun L w hn hc => by unfold opGives; rw [he w]; exact hv L w hn hc⟩, h⟩

/-! ### What is known of the world hangs on a few operations -/
/-- 'D' of the listed operations' marks. -/
def CE (E : List Nat) (D : List Bool → World → Prop) (L : Array Bool) (w : World) : Prop := D (E.map fun e => L.getD e false) w
theorem CE.other {E : List Nat} {D : List Bool → World → Prop} {L : Array Bool} {w : World} {k : Nat} (hk : E.contains k = false) (h : CE E D L w) : CE E D (L.setIfInBounds k true) w := by
  unfold CE at *
  rwa [List.map_congr_left (g := fun e => L.getD e false)]
  intro e he
  refine getD_set_ne false ?_
  rintro rfl
  simp [he] at hk
theorem Now.set_self {i : Nat} {L : Array Bool} (h : Now md ops i L) : (L.setIfInBounds i true).getD i false = true := by
  have h0 := (mem_ready.1 h.ready).1
  have hlt : i < L.size := by
    rcases Nat.lt_or_ge i L.size with h' | h'
    · exact h'
    · simp [Array.getElem?_eq_none h'] at h0
  simp [hlt]
theorem walkL_pure {E : List Nat} {D : List Bool → World → Prop} (hw : Region.wanted o (yielded ops a.tmps) = true) (hk : E.contains k = false) (v : Value)
    (hv : ∀ w, (execOp a.eval o).run P w = .ok (.value v) w) (h : walkL P md ops (CE E D) Q rest (k + 1) (L0.setIfInBounds k true) (a.put o.dst v)) :
    walkL P md ops (CE E D) Q (o :: rest) k L0 a :=
  walkL_still hw v (fun _ _ _ h => h.other hk) (fun _ w _ _ => hv w) h
theorem walkL_read {E : List Nat} {D : List Bool → World → Prop} (hw : Region.wanted o (yielded ops a.tmps) = true) (hk : E.contains k = false) (v : Value)
    (hv : ∀ L w, Now md ops k L → CE E D L w → (execOp a.eval o).run P w = .ok (.value v) w) (h : walkL P md ops (CE E D) Q rest (k + 1) (L0.setIfInBounds k true) (a.put o.dst v)) :
    walkL P md ops (CE E D) Q (o :: rest) k L0 a :=
  walkL_still hw v (fun _ _ _ h => h.other hk) hv h
theorem walkL_pass {E : List Nat} {D : List Bool → World → Prop} (hw : Region.wanted o (yielded ops a.tmps) = false) (hk : E.contains k = false) (h : walkL P md ops (CE E D) Q rest (k + 1) (L0.setIfInBounds k true) (a.put o.dst undef)) :
    walkL P md ops (CE E D) Q (o :: rest) k L0 a := walkL_skip hw (fun _ _ _ h => h.other hk) h

theorem exec_load {ρ : Operand → Value} {w : World} {ty : TypeId} {x : Operand} {p : Addr} {v : Value} (ho : o.op = .load ty x) (hx : ρ x = .pointer (some p)) (hr : (loadVar ty p).run P w = .ok v w) :
    (execOp ρ o).run P w = .ok (.value v) w := by
  unfold execOp
  simp only [ho, hx, Instr.loadAt, Instr.sureAddr, Sem.run_bind, Sem.run_pure, Result.andThen_ok, hr]
theorem exec_store {ρ : Operand → Value} {w w' : World} {ty : TypeId} {x y : Operand} {p : Addr} {v : Value} (ho : o.op = .store ty x y) (hx : ρ x = .pointer (some p)) (hy : ρ y = v) (hr : (storeVar ty p v).run P w = .ok () w') :
    (execOp ρ o).run P w = .ok .skip w' := by
  unfold execOp
  simp only [ho, hx, hy, Instr.storeAt, Instr.sureAddr, Sem.run_bind, Sem.run_pure, Result.andThen_ok, hr]
end
end Go.Proofs.Ytomiodlipibloaa
