/- Where an address lies. -/
import Derived.Test.YtomiodlipibloaaFM
namespace Go.Proofs.Ytomiodlipibloaa.F
set_option linter.unusedVariables false
set_option linter.unusedSimpArgs false
set_option maxHeartbeats 2000000
set_option maxRecDepth 20000
open Go.RowKit
/-- What a call over the memory has by it, where the buffer may have been changed. -/
structure EnvP (w W : World) (m p g t : Nat) (v : Value) (l : List Int) (s : Ents) (T : Tab) (va : Int) (user write : Bool) (v' : Value) : Prop where
  mm : Mmu W m p g t v' l s T
  bx : Blk W w.heap.size #[.int .u32 va, .bool user, .bool write] 118
  rs : Blk W (w.heap.size + 1) zf 47
  up : Upd (TF t v) w W
  fr : ∀ k, OB v' k → OB v k ∨ w.heap.size ≤ k
section
variable {w W W' : World} {m p g t : Nat} {v v' : Value} {l : List Int} {s : Ents} {T : Tab} {va : Int} {user write : Bool}
theorem Env.toP (h : Env w W m p g t v l s T va user write) : EnvP w W m p g t v l s T va user write v := ⟨h.mm, h.bx, h.rs, h.up.mono (fun _ _ h => h.elim), fun _ h => .inl h⟩
theorem EnvP.next (h : EnvP w W m p g t v l s T va user write v') (hu : Upd (fun _ => False) W W') : EnvP w W' m p g t v l s T va user write v' :=
  ⟨h.mm.upd hu, h.bx.upd hu id, h.rs.upd hu id, h.up.trans hu (fun _ _ h => h.elim), h.fr⟩
theorem EnvP.facts (h : EnvP w W m p g t v l s T va user write v') : (∀ j, W.cell? ⟨m, j, none⟩ = (mc p t T)[j]?) ∧ (∀ j, W.cell? ⟨w.heap.size, j, none⟩ = (#[.int .u32 va, .bool user, .bool write] : Array Value)[j]?) ∧ (∀ j, W.cell? ⟨w.heap.size + 1, j, none⟩ = zf[j]?) ∧
    (∀ j, W.frozen? ⟨w.heap.size + 1, j, none⟩ = false) ∧ m < W.heap.size ∧ w.heap.size < W.heap.size ∧ w.heap.size + 1 < W.heap.size :=
  ⟨h.mm.head.cell, h.bx.cell, h.rs.cell, h.rs.frozen, h.mm.head.lt, h.bx.lt, h.rs.lt⟩
theorem EnvP.put (h : EnvP w W m p g t v l s T va user write v') {s' : Ents} (hp : MPut W m p g t v' l s' T W') : ∃ v2, EnvP w W' m p g t v l s' T va user write v2 := by
  obtain ⟨v2, hm, hu, hf⟩ := hp
  refine ⟨v2, hm, h.bx.upd hu (tf_ne h.mm.tlb h.bx (by decide) (by decide)), h.rs.upd hu (tf_ne h.mm.tlb h.rs (by decide) (by decide)), h.up.trans hu (fun i hi hS => ?_), fun k hk => ?_⟩
  · rcases hS with e | e
    · exact .inl e
    · rcases h.fr i e with e | e
      · exact .inr e
      · omega
  · rcases hf k hk with e | e
    · exact h.fr k e
    · right; have := h.up.size; omega
theorem EnvP.end_ (h : EnvP w W m p g t v l s T va user write v') (hu : Upd (fun _ => False) W W') (a b c : Value) :
    MPut w m p g t v l s T (((W'.setCell ⟨w.heap.size + 1, 0, none⟩ a).setCell ⟨w.heap.size + 1, 1, none⟩ b).setCell ⟨w.heap.size + 1, 2, none⟩ c) :=
  have h2 := h.next hu
  ⟨v', h2.mm.far h2.rs (set3q (Upd.refl _ W') a b c) (by decide) (by decide) (by decide) (by decide) (by decide),
    ((h2.up.setCell (.inr (by show w.heap.size ≤ w.heap.size + 1; omega)) _).setCell (.inr (by show w.heap.size ≤ w.heap.size + 1; omega)) _).setCell (.inr (by show w.heap.size ≤ w.heap.size + 1; omega)) _, h.fr⟩
end
theorem placeF_bd (x va : Int) (h : 0 ≤ x) (h0 : 0 ≤ va) : 0 ≤ placeF x va ∧ placeF x va < 1073741824 := by unfold placeF; omega
theorem U32z : U32 0 := ⟨by decide, by decide⟩
theorem entryF_fit (l : List Int) (s : Ents) (T : Tab) (va : Int) (user write keep : Bool) (hs : Fit s) (hl : Byt l) : U32 (entryF l s T va user write keep).1 := by
  unfold entryF
  have hc : ∀ x is, U32 x → U32 (chkF s x va is user write keep).1 := fun x is hx => by
    unfold chkF
    split
    · exact U32z
    split
    · exact U32z
    · exact hx
  split
  · exact hc _ _ (getE_fit s _ hs)
  split
  · exact U32z
  split
  · exact U32z
  · exact hc _ _ (getF_fit l _ hl)
section
variable (m p g t : Nat) (v : Value) (l : List Int) (s : Ents) (T : Tab) (va : Int) (user write keep : Bool) (w : World)
theorem find_fn (n : Nat) (hM : Mmu w m p g t v l s T) (h0 : 0 ≤ va) (h1 : va < 4294967296) (hn : n ≤ 1024) :
    Calls Try.prog 66 #[.pointer (some ⟨m, 0, none⟩), .agg #[.int .u32 va, .bool user, .bool write], .int .i64 n, .bool keep] w fun e w' =>
      e = .returned (.tuple #[.int .u32 (findF l s T va n user write keep).1, .agg (findF l s T va n user write keep).2.1.cells]) ∧ MPut w m p g t v l (findF l s T va n user write keep).2.2 T w' := by
  have HE0 := Lib.hid (Env.start (va := va) (user := user) (write := write) hM).toP
  have KE : Hid (∀ W, EnvP w W m p g t v l s T va user write v → Calls Try.prog 80 #[.pointer (some ⟨m, 0, none⟩), .agg #[.int .u32 va, .bool user, .bool write], .bool keep] W fun e w' =>
      e = .returned (.tuple #[.int .u32 (entryF l s T va user write keep).1, .agg (entryF l s T va user write keep).2.1.cells]) ∧ MPut W m p g t v l (entryF l s T va user write keep).2.2 T w') := Lib.hid fun W h => entry_fn m p g t v l s T va user write keep W h.mm h0 h1
  have hfit := entryF_fit l s T va user write keep hM.tlb.fit hM.ram.byt
  have c51 : m < w.heap.size := hM.head.lt
  have hL : (l.length : Int) ≤ 16777216 := by have := hM.ram.len; omega
  have hte : U32 T.e := hM.tab.e
  have hn' : (n : Int) ≤ 1024 := by omega
  have KS : Hid (∀ W (s' : Ents) (v2 : Value), EnvP w W m p g t v l s' T va user write v2 → Calls Try.prog 82 #[.pointer (some ⟨p, 0, none⟩)] W fun e w' => e = .returned (.int .i64 l.length) ∧ w' = W) := Lib.hid fun W s' v2 h => rsize_any p l.length l.length _ W h.mm.ram.cell
  have KF : Hid (∀ W, Calls Try.prog 83 #[.agg #[.int .u32 va, .bool user, .bool write], .int .i64 1, .int .u32 0] W fun e w' => e = .returned (.agg (fltF 1 va 0 write).cells) ∧ Upd (fun _ => False) W w') := Lib.hid fun W => fault_any va 0 1 user write W (.inl rfl)
  obtain ⟨fi, hfi⟩ : ∃ fi, fltF 1 va 0 write = ⟨1, va, fi⟩ := ⟨_, rfl⟩
  rw [hfi] at KF
  have HFI := Lib.hid hfi
  generalize hR : findF l s T va n user write keep = R
  have HR := Lib.hid hR
  clear hM hR hfi hn
  simp only [Flt.cells] at KF
  obtain ⟨c1, c2, c3, c4, c5, c6, c7⟩ := HE0.out.facts
  simp only [mc, zf] at c1 c3
  go_enter Try.func66, Try.ntmps66
  go_upto_if 20 with (fail)
  clear c1 c2 c3 c4 c5 c6 c7
  obtain ⟨c1, c2, c3, c4, c5, c6, c7⟩ := HE0.out.facts
  simp only [mc, zf] at c1 c3
  go_cut [10] from 11 (fun x W => ∃ pa s' v2, x = .int .u32 pa ∧ Hid (0 ≤ pa ∧ pa < 4294967296) ∧ Hid (EnvP w W m p g t v l s' T va user write v2) ∧ Hid (R = finF l pa va n write s'))
  case first =>
    by_cases he : T.e = 0
    · have he' : (T.e != 0) = false := by simpa using he
      have HRR : Hid (R = finF l va va n write s) := Lib.hid (by rw [← HR.out]; unfold findF; rw [if_pos he])
      clear he
      go_wp2
      go_meet
      exact ⟨va, s, v, rfl, Lib.hid ⟨h0, h1⟩, HE0, HRR⟩
    · have he' : (T.e != 0) = true := by simpa using he
      obtain ⟨x, f, s', hent⟩ : ∃ x f s', entryF l s T va user write keep = (x, f, s') := ⟨_, _, _, rfl⟩
      rw [hent] at KE hfit
      obtain ⟨fk, fv, fj⟩ := f
      simp only [Flt.cells] at KE
      obtain ⟨hx0, hx1⟩ := hfit
      simp only at hx0 hx1
      by_cases hk : fk = 0
      · subst hk
        have HRR : Hid (R = finF l (placeF x va) va n write s') := Lib.hid (by rw [← HR.out]; unfold findF; rw [if_neg he, hent, if_neg (by simp)])
        have KPl := Lib.hid (fun W => place_any x va W hx0 hx1 h0 h1)
        have HPB := Lib.hid (placeF_bd x va hx0 h0)
        clear he hent
        generalize placeF x va = pa at *
        go_wp2_with (first
          | (go_at_call 80; refine (KE.out _ HE0.out).mono ?_; rintro e w2 ⟨rfl, hp⟩; obtain ⟨v2, hE2⟩ := HE0.out.put hp; have HE2 := Lib.hid hE2; clear hp hE2; obtain ⟨e1, e2, e3, e4, e5, e6, e7⟩ := HE2.out.facts; simp only [mc, zf] at e1 e3)
          | (go_at_call 81; refine (KPl.out _).mono ?_; rintro e w3 ⟨rfl, rfl⟩))
        go_meet
        exact ⟨pa, s', v2, rfl, Lib.hid ⟨HPB.out.1, by have := HPB.out.2; omega⟩, Lib.hid (HE2.out.next ((Upd.refl _ _).alloc _)), HRR⟩
      · have hk' : (fk != 0) = true := by simpa using hk
        have hres : R = (0, ⟨fk, fv, fj⟩, s') := by rw [← HR.out]; unfold findF; rw [if_neg he, hent, if_pos hk]
        subst hres
        clear he hent hk
        go_wp2_with (go_at_call 80; refine (KE.out _ HE0.out).mono ?_; rintro e w2 ⟨rfl, hp⟩; obtain ⟨v2, hE2⟩ := HE0.out.put hp; have HE2 := Lib.hid hE2; clear hp hE2; obtain ⟨e1, e2, e3, e4, e5, e6, e7⟩ := HE2.out.facts; simp only [mc, zf] at e1 e3)
        go_region
        all_goals go_wp2
        all_goals exact bodyPost_ret (v := .tuple #[_, _]) (by simp [results, Try.results66, go_sem, Flt.cells, nof, e3, e5, e6, e7]) rfl ⟨rfl, by first | exact HE2.out.end_ (Upd.refl _ _) _ _ _ | exact (HE2.out.end_ (Upd.refl _ _) _ _ _).then ((Upd.refl _ _).alloc _).drew⟩
  case rest =>
    obtain ⟨pa, s', v2, rfl, HPA, HE2, HR2⟩ := hcut
    clear c1 c2 c3 c4 c5 c6 c7
    obtain ⟨c1, c2, c3, c4, c5, c6, c7⟩ := HE2.out.facts
    simp only [mc, zf] at c1 c3
    obtain ⟨hp0, hp1⟩ := HPA.out
    by_cases hb : pa + n > l.length
    · have hres : R = (0, ⟨1, va, fi⟩, s') := by rw [HR2.out]; unfold finF; rw [if_pos hb, HFI.out]
      subst hres
      have hb' : (l.length : Int) < pa + n := by omega
      clear hb
      go_wp2_with (first
        | (go_at_call 82; refine (KS.out _ _ _ HE2.out).mono ?_; rintro e w3 ⟨rfl, rfl⟩)
        | (go_at_call 83; refine (KF.out _).mono ?_; rintro e w4 ⟨rfl, hu⟩; have HE4 := Lib.hid (HE2.out.next hu); clear hu; obtain ⟨i1, i2, i3, i4, i5, i6, i7⟩ := HE4.out.facts; simp only [mc, zf] at i1 i3))
      all_goals exact bodyPost_ret (v := .tuple #[_, _]) (by simp [results, Try.results66, go_sem, Flt.cells, nof, i3, i5, i6, i7]) rfl ⟨rfl, HE4.out.end_ (Upd.refl _ _) _ _ _⟩
    · have hres : R = (pa, nof, s') := by rw [HR2.out]; unfold finF; rw [if_neg hb]
      subst hres
      have hb' : pa + n ≤ (l.length : Int) := by omega
      clear hb
      go_wp2_with (go_at_call 82; refine (KS.out _ _ _ HE2.out).mono ?_; rintro e w3 ⟨rfl, rfl⟩)
      all_goals exact bodyPost_ret (v := .tuple #[_, _]) (by simp [results, Try.results66, go_sem, Flt.cells, nof, c3, c5, c6, c7]) rfl ⟨rfl, HE2.out.end_ (Upd.refl _ _) _ _ _⟩
end
end Go.Proofs.Ytomiodlipibloaa.F
