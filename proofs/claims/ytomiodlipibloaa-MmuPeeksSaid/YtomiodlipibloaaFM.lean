/- The entry of an address's page. -/
import Derived.Test.YtomiodlipibloaaFL
namespace Go.Proofs.Ytomiodlipibloaa.F
set_option linter.unusedVariables false
set_option linter.unusedSimpArgs false
set_option maxHeartbeats 2000000
set_option maxRecDepth 20000
open Go.RowKit
def mc (p t : Nat) (T : Tab) : Array Value := #[.pointer (some ⟨p, 0, none⟩), .pointer (some ⟨t, 0, none⟩), .int .u32 T.a, .int .u32 T.b, .int .u32 T.c, .int .u32 T.d, .int .u32 T.e]
/-- What a call over the memory has by it: the memory, its access, its result's place. -/
structure Env (w W : World) (m p g t : Nat) (v : Value) (l : List Int) (s : Ents) (T : Tab) (va : Int) (user write : Bool) : Prop where
  mm : Mmu W m p g t v l s T
  bx : Blk W w.heap.size #[.int .u32 va, .bool user, .bool write] 118
  rs : Blk W (w.heap.size + 1) zf 47
  up : Upd (fun _ => False) w W
section
variable {w W W' : World} {m p g t : Nat} {v : Value} {l : List Int} {s : Ents} {T : Tab} {va : Int} {user write : Bool}
theorem Env.start (h : Mmu w m p g t v l s T) : Env w ((w.alloc (.cells #[.int .u32 va, .bool user, .bool write] 118)).alloc (.cells zf 47)) m p g t v l s T va user write :=
  ⟨h.upd (((Upd.refl _ w).alloc _).alloc _), bA w _ _ _, bR w _, ((Upd.refl _ w).alloc _).alloc _⟩
theorem Env.next (h : Env w W m p g t v l s T va user write) (hu : Upd (fun _ => False) W W') : Env w W' m p g t v l s T va user write :=
  ⟨h.mm.upd hu, h.bx.upd hu id, h.rs.upd hu id, h.up.then hu⟩
theorem Env.facts (h : Env w W m p g t v l s T va user write) : (∀ j, W.cell? ⟨m, j, none⟩ = (mc p t T)[j]?) ∧ (∀ j, W.cell? ⟨w.heap.size, j, none⟩ = (#[.int .u32 va, .bool user, .bool write] : Array Value)[j]?) ∧ (∀ j, W.cell? ⟨w.heap.size + 1, j, none⟩ = zf[j]?) ∧
    (∀ j, W.frozen? ⟨w.heap.size + 1, j, none⟩ = false) ∧ m < W.heap.size ∧ w.heap.size < W.heap.size ∧ w.heap.size + 1 < W.heap.size :=
  ⟨h.mm.head.cell, h.bx.cell, h.rs.cell, h.rs.frozen, h.mm.head.lt, h.bx.lt, h.rs.lt⟩
end
theorem getE_fit (s : Ents) (x : Int) (h : Fit s) : U32 (getE s x).1 := by
  unfold getE
  split
  · rename_i hi; exact (h.ent hi).2
  · exact ⟨by decide, by decide⟩
theorem getF_fit (l : List Int) (a : Int) (h : Byt l) : U32 (getF l a 4).1 := by
  unfold getF
  split
  · have h1 := num_bound ((h.drop a.toNat).take 4)
    have h2 : ((l.drop a.toNat).take 4).length ≤ 4 := List.length_take_le _ _
    have h3 : (256 : Int) ^ ((l.drop a.toNat).take 4).length ≤ 4294967296 := by
      generalize ((l.drop a.toNat).take 4).length = q at *
      rcases (by omega : q = 0 ∨ q = 1 ∨ q = 2 ∨ q = 3 ∨ q = 4) with rfl | rfl | rfl | rfl | rfl <;> decide
    exact ⟨h1.1, by have := h1.2; show num ((l.drop a.toNat).take 4) < 4294967296; omega⟩
  · exact ⟨by decide, by decide⟩
theorem tf_ne {W : World} {t q : Nat} {v : Value} {s : Ents} {cs : Array Value} {Ty : TypeId} (hT : Tlb W t v s) (hb : Blk W q cs Ty) (h1 : Ty ≠ 132) (h2 : Ty ≠ 136) : ¬ TF t v q := fun h => by
  rcases h with e | e
  · exact Blk.neT hb hT.head h1 e
  · exact own_ne hT.row hb h2 e
theorem Mmu.far {W W' : World} {m p g t q : Nat} {v : Value} {l : List Int} {s : Ents} {T : Tab} {cs : Array Value} {Ty : TypeId} (h : Mmu W m p g t v l s T) (hq : Blk W q cs Ty) (hu : Upd (fun k => k = q) W W') (h1 : Ty ≠ 107) (h2 : Ty ≠ 102) (h3 : Ty ≠ 5) (h4 : Ty ≠ 132) (h5 : Ty ≠ 136) : Mmu W' m p g t v l s T :=
  ⟨h.head.upd hu (fun e => Blk.neT hq h.head h1 e.symm), h.ram.upd hu (fun e => Blk.neT hq h.ram.head h2 e.symm) (fun e => Blk.neT hq h.ram.row h3 e.symm),
    h.tlb.upd hu (fun e => Blk.neT hq h.tlb.head h4 e.symm) (fun k hk e => own_ne h.tlb.row hq h5 (e ▸ hk)), h.tab⟩
theorem set3q {W W' : World} {q : Nat} (h : Upd (fun k => k = q) W W') (a b c : Value) : Upd (fun k => k = q) W (((W'.setCell ⟨q, 0, none⟩ a).setCell ⟨q, 1, none⟩ b).setCell ⟨q, 2, none⟩ c) :=
  ((h.setCell (.inl rfl) _).setCell (.inl rfl) _).setCell (.inl rfl) _
/-- The end, where nothing was changed. -/
theorem Env.end_ {w W W' : World} {m p g t : Nat} {v : Value} {l : List Int} {s : Ents} {T : Tab} {va : Int} {user write : Bool} (h : Env w W m p g t v l s T va user write) (hu : Upd (fun _ => False) W W') (a b c : Value) :
    MPut w m p g t v l s T (((W'.setCell ⟨w.heap.size + 1, 0, none⟩ a).setCell ⟨w.heap.size + 1, 1, none⟩ b).setCell ⟨w.heap.size + 1, 2, none⟩ c) :=
  ⟨v, (h.next hu).mm.far (h.next hu).rs (set3q (Upd.refl _ W') a b c) (by decide) (by decide) (by decide) (by decide) (by decide), (set3 (h.next hu).up (by omega) _ _ _).mono (fun _ _ h => h.elim), fun _ hk => .inl hk⟩
/-- The end, behind a change of the buffer. -/
theorem Env.endP {w W W3 : World} {m p g t : Nat} {v : Value} {l : List Int} {s s' : Ents} {T : Tab} {va : Int} {user write : Bool} (h : Env w W m p g t v l s T va user write) (hp : TPut W t v s' W3) :
    (∀ j, W3.cell? ⟨w.heap.size + 1, j, none⟩ = zf[j]?) ∧ (∀ j, W3.frozen? ⟨w.heap.size + 1, j, none⟩ = false) ∧ w.heap.size + 1 < W3.heap.size ∧
    ∀ a b c, MPut w m p g t v l s' T (((W3.setCell ⟨w.heap.size + 1, 0, none⟩ a).setCell ⟨w.heap.size + 1, 1, none⟩ b).setCell ⟨w.heap.size + 1, 2, none⟩ c) := by
  obtain ⟨v', hT, hU, hF⟩ := hp
  have hr : Blk W3 (w.heap.size + 1) zf 47 := h.rs.upd hU (tf_ne h.mm.tlb h.rs (by decide) (by decide))
  refine ⟨hr.cell, hr.frozen, hr.lt, fun a b c => ⟨v', ?_, ?_, fun k hk => ?_⟩⟩
  · exact (h.mm.keep hU (fun _ _ h => h) hT).far hr (set3q (Upd.refl _ W3) a b c) (by decide) (by decide) (by decide) (by decide) (by decide)
  · have h1 : Upd (TF t v) w W3 := (h.up.mono (fun _ _ h => h.elim)).trans hU (fun _ _ h => h)
    exact ((h1.setCell (.inr (by show w.heap.size ≤ w.heap.size + 1; omega)) _).setCell (.inr (by show w.heap.size ≤ w.heap.size + 1; omega)) _).setCell (.inr (by show w.heap.size ≤ w.heap.size + 1; omega)) _
  · rcases hF k hk with e | e
    · exact .inl e
    · right; have := h.up.size; omega
theorem Env.cellM {w W W3 : World} {m p g t : Nat} {v : Value} {l : List Int} {s s' : Ents} {T : Tab} {va : Int} {user write : Bool} (h : Env w W m p g t v l s T va user write) (hp : TPut W t v s' W3) : W3.cell? ⟨m, 1, none⟩ = some (.pointer (some ⟨t, 0, none⟩)) := by
  obtain ⟨v', hT, hU, hF⟩ := hp
  exact (h.mm.keep hU (fun _ _ h => h) hT).head.cell 1
theorem Env.cellB {w W W3 : World} {m p g t : Nat} {v : Value} {l : List Int} {s s' : Ents} {T : Tab} {va : Int} {user write : Bool} (h : Env w W m p g t v l s T va user write) (hp : TPut W t v s' W3) : W3.cell? ⟨w.heap.size, 0, none⟩ = some (.int .u32 va) := by
  obtain ⟨v', hT, hU, hF⟩ := hp
  exact (h.bx.upd hU (tf_ne h.mm.tlb h.bx (by decide) (by decide))).cell 0
section
variable (m p g t : Nat) (v : Value) (l : List Int) (s : Ents) (T : Tab) (va : Int) (user write keep : Bool) (w : World)
theorem entry_fn (hM : Mmu w m p g t v l s T) (h0 : 0 ≤ va) (h1 : va < 4294967296) :
    Calls Try.prog 80 #[.pointer (some ⟨m, 0, none⟩), .agg #[.int .u32 va, .bool user, .bool write], .bool keep] w fun e w' =>
      e = .returned (.tuple #[.int .u32 (entryF l s T va user write keep).1, .agg (entryF l s T va user write keep).2.1.cells]) ∧ MPut w m p g t v l (entryF l s T va user write keep).2.2 T w' := by
  have HE0 := Lib.hid (Env.start (va := va) (user := user) (write := write) hM)
  obtain ⟨c1, c2, c3, c4, c5, c6, c7⟩ := HE0.out.facts
  have KG : Hid (∀ W, Env w W m p g t v l s T va user write → Calls Try.prog 84 #[.pointer (some ⟨t, 0, none⟩), .int .u32 (va / 512)] W fun e w' => e = .returned (.tuple #[.int .u32 (getE s (va / 512)).1, .bool (getE s (va / 512)).2]) ∧ Upd (fun _ => False) W w') :=
    Lib.hid fun W h => tget_any t v s (va / 512) W h.mm.tlb
  have c51 : m < w.heap.size := hM.head.lt
  obtain ⟨x0, is, hg⟩ : ∃ x is, getE s (va / 512) = (x, is) := ⟨_, _, rfl⟩
  have HG := Lib.hid hg
  rw [hg] at KG
  simp only [mc, zf] at c1 c3
  generalize hR : entryF l s T va user write keep = R
  have HR := Lib.hid hR
  clear hM hR hg
  go_enter Try.func80, Try.ntmps80
  go_wp2_with fail
  clear c1 c2 c3 c4 c5 c6 c7
  obtain ⟨c1, c2, c3, c4, c5, c6, c7⟩ := HE0.out.facts
  simp only [mc, zf] at c1 c3
  go_region_held3 (fun w' => w'.cell? ⟨m, 1, none⟩ = some (.pointer (some ⟨t, 0, none⟩)) ∧ w'.cell? ⟨w.heap.size, 0, none⟩ = some (.int .u32 va)) (go_keep)
    (first
      | (go_at_call 84
         refine (KG.out _ (HE0.out.next (Upd.refl _ _).drew)).mono ?_
         rintro e w1 ⟨rfl, hu⟩
         have HE1 := Lib.hid (HE0.out.next ((Upd.refl _ _).drew.then hu))
         obtain ⟨d1, d2, d3, d4, d5, d6, d7⟩ := HE1.out.facts
         simp only [mc, zf] at d1 d3
         clear hu))
  clear c1 c2 c3 c4 c5 c6 c7
  go_upto_if 25 with (fail)
  go_cut [8] from 10 (fun x W => ∃ y, x = .int .u32 y ∧ Hid (U32 y) ∧ Hid (Env w W m p g t v l s T va user write) ∧ Hid (R = chkF s y va is user write keep))
  case first =>
    cases is
    · have KPl : Hid (Calls Try.prog 87 #[.pointer (some ⟨m, 0, none⟩), .agg #[.int .u32 va, .bool user, .bool write]] w1 fun e w' => e = .returned (.tuple #[.int .u32 (placeP T va write).1, .agg (placeP T va write).2.cells]) ∧ Upd (fun _ => False) w1 w') :=
        Lib.hid (place_fn va user write w1 m p t T HE1.out.mm.head HE1.out.mm.tab h0 h1)
      by_cases hok : okP' T va = true
      · have hpl : placeP T va write = (atP T va, nof) := by unfold placeP; rw [if_pos hok]
        rw [hpl] at KPl
        have hat0 : 0 ≤ atP T va := by unfold atP; omega
        have hat1 : atP T va < 4294967296 := by unfold atP; omega
        obtain ⟨gy, ge, hge⟩ : ∃ y e, getF l (atP T va) 4 = (y, e) := ⟨_, _, rfl⟩
        have KR : Hid (∀ W, Env w W m p g t v l s T va user write → Calls Try.prog 41 #[.pointer (some ⟨p, 0, none⟩), .int .u32 (atP T va), .int .i64 4] W fun e w' => Two .u32 (gy, ge) e ∧ w' = W) := Lib.hid fun W h => by
          rw [← hge]; exact rget_any p g l W (atP T va) 4 h.mm.ram hat0 hat1
        have HGE := Lib.hid hge
        have HOK := Lib.hid hok
        clear hpl hok hge
        simp only [nof, Flt.cells] at KPl
        by_cases he : ge = 0
        · subst he
          have hy : U32 gy := by
            have h2 : gy = (getF l (atP T va) 4).1 := by rw [HGE.out]
            rw [h2]; exact getF_fit l _ HE1.out.mm.ram.byt
          have HYY := Lib.hid hy
          have HRR : Hid (R = chkF s gy va false user write keep) := Lib.hid (by rw [← HR.out]; unfold entryF; rw [HG.out, if_neg (by simp), if_neg (by rw [HOK.out]; simp), HGE.out, if_neg (by simp)])
          clear hy
          generalize atP T va = at_ at *
          unfold Two at KR
          simp only [] at KR
          go_wp2_with (first
            | (go_at_call 87; refine (KPl.out).mono ?_; rintro e w2 ⟨rfl, hu⟩; have HE2 := Lib.hid (HE1.out.next hu); clear hu; obtain ⟨e1, e2, e3, e4, e5, e6, e7⟩ := HE2.out.facts; simp only [mc, zf] at e1 e3)
            | (go_at_call 41; refine (KR.out _ (HE2.out.next ((Upd.refl _ _).alloc _))).mono ?_; rintro e w3 ⟨rfl, rfl⟩))
          go_meet
          exact ⟨gy, rfl, HYY, Lib.hid (HE2.out.next ((Upd.refl _ _).alloc _)), HRR⟩
        · have he' : (ge != 0) = true := by simpa using he
          have hres : R = (0, fltF 1 va 0 write, s) := by
            rw [← HR.out]; unfold entryF; rw [HG.out, if_neg (by simp), if_neg (by rw [HOK.out]; simp), HGE.out, if_pos he]
          have KF : Hid (∀ W, Calls Try.prog 83 #[.agg #[.int .u32 va, .bool user, .bool write], .int .i64 1, .int .u32 0] W fun e w' => e = .returned (.agg (fltF 1 va 0 write).cells) ∧ Upd (fun _ => False) W w') := Lib.hid fun W => fault_any va 0 1 user write W (.inl rfl)
          obtain ⟨fi, hfi⟩ : ∃ fi, fltF 1 va 0 write = ⟨1, va, fi⟩ := ⟨_, rfl⟩
          rw [hfi] at hres KF
          subst hres
          clear he hfi
          generalize atP T va = at_ at *
          unfold Two at KR
          simp only [Flt.cells] at KR KF ⊢
          go_wp2_with (first
            | (go_at_call 87; refine (KPl.out).mono ?_; rintro e w2 ⟨rfl, hu⟩; have HE2 := Lib.hid (HE1.out.next hu); clear hu; obtain ⟨e1, e2, e3, e4, e5, e6, e7⟩ := HE2.out.facts; simp only [mc, zf] at e1 e3)
            | (go_at_call 41; refine (KR.out _ (HE2.out.next ((Upd.refl _ _).alloc _))).mono ?_; rintro e w3 ⟨rfl, rfl⟩)
            | (go_at_call 83; refine (KF.out _).mono ?_; rintro e w4 ⟨rfl, hu⟩; have HE4 := Lib.hid ((HE2.out.next ((Upd.refl _ _).alloc _)).next hu); clear hu; obtain ⟨i1, i2, i3, i4, i5, i6, i7⟩ := HE4.out.facts; simp only [mc, zf] at i1 i3))
          all_goals exact bodyPost_ret (v := .tuple #[_, _]) (by simp [results, Try.results80, go_sem, Flt.cells, nof, i3, i5, i6, i7]) rfl ⟨rfl, by first | exact HE4.out.end_ (Upd.refl _ _) _ _ _ | exact HE4.out.end_ ((Upd.refl _ _).alloc _) _ _ _ | exact (HE4.out.end_ (Upd.refl _ _) _ _ _).then ((Upd.refl _ _).alloc _).drew⟩
      · have hpl : placeP T va write = (0, fltF 2 va 1 write) := by unfold placeP; rw [if_neg hok]
        have hres : R = (0, fltF 2 va 1 write, s) := by
          rw [← HR.out]; unfold entryF; rw [HG.out, if_neg (by simp), if_pos (by simpa using hok)]
        rw [hpl] at KPl
        obtain ⟨fi, hfi⟩ : ∃ fi, fltF 2 va 1 write = ⟨2, va, fi⟩ := ⟨_, rfl⟩
        rw [hfi] at KPl hres
        subst hres
        clear hpl hok hfi
        simp only [Flt.cells] at *
        go_wp2_with (go_at_call 87; refine (KPl.out).mono ?_; rintro e w2 ⟨rfl, hu⟩; have HE2 := Lib.hid (HE1.out.next hu); clear hu; obtain ⟨e1, e2, e3, e4, e5, e6, e7⟩ := HE2.out.facts; simp only [mc, zf] at e1 e3)
        go_region
        all_goals go_wp2
        all_goals exact bodyPost_ret (v := .tuple #[_, _]) (by simp [results, Try.results80, go_sem, Flt.cells, nof, e3, e5, e6, e7]) rfl ⟨rfl, by first | exact HE2.out.end_ (Upd.refl _ _) _ _ _ | exact HE2.out.end_ ((Upd.refl _ _).alloc _) _ _ _ | exact (HE2.out.end_ (Upd.refl _ _) _ _ _).then ((Upd.refl _ _).alloc _).drew⟩
    · go_wp2
      go_meet
      refine ⟨x0, rfl, Lib.hid ?_, HE1, Lib.hid ?_⟩
      · have : x0 = (getE s (va / 512)).1 := by rw [HG.out]
        rw [this]
        exact getE_fit s _ HE1.out.mm.tlb.fit
      · rw [← HR.out]; unfold entryF; rw [HG.out, if_pos rfl]
  case rest =>
    obtain ⟨y, rfl, HY, HE2, HR2⟩ := hcut
    obtain ⟨c1, c2, c3, c4, c5, c6, c7⟩ := HE2.out.facts
    simp only [mc, zf] at c1 c3
    clear d1 d2 d3 d4 d5 d6 d7
    have KM := Lib.hid (fun W => may_any y W user write HY.out.1 HY.out.2)
    have KI := Lib.hid (fun W => is_any y W HY.out.1 HY.out.2)
    by_cases hm : mayF y user write = false
    · have hres : R = (0, fltF 2 va 0 write, s) := by rw [HR2.out]; unfold chkF; rw [if_pos hm]
      have KF : Hid (∀ W, Calls Try.prog 83 #[.agg #[.int .u32 va, .bool user, .bool write], .int .i64 2, .int .u32 0] W fun e w' => e = .returned (.agg (fltF 2 va 0 write).cells) ∧ Upd (fun _ => False) W w') := Lib.hid fun W => fault_any va 0 2 user write W (.inl rfl)
      obtain ⟨fi, hfi⟩ : ∃ fi, fltF 2 va 0 write = ⟨2, va, fi⟩ := ⟨_, rfl⟩
      rw [hfi] at hres KF
      rw [hm] at KM
      subst hres
      clear hm hfi
      simp only [Flt.cells] at KF ⊢
      go_wp2_with (first
        | (go_at_call 90; refine (KM.out _).mono ?_; rintro e w2 ⟨rfl, rfl⟩)
        | (go_at_call 83; refine (KF.out _).mono ?_; rintro e w4 ⟨rfl, hu⟩; have HE4 := Lib.hid (HE2.out.next hu); clear hu; obtain ⟨i1, i2, i3, i4, i5, i6, i7⟩ := HE4.out.facts; simp only [mc, zf] at i1 i3))
      all_goals exact bodyPost_ret (v := .tuple #[_, _]) (by simp [results, Try.results80, go_sem, Flt.cells, nof, i3, i5, i6, i7]) rfl ⟨rfl, by first | exact HE4.out.end_ (Upd.refl _ _) _ _ _ | exact HE4.out.end_ ((Upd.refl _ _).alloc _) _ _ _ | exact (HE4.out.end_ (Upd.refl _ _) _ _ _).then ((Upd.refl _ _).alloc _).drew⟩
    have hm' : mayF y user write = true := by simpa using hm
    rw [hm'] at KM
    by_cases hv : bitF y 31 = false
    · have hres : R = (0, fltF 3 va 0 write, s) := by rw [HR2.out]; unfold chkF; rw [if_neg hm, if_pos hv]
      have KF : Hid (∀ W, Calls Try.prog 83 #[.agg #[.int .u32 va, .bool user, .bool write], .int .i64 3, .int .u32 0] W fun e w' => e = .returned (.agg (fltF 3 va 0 write).cells) ∧ Upd (fun _ => False) W w') := Lib.hid fun W => fault_any va 0 3 user write W (.inl rfl)
      obtain ⟨fi, hfi⟩ : ∃ fi, fltF 3 va 0 write = ⟨3, va, fi⟩ := ⟨_, rfl⟩
      rw [hfi] at hres KF
      rw [hv] at KI
      subst hres
      clear hm hm' hv hfi
      simp only [Flt.cells] at KF ⊢
      go_wp2_with (first
        | (go_at_call 90; refine (KM.out _).mono ?_; rintro e w2 ⟨rfl, rfl⟩)
        | (go_at_call 91; refine (KI.out _).mono ?_; rintro e w2 ⟨rfl, rfl⟩)
        | (go_at_call 83; refine (KF.out _).mono ?_; rintro e w4 ⟨rfl, hu⟩; have HE4 := Lib.hid (HE2.out.next hu); clear hu; obtain ⟨i1, i2, i3, i4, i5, i6, i7⟩ := HE4.out.facts; simp only [mc, zf] at i1 i3))
      all_goals exact bodyPost_ret (v := .tuple #[_, _]) (by simp [results, Try.results80, go_sem, Flt.cells, nof, i3, i5, i6, i7]) rfl ⟨rfl, by first | exact HE4.out.end_ (Upd.refl _ _) _ _ _ | exact HE4.out.end_ ((Upd.refl _ _).alloc _) _ _ _ | exact (HE4.out.end_ (Upd.refl _ _) _ _ _).then ((Upd.refl _ _).alloc _).drew⟩
    have hv' : bitF y 31 = true := by simpa using hv
    rw [hv'] at KI
    by_cases hk : is = false ∧ keep = true
    · obtain ⟨rfl, rfl⟩ := hk
      have hres : R = (y, nof, putE s (va / 512) y) := by rw [HR2.out]; unfold chkF; rw [if_neg hm, if_neg hv, if_pos ⟨rfl, rfl⟩]
      have KT : Hid (∀ W, Env w W m p g t v l s T va user write → Calls Try.prog 86 #[.pointer (some ⟨t, 0, none⟩), .int .u32 (va / 512), .int .u32 y] W fun en w' => en = .returned (.tuple #[]) ∧ TPut W t v (putE s (va / 512) y) w') := Lib.hid fun W h => tput_any t v s (va / 512) W y h.mm.tlb (by omega) (by omega) HY.out.1 HY.out.2
      subst hres
      clear hm hm' hv hv'
      go_wp2_with (first
        | (go_at_call 90; refine (KM.out _).mono ?_; rintro e w2 ⟨rfl, rfl⟩)
        | (go_at_call 91; refine (KI.out _).mono ?_; rintro e w2 ⟨rfl, rfl⟩))
      go_region_held3 (fun w' => w'.cell? ⟨m, 1, none⟩ = some (.pointer (some ⟨t, 0, none⟩)) ∧ w'.cell? ⟨w.heap.size, 0, none⟩ = some (.int .u32 va)) (go_keep)
        (first
        | (go_at_call 86
           refine (KT.out _ (HE2.out.next (Upd.refl _ _).drew)).mono ?_
           rintro e w3 ⟨rfl, hq⟩
           obtain ⟨i1, i2, i3, i4⟩ := (HE2.out.next (Upd.refl _ _).drew).endP hq
           simp only [zf] at i1
           have HI4 := Lib.hid i4
           have k1 : w3.cell? ⟨m, 1, none⟩ = some (.pointer (some ⟨t, 0, none⟩)) := (HE2.out.next (Upd.refl _ _).drew).cellM hq
           have k2 : w3.cell? ⟨w.heap.size, 0, none⟩ = some (.int .u32 va) := (HE2.out.next (Upd.refl _ _).drew).cellB hq
           clear hq i4))
      go_wp2
      exact bodyPost_ret (v := .tuple #[_, _]) (by simp [results, Try.results80, go_sem, Flt.cells, nof, i1, i3]) rfl ⟨rfl, HI4.out _ _ _⟩
    · have hres : R = (y, nof, s) := by rw [HR2.out]; unfold chkF; rw [if_neg hm, if_neg hv, if_neg hk]
      subst hres
      clear hm hm' hv hv'
      cases is <;> cases keep
      · go_wp2_with (first
          | (go_at_call 90; refine (KM.out _).mono ?_; rintro e w2 ⟨rfl, rfl⟩)
          | (go_at_call 91; refine (KI.out _).mono ?_; rintro e w2 ⟨rfl, rfl⟩))
        all_goals exact bodyPost_ret (v := .tuple #[_, _]) (by simp [results, Try.results80, go_sem, Flt.cells, nof, c3, c5, c6, c7]) rfl ⟨rfl, by first | exact HE2.out.end_ (Upd.refl _ _) _ _ _ | exact HE2.out.end_ ((Upd.refl _ _).alloc _) _ _ _ | exact (HE2.out.end_ (Upd.refl _ _) _ _ _).then ((Upd.refl _ _).alloc _).drew⟩
      · exact absurd ⟨rfl, rfl⟩ hk
      · go_wp2_with (first
          | (go_at_call 90; refine (KM.out _).mono ?_; rintro e w2 ⟨rfl, rfl⟩)
          | (go_at_call 91; refine (KI.out _).mono ?_; rintro e w2 ⟨rfl, rfl⟩))
        all_goals exact bodyPost_ret (v := .tuple #[_, _]) (by simp [results, Try.results80, go_sem, Flt.cells, nof, c3, c5, c6, c7]) rfl ⟨rfl, by first | exact HE2.out.end_ (Upd.refl _ _) _ _ _ | exact HE2.out.end_ ((Upd.refl _ _).alloc _) _ _ _ | exact (HE2.out.end_ (Upd.refl _ _) _ _ _).then ((Upd.refl _ _).alloc _).drew⟩
      · go_wp2_with (first
          | (go_at_call 90; refine (KM.out _).mono ?_; rintro e w2 ⟨rfl, rfl⟩)
          | (go_at_call 91; refine (KI.out _).mono ?_; rintro e w2 ⟨rfl, rfl⟩))
        all_goals exact bodyPost_ret (v := .tuple #[_, _]) (by simp [results, Try.results80, go_sem, Flt.cells, nof, c3, c5, c6, c7]) rfl ⟨rfl, by first | exact HE2.out.end_ (Upd.refl _ _) _ _ _ | exact HE2.out.end_ ((Upd.refl _ _).alloc _) _ _ _ | exact (HE2.out.end_ (Upd.refl _ _) _ _ _).then ((Upd.refl _ _).alloc _).drew⟩
end
end Go.Proofs.Ytomiodlipibloaa.F
