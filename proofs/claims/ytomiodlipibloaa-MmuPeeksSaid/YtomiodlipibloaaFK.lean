/- The reference's buffer: an entry taken out, an entry put. -/
import Derived.Test.YtomiodlipibloaaFJ
namespace Go.Proofs.Ytomiodlipibloaa.F
set_option linter.unusedVariables false
set_option linter.unusedSimpArgs false
set_option maxHeartbeats 1000000
set_option maxRecDepth 20000
open Go.RowKit
def flt (s : Ents) (x : Int) : Ents := s.filter (fun p => p.1 != x)
theorem flt_none : ∀ (s : Ents) (x : Int), (∀ p ∈ s, p.1 ≠ x) → flt s x = s := fun s x h => by
  unfold flt
  rw [List.filter_eq_self]
  intro p hp
  simpa using h p hp
theorem flt_drop : ∀ (s : Ents) (x : Int), (s.map (·.1)).Nodup → flt s x = dropE s x
  | [], x, _ => rfl
  | p :: s, x, h => by
    rw [List.map_cons, List.nodup_cons] at h
    by_cases e : p.1 = x
    · have h1 : flt (p :: s) x = flt s x := by unfold flt; rw [List.filter_cons_of_neg (by simp [e])]
      have h2 : dropE (p :: s) x = s := by unfold dropE ix; rw [if_pos e, if_pos (by simp)]; simp
      rw [h1, h2]
      exact flt_none s x (fun q hq hqx => h.1 (by rw [e, ← hqx]; exact List.mem_map_of_mem hq))
    · have h1 : flt (p :: s) x = p :: flt s x := by unfold flt; rw [List.filter_cons_of_pos (by simp [e])]
      have h2 : dropE (p :: s) x = p :: dropE s x := by
        unfold dropE
        have hix : ix (p :: s) x = ix s x + 1 := by rw [ix, if_neg e]
        rw [hix, List.length_cons]
        by_cases hl : ix s x < s.length
        · rw [if_pos (by omega), if_pos hl, List.eraseIdx_cons_succ]
        · rw [if_neg (by omega), if_neg hl]
      rw [h1, h2, flt_drop s x h.2]
theorem flt_take (s : Ents) (x : Int) (k : Nat) (hk : k < s.length) : flt (s.take (k + 1)) x = if (ent s k).1 = x then flt (s.take k) x else flt (s.take k) x ++ [ent s k] := by
  have : s.take (k + 1) = s.take k ++ [ent s k] := by
    rw [List.take_succ_eq_append_getElem hk]; simp [ent, List.getD, hk]
  rw [this]
  unfold flt
  rw [List.filter_append]
  split
  · rename_i h; simp [h]
  · rename_i h; simp [h]
theorem flt_len (s : Ents) (x : Int) : (flt s x).length ≤ s.length := List.length_filter_le _ _
section
variable (t : Nat) (s : Ents) (page : Int) (w : World)
/-- What a change of the reference's buffer leaves. -/
def SPut (w : World) (t : Nat) (v1 v2 : Value) (s' : Ents) (w' : World) : Prop := ∃ u1 u2, RTlb w' t u1 u2 s' ∧ Upd (fun k => k = t ∨ OB v1 k ∨ OB v2 k) w w' ∧ (∀ k, OB u1 k ∨ OB u2 k → OB v1 k ∨ OB v2 k ∨ w.heap.size ≤ k)
theorem sdrop_any (v1 v2 : Value) (hT : RTlb w t v1 v2 s) : Calls Try.prog 74 #[.pointer (some ⟨t, 0, none⟩), .int .u32 page] w fun en w' => en = .returned (.tuple #[]) ∧ SPut w t v1 v2 (dropE s page) w' := by
  have HT := Lib.hid hT
  obtain ⟨ao, c, rfl, hg⟩ := hT.pages.out
  obtain ⟨bo, d, rfl, hg2⟩ := hT.ents.out
  simp only [pgs_len, List.length_map] at hT hg hg2 HT ⊢
  have hc0 := HT.out.head.cell 0
  have h8 : (s.length : Int) ≤ 8 := by have := hT.len; omega
  have H8 : Hid (s.length ≤ 8) := Lib.hid hT.len
  have hlt0 := HT.out.head.lt
  generalize hP : SPut w t (.slice ao s.length c) (.slice bo s.length d) (dropE s page) = P
  have HP := Lib.hid hP
  clear hT hP
  go_enter Try.func74, Try.ntmps74
  go_wp2
  clear hc0
  go_loopw [4, 5, 13] (fun x y i W => ∃ k : Nat, k ≤ s.length ∧ i = .int .i64 k ∧ Hid (OwnU W x (pgs (flt (s.take k) page))) ∧ Hid (OwnU W y ((flt (s.take k) page).map (·.2))) ∧ Hid (Fr w.heap.size x) ∧ Hid (Fr w.heap.size y) ∧ Hid (∀ q, OB x q → ¬ OB y q) ∧ Hid (Upd (fun _ => False) w W)) (fun _ _ i _ => s.length - (intOf i).toNat)
  case atStart => exact ⟨0, Nat.zero_le _, rfl, Lib.hid (OwnU.nil _), Lib.hid (OwnU.nil _), Lib.hid (Fr.nil _), Lib.hid (Fr.nil _), Lib.hid (fun q h => by cases h), Lib.hid (Upd.refl _ _)⟩
  case round =>
    obtain ⟨k, hk, rfl, HO1, HO2, HF1, HF2, HAP, HU⟩ := hrel
    by_cases hlt : k < s.length
    · obtain ⟨g, rfl⟩ := hg (by omega)
      obtain ⟨g2, rfl⟩ := hg2 (by omega)
      have HW := Lib.hid (HT.out.upd HU.out id (fun _ _ => id) (fun _ _ => id))
      have p1 := HW.out.pages
      have p2 := HW.out.ents
      have c0 := HW.out.head.cell 1
      have c1 := OwnU.cell (l := pgs s) (by rw [pgs_len]; exact p1) (i := k) (by rw [pgs_len]; exact hlt)
      have c2 := OwnU.cell (l := s.map (·.2)) (by rw [List.length_map]; exact p2) (i := k) (by rw [List.length_map]; exact hlt)
      rw [pgs_get s k hlt] at c1
      rw [ens_get s k hlt] at c2
      have tl := HW.out.head.lt
      have gl1 := p1.lt
      have gl2 := p2.lt
      have hS := flt_take s page k hlt
      clear p1 p2
      by_cases he : (ent s k).1 = page
      · have he' : ((ent s k).1 != page) = false := by simpa using he
        rw [if_pos he] at hS
        have HS := Lib.hid hS
        clear hS he
        generalize (ent s k).1 = y1 at *
        go_wp2
        exact ⟨⟨k + 1, hlt, by go_num, by rw [HS.out]; exact HO1, by rw [HS.out]; exact HO2, HF1, HF2, HAP, HU⟩, by simp [intOf]; omega⟩
      · have he' : ((ent s k).1 != page) = true := by simpa using he
        rw [if_neg he] at hS
        have HS1 : Hid (pgs (flt (s.take (k + 1)) page) = pgs (flt (s.take k) page) ++ [(ent s k).1]) := Lib.hid (by rw [hS]; simp [pgs])
        have HS2 : Hid ((flt (s.take (k + 1)) page).map (·.2) = (flt (s.take k) page).map (·.2) ++ [(ent s k).2]) := Lib.hid (by rw [hS]; simp)
        have HLN : Hid ((pgs (flt (s.take k) page)).length ≤ 8 ∧ ((flt (s.take k) page).map (·.2)).length ≤ 8) := Lib.hid (by
          have h1 := flt_len (s.take k) page
          have h2 : (s.take k).length ≤ 8 := by rw [List.length_take]; have := H8.out; omega
          rw [pgs_len, List.length_map]; omega)
        clear hS he
        generalize (ent s k).1 = y1 at *
        generalize (ent s k).2 = y2 at *
        go_wp2_with (at_builtin; go_must (refine wpList_appU rfl (.tmp 21) (.tmp 23) rfl _ (pgs (flt (s.take k) page)) y1 wr.heap.size rfl rfl ?_ ?_ ?_ ?_))
        · exact Blk.new wr _ 23
        · exact own_alloc HO1.out _
        · have := HLN.out.1; omega
        · intro x' w1 own1 up1 hv1
          have HX1 : Hid (OwnU w1 x' (pgs (flt (s.take (k + 1)) page))) := Lib.hid (by rw [HS1.out]; exact own1)
          have HY1 : Hid (OwnU w1 u5 ((flt (s.take k) page).map (·.2))) := Lib.hid ((HO2.out.alloc _).upd up1 (fun q hq h => HAP.out q h hq))
          have HFX : Hid (Fr w.heap.size x') := Lib.hid (fun q hq => by
            rcases hv1 q hq with h | h
            · exact HF1.out q h
            · have h1 := HU.out.size; have h : wr.heap.size + 1 ≤ q := h; omega)
          have HU1 : Hid (Upd (fun _ => False) w w1) := Lib.hid ((HU.out.alloc _).trans up1 (fun q hq h => by have := HF1.out q h; omega))
          have HA1 : Hid (∀ q, OB x' q → ¬ OB u5 q) := Lib.hid (fun q hq hy => by
            rcases hv1 q hq with h | h
            · exact HAP.out q h hy
            · have := own_lt HO2.out q hy; have h : wr.heap.size + 1 ≤ q := h; omega)
          have d0 := cellS HU1.out id hlt0 (HT.out.head.cell 1)
          have d2 : w1.cell? ⟨g2, k, none⟩ = some (.int .u32 y2) := by
            have hw : Upd (fun _ => False) w w1 := HU1.out
            have hg2l : g2 < w.heap.size := HT.out.ents.lt
            rw [← c2]
            rw [World.cell?_of_block (a := ⟨g2, k, none⟩) (hw.block g2 hg2l id), World.cell?_of_block (a := ⟨g2, k, none⟩) (HU.out.block g2 hg2l id)]
          have d3 : t < w1.heap.size := Nat.lt_of_lt_of_le hlt0 HU1.out.size
          have d4 : g2 < w1.heap.size := Nat.lt_of_lt_of_le HT.out.ents.lt HU1.out.size
          clear own1 up1 hv1 c0 c1 c2 tl gl1 gl2
          go_wp2_with (at_builtin; go_must (refine wpList_appU rfl (.tmp 25) (.tmp 33) rfl _ ((flt (s.take k) page).map (·.2)) y2 w1.heap.size rfl rfl ?_ ?_ ?_ ?_))
          · exact Blk.new w1 _ 23
          · exact own_alloc HY1.out _
          · have := HLN.out.2; omega
          · intro y' w2 own2 up2 hv2
            have HX2 : Hid (OwnU w2 x' (pgs (flt (s.take (k + 1)) page))) := Lib.hid ((HX1.out.alloc _).upd up2 (fun q hq h => HA1.out q hq h))
            have HY2 : Hid (OwnU w2 y' ((flt (s.take (k + 1)) page).map (·.2))) := Lib.hid (by rw [HS2.out]; exact own2)
            have HFY : Hid (Fr w.heap.size y') := Lib.hid (fun q hq => by
              rcases hv2 q hq with h | h
              · exact HF2.out q h
              · have h1 := HU1.out.size; have h : w1.heap.size + 1 ≤ q := h; omega)
            have HU2 : Hid (Upd (fun _ => False) w w2) := Lib.hid ((HU1.out.alloc _).trans up2 (fun q hq h => by have := HF2.out q h; omega))
            have HA2 : Hid (∀ q, OB x' q → ¬ OB y' q) := Lib.hid (fun q hq hy => by
              rcases hv2 q hy with h | h
              · exact HA1.out q hq h
              · have := own_lt HX1.out q hq; have h : w1.heap.size + 1 ≤ q := h; omega)
            clear own2 up2 hv2
            go_wp2
            exact ⟨⟨k + 1, hlt, by go_num, HX2, HY2, HFX, HFY, HA2, HU2⟩, by simp [intOf]; omega⟩
    · obtain rfl : k = s.length := by omega
      have HE : Hid (flt (s.take s.length) page = dropE s page) := Lib.hid (by rw [List.take_length]; exact flt_drop s page HT.out.nd)
      rw [HE.out] at HO1 HO2
      have hd := HT.out.head.upd HU.out id
      have c0 := hd.cell 0
      have c1 := hd.cell 1
      have f0 := hd.frozen 0
      have f1 := hd.frozen 1
      have HH := Lib.hid hd
      clear hd
      obtain ⟨a4, c4, rfl, _⟩ := HO1.out.out
      obtain ⟨a5, c5, rfl, _⟩ := HO2.out.out
      have h52 := HO2.out
      rw [List.length_map] at h52
      have h53 := HAP.out
      have h54 := HF2.out
      rw [List.length_map] at h53 h54
      have HO2 := Lib.hid h52
      have HAP := Lib.hid h53
      have HF2 := Lib.hid h54
      clear h52 h53 h54
      go_wp2
      go_end0
      refine ⟨rfl, ?_⟩
      rw [← HP.out]
      have n1 : ¬ OB (.slice a4 (pgs (dropE s page)).length c4) t := HO1.out.ne HH.out (by decide)
      have n2 : ¬ OB (.slice a5 (dropE s page).length c5) t := HO2.out.ne HH.out (by decide)
      have hU2 : ∀ a b, Upd (fun q => q = t) wr ((wr.setCell ⟨t, 0, none⟩ a).setCell ⟨t, 1, none⟩ b) := fun a b => Upd.set2 (Upd.set1 _ _ _ _) _ _
      refine ⟨_, _, ⟨(HH.out.set 0 _).set 1 _, HO1.out.upd (hU2 _ _) (fun q hq e => n1 (e ▸ hq)), HO2.out.upd (hU2 _ _) (fun q hq e => n2 (e ▸ hq)), HAP.out, fit_drop s page HT.out.fit, len_drop s page HT.out.len, nd_drop s page HT.out.nd⟩, ?_, ?_⟩
      · exact (Upd.mono HU.out (fun _ _ h => h.elim)).trans (hU2 _ _) (fun _ _ h => .inl h)
      · rintro q (hq | hq)
        · exact .inr (.inr (HF1.out q hq))
        · exact .inr (.inr (HF2.out q hq))
theorem sput_hit (v1 v2 : Value) (e : Int) (hT : RTlb w t v1 v2 s) (h0 : 0 ≤ page) (h1 : page < 4294967296) (h2 : 0 ≤ e) (h3 : e < 4294967296) (hi : ix s page < s.length) :
    Calls Try.prog 62 #[.pointer (some ⟨t, 0, none⟩), .int .u32 page, .int .u32 e] w fun en w' => en = .returned (.tuple #[]) ∧ SPut w t v1 v2 (putE s page e) w' := by
  have KA := Lib.hid (sat_any t s page w v1 v2 hT)
  have HT := Lib.hid hT
  obtain ⟨bo, d, rfl, hg2⟩ := hT.ents.out
  simp only [List.length_map] at hT hg2 HT KA ⊢
  obtain ⟨g, rfl⟩ := hg2 (by omega)
  have ha : atF s page = (ix s page : Nat) := by unfold atF; rw [if_pos hi]
  rw [ha] at KA
  have hp : putE s page e = s.set (ix s page) (page, e) := by unfold putE; rw [if_pos hi]
  have HF : Hid (SPut w t v1 (.slice (some ⟨g, 0, none⟩) s.length d) (putE s page e) (w.setCell ⟨g, ix s page, none⟩ (.int .u32 e))) := Lib.hid (by
    have n2 : ¬ OB (.slice (some ⟨g, 0, none⟩) s.length d) t := hT.ents.ne hT.head (by decide)
    have htg : t ≠ g := fun h => n2 (by rw [h]; rfl)
    have hU : Upd (fun k => k = g) w (w.setCell ⟨g, ix s page, none⟩ (.int .u32 e)) := Upd.set1 _ _ _ _
    refine ⟨v1, .slice (some ⟨g, 0, none⟩) s.length d, ⟨hT.head.upd hU htg, ?_, ?_, hT.apart, fit_put s page e hT.fit h0 h1 h2 h3, len_put s page e hT.len, nd_put s page e hT.nd⟩, Upd.mono hU (fun _ _ h => .inr (.inr (by rw [h]; rfl))), fun q hq => hq.elim .inl (fun h => .inr (.inl h))⟩
    · have := hT.pages.upd hU (fun q hq e => hT.apart q hq (by rw [e]; rfl))
      rw [hp]
      unfold pgs
      rw [map_set_same s _ page e hi (ix_at s page hi)]
      exact this
    · have := hT.ents
      unfold OwnU at this ⊢
      rw [List.length_map] at this
      have h4 := own_set this (ix s page) (.int .u32 e)
      rw [hp, List.map_set, List.length_set, List.length_map]
      rw [show uc ((s.map (·.2)).set (ix s page) e) = (uc (s.map (·.2))).set (ix s page) (.int .u32 e) by simp [uc, List.map_set]]
      exact h4)
  have hc0 := hT.head.cell 1
  have hent := OwnU.cell (l := s.map (·.2)) (by rw [List.length_map]; exact hT.ents) (i := ix s page) (by rw [List.length_map]; exact hi)
  have hfr : w.frozen? ⟨g, ix s page, none⟩ = false := by
    have := hT.ents
    unfold OwnU at this
    rw [List.length_map] at this
    obtain ⟨cur, hB, _⟩ := own_some' this
    exact hB.frozen _
  have hi' : (ix s page : Int) < s.length := by omega
  have h8 : (s.length : Int) ≤ 8 := by have := hT.len; omega
  clear ha hp hT hg2 h0 h1 h2 h3 hi
  generalize putE s page e = s' at *
  generalize (s.map (·.2)).getD (ix s page) 0 = en at *
  generalize ix s page = i at *
  go_enter Try.func62, Try.ntmps62
  go_wp2_with (go_at_call 76; refine (KA.out).mono ?_; rintro e w' ⟨rfl, rfl⟩)
  exact bodyPost_ret (v := .tuple #[]) (by simp [results, Try.results62, go_sem]) rfl ⟨rfl, HF.out⟩
theorem sput_room (v1 v2 : Value) (e : Int) (hT : RTlb w t v1 v2 s) (h0 : 0 ≤ page) (h1 : page < 4294967296) (h2 : 0 ≤ e) (h3 : e < 4294967296) (hi : ¬ ix s page < s.length) :
    Calls Try.prog 62 #[.pointer (some ⟨t, 0, none⟩), .int .u32 page, .int .u32 e] w fun en w' => en = .returned (.tuple #[]) ∧ SPut w t v1 v2 (putE s page e) w' := by
  have KA := Lib.hid (sat_any t s page w v1 v2 hT)
  have HT := Lib.hid hT
  have ha : atF s page = -1 := by unfold atF; rw [if_neg hi]
  rw [ha] at KA
  obtain ⟨s1, hs1⟩ : ∃ s1, s1 = (if s.length = 8 then s.eraseIdx 0 else s) := ⟨_, rfl⟩
  have hp : putE s page e = s1 ++ [(page, e)] := by unfold putE; rw [if_neg hi, hs1]
  have HX : Hid (Fit (s1 ++ [(page, e)]) ∧ (s1 ++ [(page, e)]).length ≤ 8 ∧ ((s1 ++ [(page, e)]).map (·.1)).Nodup) := Lib.hid (by
    rw [← hp]; exact ⟨fit_put s page e hT.fit h0 h1 h2 h3, len_put s page e hT.len, nd_put s page e hT.nd⟩)
  obtain ⟨ao, c, rfl, hg⟩ := hT.pages.out
  simp only [pgs_len] at hT hg HT KA ⊢
  have hc0 := HT.out.head.cell 0
  have h8 : (s.length : Int) ≤ 8 := by have := hT.len; omega
  have hlt0 := HT.out.head.lt
  rw [hp]
  have HS1 := Lib.hid hs1
  clear ha hp hT h0 h1 h2 h3 hi hs1
  generalize hP : SPut w t (.slice ao s.length c) v2 (s1 ++ [(page, e)]) = P
  have HP := Lib.hid hP
  clear hP
  go_enter Try.func62, Try.ntmps62
  go_upto_if 24 with (go_at_call 76; refine (KA.out).mono ?_; rintro e w' ⟨rfl, rfl⟩)
  go_cut [6] from 7 (fun i W => Hid (SPut w' t (.slice ao s.length c) v2 s1 W))
  case first =>
    by_cases hl : s.length = 8
    · have e1 : s1 = dropE s (ent s 0).1 := by
        have := HS1.out
        rw [if_pos hl] at this
        rw [this]
        unfold dropE
        have : ix s (ent s 0).1 = 0 := ix_eq s _ 0 (by omega) (fun j hj => by omega) (.inr rfl)
        rw [this, if_pos (by omega)]
      obtain ⟨g, rfl⟩ := hg (by omega)
      have hp := HT.out.pages
      rw [← pgs_len s] at hp
      have c1 := hp.cell (i := 0) (by rw [pgs_len]; omega)
      rw [pgs_get s 0 (by omega)] at c1
      have KD := Lib.hid (sdrop_any t s (ent s 0).1 w' _ v2 HT.out)
      rw [← e1] at KD
      have hl' : (s.length : Int) = 8 := by omega
      have HL := Lib.hid hl
      clear hp e1 hl
      generalize (ent s 0).1 = y at *
      go_wp2_with (go_at_call 74; refine (KD.out).mono ?_; rintro e w2 ⟨rfl, hq⟩; have HQ := Lib.hid hq; clear hq)
      all_goals go_meet
      all_goals exact HQ
    · have hl' : ((s.length : Int) == 8) = false := by rw [beq_eq_false_iff_ne]; omega
      have HQ : Hid (SPut w' t (.slice ao s.length c) v2 s1 w') := Lib.hid (by
        have := HS1.out
        rw [if_neg hl] at this
        rw [this]
        exact ⟨_, _, HT.out, Upd.refl _ _, fun k hk => hk.elim .inl (fun h => .inr (.inl h))⟩)
      clear hl
      go_wp2
      go_meet
      exact HQ
  case rest =>
    obtain ⟨u1, u2, hR, hU, hv⟩ := hcut.out
    clear hcut
    have HR := Lib.hid hR
    have HU := Lib.hid hU
    have HV := Lib.hid hv
    obtain ⟨a1, q1, rfl, _⟩ := hR.pages.out
    obtain ⟨a2, q2, rfl, _⟩ := hR.ents.out
    simp only [pgs_len, List.length_map] at hR HR HV
    clear hc0
    have d0 := hR.head.cell 0
    have d1 := hR.head.cell 1
    have df0 := hR.head.frozen 0
    have df1 := hR.head.frozen 1
    have dl := hR.head.lt
    have hp1 := hR.pages
    have hp2 := hR.ents
    have n1 := hp1.ne hR.head (by decide)
    have n2 := hp2.ne hR.head (by decide)
    have HP1 := Lib.hid hp1
    have HP2 := Lib.hid hp2
    have HN1 := Lib.hid n1
    have HN2 := Lib.hid n2
    have hl7 : s1.length ≤ 8 := hR.len
    have HL7 := Lib.hid hl7
    clear hR hp1 hp2 n1 n2 hU hv hl7
    go_wp2_with (at_builtin; go_must (refine wpList_appU rfl (.tmp 37) (.tmp 39) rfl _ (pgs s1) page wc.heap.size rfl rfl ?_ ?_ ?_ ?_))
    · exact Blk.new wc _ 23
    · exact HP1.out.alloc _
    · rw [pgs_len]; have := HL7.out; omega
    · intro x' w1 own1 up1 hv1
      obtain ⟨a3, q3, rfl, _⟩ := own1.out
      have hh1 := (HR.out.head.alloc (.cells #[.int .u32 page] 23)).upd up1 HN1.out
      have e0 := hh1.cell 0
      have e1 := hh1.cell 1
      have f0 := hh1.frozen 0
      have f1 := hh1.frozen 1
      have el := hh1.lt
      have HO1 := Lib.hid own1
      have HH1 := Lib.hid hh1
      have HY1 := Lib.hid ((HP2.out.alloc (.cells #[.int .u32 page] 23)).upd up1 (fun q hq h => HR.out.apart q h hq))
      have HU1 := Lib.hid ((HU.out.alloc (.cells #[.int .u32 page] 23)).trans up1 (S := fun k => k = t ∨ OB (.slice ao s.length c) k ∨ OB v2 k) (fun q hq h => by
        rcases HV.out q (.inl h) with h | h | h
        · exact .inr (.inl h)
        · exact .inr (.inr h)
        · omega))
      have HV1 : Hid (∀ q, OB (.slice a3 (pgs s1 ++ [page]).length q3) q → (OB (.slice a1 s1.length q1) q ∨ wc.heap.size + 1 ≤ q)) := Lib.hid (fun q hq => by
        rcases hv1 q hq with h | h
        · exact .inl h
        · exact .inr h)
      clear own1 up1 hv1 hh1 d0 d1 df0 df1 dl
      generalize hN : (pgs s1 ++ [page]).length = N at *
      have HN := Lib.hid hN
      clear hN
      go_wp2_with (at_builtin; go_must (refine wpList_appU rfl (.tmp 47) (.tmp 49) rfl (.slice a2 s1.length q2) (s1.map (·.2)) e w1.heap.size rfl rfl ?_ ?_ ?_ ?_))
      · exact Blk.new_at (w1.setCell ⟨t, 0, none⟩ (.slice a3 N q3)) _ (by simp) _ 23
      · exact (HY1.out.upd (Upd.set1 w1 t 0 (.slice a3 N q3)) (fun q hq h => HN2.out (h ▸ hq))).alloc _
      · rw [List.length_map]; have := HL7.out; omega
      · intro y' w2 own2 up2 hv2
        obtain ⟨a4, q4, rfl, _⟩ := own2.out
        have hh2 := ((HH1.out.set 0 (.slice a3 N q3)).alloc (.cells #[.int .u32 e] 23)).upd up2 HN2.out
        have g0 := hh2.cell 0
        have g1 := hh2.cell 1
        have gf := hh2.frozen 1
        have gl := hh2.lt
        have HO2 := Lib.hid own2
        have HH2 := Lib.hid hh2
        have hn3 : ¬ OB (.slice a3 N q3) t := by have := HO1.out.ne HH1.out (by decide); exact this
        have hA3 : ∀ q, OB (.slice a3 N q3) q → ¬ OB (.slice a2 s1.length q2) q := fun q hq h => by
          rcases HV1.out q hq with h' | h'
          · exact HR.out.apart q h' h
          · have := own_lt HP2.out q h; omega
        have HX2 := Lib.hid (((HO1.out.upd (Upd.set1 w1 t 0 (.slice a3 N q3)) (fun q hq h => hn3 (h ▸ hq))).alloc (.cells #[.int .u32 e] 23)).upd up2 (fun q hq h => hA3 q hq h))
        have HA := Lib.hid (show ∀ q, OB (.slice a3 N q3) q → ¬ OB (.slice a4 (s1.map (·.2) ++ [e]).length q4) q from fun q hq h => by
          rcases hv2 q h with h' | h'
          · exact hA3 q hq h'
          · have h1 := own_lt HO1.out q hq
            have h2 : (w1.setCell ⟨t, 0, none⟩ (.slice a3 N q3)).heap.size + 1 ≤ q := by first | exact h' | (have := h'; simpa using this)
            have h3 : (w1.setCell ⟨t, 0, none⟩ (.slice a3 N q3)).heap.size = w1.heap.size := by simp
            omega)
        have HU2 := Lib.hid (((HU1.out.setCell (p := ⟨t, 0, none⟩) (.inl (.inl rfl)) (.slice a3 N q3)).alloc (.cells #[.int .u32 e] 23)).trans up2 (S := fun k => k = t ∨ OB (.slice ao s.length c) k ∨ OB v2 k) (fun q hq h => by
          rcases HV.out q (.inr h) with h | h | h
          · exact .inr (.inl h)
          · exact .inr (.inr h)
          · omega))
        have HV2 := Lib.hid (show ∀ q, OB (.slice a4 (s1.map (·.2) ++ [e]).length q4) q → OB (.slice a2 s1.length q2) q ∨ w1.heap.size ≤ q from fun q hq => by
          rcases hv2 q hq with h | h
          · exact .inl h
          · right
            have h2 : (w1.setCell ⟨t, 0, none⟩ (.slice a3 N q3)).heap.size + 1 ≤ q := by first | exact h | (have := h; simpa using this)
            have h3 : (w1.setCell ⟨t, 0, none⟩ (.slice a3 N q3)).heap.size = w1.heap.size := by simp
            omega)
        clear own2 up2 hv2 hh2 e0 e1 f0 f1 el
        generalize hM : (s1.map (·.2) ++ [e]).length = M at *
        clear hM
        go_wp2
        go_end0
        refine ⟨rfl, ?_⟩
        rw [← HP.out]
        have n4 : ¬ OB (.slice a4 M q4) t := HO2.out.ne HH2.out (by decide)
        have hUs := Upd.set1 w2 t 1 (.slice a4 M q4)
        refine ⟨_, _, ⟨HH2.out.set 1 _, ?_, ?_, HA.out, HX.out.1, HX.out.2.1, HX.out.2.2⟩, HU2.out.setCell (p := ⟨t, 1, none⟩) (.inl (.inl rfl)) _, ?_⟩
        · have := HX2.out.upd hUs (fun q hq h => hn3 (h ▸ hq))
          rw [show pgs (s1 ++ [(page, e)]) = pgs s1 ++ [page] by simp [pgs]]
          exact this
        · have := HO2.out.upd hUs (fun q hq h => n4 (h ▸ hq))
          rw [List.map_append]
          exact this
        · rintro q (hq | hq)
          · rcases HV1.out q hq with h | h
            · exact HV.out q (.inl h)
            · have := HU.out.size; exact .inr (.inr (by omega))
          · rcases HV2.out q hq with h | h
            · exact HV.out q (.inr h)
            · have := HU1.out.size; exact .inr (.inr (by omega))
theorem sput_ent (v1 v2 : Value) (e : Int) (hT : RTlb w t v1 v2 s) (h0 : 0 ≤ page) (h1 : page < 4294967296) (h2 : 0 ≤ e) (h3 : e < 4294967296) :
    Calls Try.prog 62 #[.pointer (some ⟨t, 0, none⟩), .int .u32 page, .int .u32 e] w fun en w' => en = .returned (.tuple #[]) ∧ SPut w t v1 v2 (putE s page e) w' := by
  by_cases hi : ix s page < s.length
  · exact sput_hit t s page w v1 v2 e hT h0 h1 h2 h3 hi
  · exact sput_room t s page w v1 v2 e hT h0 h1 h2 h3 hi
end
end Go.Proofs.Ytomiodlipibloaa.F
