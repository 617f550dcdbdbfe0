/- The buffer of translations: asked, filled, emptied. -/
import Derived.Test.YtomiodlipibloaaFH
namespace Go.Proofs.Ytomiodlipibloaa.F
set_option linter.unusedVariables false
set_option linter.unusedSimpArgs false
set_option maxHeartbeats 1000000
set_option maxRecDepth 20000
open Go.RowKit
theorem Blk.new_at (W : World) (g : Nat) (h : W.heap.size = g) (cs : Array Value) (T : TypeId) : Blk (W.alloc (.cells cs T)) g cs T := h ▸ Blk.new W cs T
def getE (s : Ents) (p : Int) : Int × Bool := if ix s p < s.length then ((ent s (ix s p)).2, true) else (0, false)
def putE (s : Ents) (p e : Int) : Ents := if ix s p < s.length then s.set (ix s p) (p, e) else (if s.length = 8 then s.eraseIdx 0 else s) ++ [(p, e)]
def dropE (s : Ents) (p : Int) : Ents := if ix s p < s.length then s.eraseIdx (ix s p) else s
theorem ix_mem (s : Ents) (p : Int) : ix s p < s.length ↔ p ∈ s.map (·.1) := by
  induction s with
  | nil => simp [ix]
  | cons a s ih =>
    simp only [ix, List.length_cons, List.map_cons, List.mem_cons]
    by_cases e : a.1 = p
    · rw [if_pos e]; simp [e]
    · rw [if_neg e]
      constructor
      · intro h; exact .inr (ih.1 (by omega))
      · rintro (h | h)
        · exact absurd h.symm e
        · have := ih.2 h; omega
theorem map_set_same (s : Ents) (i : Nat) (p e : Int) (hi : i < s.length) (h : (ent s i).1 = p) : (s.set i (p, e)).map (·.1) = s.map (·.1) := by
  rw [List.map_set]
  apply List.ext_getElem
  · simp
  · intro j h1 h2
    rw [List.getElem_set]
    split
    · rename_i hij
      subst hij
      simp [← h, ent, List.getD, hi]
    · rfl
theorem nd_put (s : Ents) (p e : Int) (h : (s.map (·.1)).Nodup) : ((putE s p e).map (·.1)).Nodup := by
  unfold putE
  by_cases hi : ix s p < s.length
  · rw [if_pos hi, map_set_same s _ p e hi (ix_at s p hi)]; exact h
  · rw [if_neg hi]
    have hp : p ∉ s.map (·.1) := fun hm => hi ((ix_mem s p).2 hm)
    have key : ∀ r : Ents, (r.map (·.1)).Nodup → p ∉ r.map (·.1) → ((r ++ [(p, e)]).map (·.1)).Nodup := fun r h1 h2 => by
      rw [List.map_append, List.nodup_append]
      refine ⟨h1, by simp, fun a ha b hb => ?_⟩
      simp at hb
      rintro rfl
      exact h2 (hb ▸ ha)
    split
    · have hsub : (s.eraseIdx 0).map (·.1) = (s.map (·.1)).drop 1 := by cases s <;> simp
      refine key _ ?_ ?_
      · rw [hsub]; exact h.sublist (List.drop_sublist _ _)
      · rw [hsub]; exact fun hm => hp (List.mem_of_mem_drop hm)
    · exact key _ h hp
theorem nd_drop (s : Ents) (p : Int) (h : (s.map (·.1)).Nodup) : ((dropE s p).map (·.1)).Nodup := by
  unfold dropE
  split
  · exact h.sublist ((List.eraseIdx_sublist s _).map _)
  · exact h
theorem fit_put (s : Ents) (p e : Int) (h : Fit s) (h0 : 0 ≤ p) (h1 : p < 4294967296) (h2 : 0 ≤ e) (h3 : e < 4294967296) : Fit (putE s p e) := by
  unfold putE
  split
  · intro x hx
    rcases List.mem_or_eq_of_mem_set hx with hx | rfl
    · exact h x hx
    · exact ⟨⟨h0, h1⟩, h2, h3⟩
  · intro x hx
    rcases List.mem_append.1 hx with hx | hx
    · split at hx
      · exact h x (List.mem_of_mem_eraseIdx hx)
      · exact h x hx
    · simp at hx; subst hx; exact ⟨⟨h0, h1⟩, h2, h3⟩
theorem fit_drop (s : Ents) (p : Int) (h : Fit s) : Fit (dropE s p) := by
  unfold dropE
  split
  · exact fun x hx => h x (List.mem_of_mem_eraseIdx hx)
  · exact h
theorem len_put (s : Ents) (p e : Int) (h : s.length ≤ 8) : (putE s p e).length ≤ 8 := by
  unfold putE
  split
  · simpa using h
  · split
    · rw [List.length_append, List.length_eraseIdx]; simp; split <;> omega
    · simp; omega
theorem len_drop (s : Ents) (p : Int) (h : s.length ≤ 8) : (dropE s p).length ≤ 8 := by
  unfold dropE
  split
  · rw [List.length_eraseIdx]; split <;> omega
  · exact h
section
variable (t : Nat) (v : Value) (s : Ents) (page : Int) (w : World)
theorem tget_any (hT : Tlb w t v s) : Calls Try.prog 84 #[.pointer (some ⟨t, 0, none⟩), .int .u32 page] w fun e w' => e = .returned (.tuple #[.int .u32 (getE s page).1, .bool (getE s page).2]) ∧ Upd (fun _ => False) w w' := by
  have KA := Lib.hid (at_any page w t v s hT)
  have HT := Lib.hid hT
  have hlt := hT.head.lt
  obtain ⟨ao, c, rfl, hg⟩ := hT.out
  clear hT
  unfold getE
  by_cases hi : ix s page < s.length
  · obtain ⟨g, rfl⟩ := hg (by omega)
    have ha : atF s page = (ix s page : Nat) := by unfold atF; rw [if_pos hi]
    rw [ha] at KA
    rw [if_pos hi]
    have hent := HT.out.entry hi
    have hgl := HT.out.lt
    have h0 := HT.out.head.cell 0
    have hh : t < w.heap.size := hlt
    have hi' : (ix s page : Int) < s.length := by omega
    have H8 := HT.out.len
    have h8 : (s.length : Int) ≤ 8 := by omega
    clear ha H8
    generalize ix s page = i at *
    generalize (ent s i).2 = en at *
    go_enter Try.func84, Try.ntmps84
    go_wp2_with (go_at_call 78; refine (KA.out).mono ?_; rintro e w' ⟨rfl, hu⟩; have HU := Lib.hid hu; have f0 := cellS hu id hlt h0; have f1 := cellS hu id hgl hent; clear hu)
    exact bodyPost_ret (v := .tuple #[_, _]) (by simp [results, Try.results84, go_sem]) rfl ⟨rfl, HU.out⟩
  · have ha : atF s page = -1 := by unfold atF; rw [if_neg hi]
    rw [ha] at KA
    rw [if_neg hi]
    clear hi ha hg
    go_enter Try.func84, Try.ntmps84
    go_wp2_with (go_at_call 78; refine (KA.out).mono ?_; rintro e w' ⟨rfl, hu⟩; have HU := Lib.hid hu; clear hu)
    exact bodyPost_ret (v := .tuple #[_, _]) (by simp [results, Try.results84, go_sem]) rfl ⟨rfl, HU.out⟩
theorem tclear_any (hT : Tlb w t v s) : Calls Try.prog 57 #[.pointer (some ⟨t, 0, none⟩)] w fun e w' => e = .returned (.tuple #[]) ∧ Tlb w' t (.slice none 0 0) [] ∧ Upd (fun k => k = t) w w' := by
  have h0 := hT.head.cell 0
  have hf := hT.head.frozen 0
  have HR : Hid (Tlb (w.setCell ⟨t, 0, none⟩ (.slice none 0 0)) t (.slice none 0 0) []) := Lib.hid ⟨hT.head.set 0 _, ⟨rfl, .inl ⟨rfl, rfl⟩⟩, fun x hx => by (cases hx), by simp, by simp⟩
  clear hT
  go_enter Try.func57, Try.ntmps57
  go_wp2
  go_end0
  exact ⟨rfl, HR.out, Upd.set1 _ _ _ _⟩
theorem tnew_any : Calls Try.prog 56 #[] w fun e w' => e = .returned (.pointer (some ⟨w.heap.size, 0, none⟩)) ∧ Tlb w' w.heap.size (.slice none 0 0) [] ∧ Upd (fun _ => False) w w' := by
  go_enter Try.func56, Try.ntmps56
  go_wp2
  go_ret
  exact ⟨rfl, ⟨Blk.new w _ 132, ⟨rfl, .inl ⟨rfl, rfl⟩⟩, fun x hx => by (cases hx), by simp, by simp⟩, (Upd.refl _ w).alloc _⟩
theorem sc_set : ∀ (s : Ents) (i : Nat) (p e : Int), i < s.length → (ent s i).1 = p → sc (s.set i (p, e)) = (sc s).set (i * 2 + 1) (.int .u32 e)
  | a :: s, 0, p, e, _, h => by
    have : a.1 = p := h
    subst this
    rfl
  | a :: s, i + 1, p, e, hi, h => by
    rw [ent_succ] at h
    rw [List.set_cons_succ, sc, sc, sc_set s i p e (by simpa using hi) h, show (i + 1) * 2 + 1 = (i * 2 + 1) + 1 + 1 by omega, List.set_cons_succ, List.set_cons_succ]
/-- What a buffer's change leaves. -/
def TPut (w : World) (t : Nat) (v : Value) (s' : Ents) (w' : World) : Prop := ∃ v', Tlb w' t v' s' ∧ Upd (fun k => k = t ∨ OB v k) w w' ∧ (∀ k, OB v' k → OB v k ∨ w.heap.size ≤ k)
theorem tput_hit (e : Int) (hT : Tlb w t v s) (h0 : 0 ≤ page) (h1 : page < 4294967296) (h2 : 0 ≤ e) (h3 : e < 4294967296) (hi : ix s page < s.length) :
    Calls Try.prog 86 #[.pointer (some ⟨t, 0, none⟩), .int .u32 page, .int .u32 e] w fun en w' => en = .returned (.tuple #[]) ∧ TPut w t v (putE s page e) w' := by
  have KA := Lib.hid (at_any page w t v s hT)
  have HT := Lib.hid hT
  have hlt := hT.head.lt
  obtain ⟨ao, c, rfl, hg⟩ := hT.out
  obtain ⟨g, rfl⟩ := hg (by omega)
  have ha : atF s page = (ix s page : Nat) := by unfold atF; rw [if_pos hi]
  rw [ha] at KA
  have HF : Hid (∀ W, Upd (fun _ => False) w W → TPut w t (.slice (some ⟨g, 0, none⟩) s.length c) (putE s page e) (W.setCell ⟨g, ix s page * 2 + 1, none⟩ (.int .u32 e))) := Lib.hid (fun W hu => by
    have hT2 := HT.out.upd hu id (fun _ _ => id)
    have hne : ¬ OB (.slice (some ⟨g, 0, none⟩) s.length c) t := own_ne hT2.row hT2.head (by decide)
    have htg : t ≠ g := fun h => hne (by rw [h]; rfl)
    have hp : putE s page e = s.set (ix s page) (page, e) := by unfold putE; rw [if_pos hi]
    refine ⟨_, ⟨hT2.head.far htg _, ?_, fit_put s page e hT2.fit h0 h1 h2 h3, len_put s page e hT2.len, nd_put s page e hT2.nd⟩, ?_, fun k hk => .inl hk⟩
    · have := own_set hT2.row (ix s page * 2 + 1) (.int .u32 e)
      rw [hp, sc_set s _ page e hi (ix_at s page hi), List.length_set]
      exact this
    · exact (Upd.mono hu (fun _ _ h => h.elim)).setCell (p := ⟨g, _, none⟩) (.inl (.inr rfl)) _)
  have hent := hT.entry hi
  have hfr : w.frozen? ⟨g, ix s page * 2 + 1, none⟩ = false := by obtain ⟨cur, hB, _⟩ := own_some' hT.row; exact hB.frozen _
  have hgl := HT.out.lt
  have hc0 := HT.out.head.cell 0
  have hi' : (ix s page : Int) < s.length := by omega
  have H8 := HT.out.len
  have h8 : (s.length : Int) ≤ 8 := by omega
  have HFR : Hid (∀ W, Upd (fun _ => False) w W → W.frozen? ⟨g, ix s page * 2 + 1, none⟩ = false) := Lib.hid (fun W hu => by obtain ⟨cur, hB, _⟩ := own_some' hT.row; exact (hB.upd hu id).frozen _)
  clear ha H8 hT hg h0 h1 h2 h3
  generalize hq : putE s page e = s' at *
  generalize (ent s (ix s page)).2 = en at *
  clear hq
  generalize ix s page = i at *
  go_enter Try.func86, Try.ntmps86
  go_wp2_with (go_at_call 78; refine (KA.out).mono ?_; rintro e w' ⟨rfl, hu⟩; have HU := Lib.hid hu; have f0 := cellS hu id hlt hc0; have f1 := cellS hu id hgl hent; have f2 := HFR.out _ hu; clear hu)
  go_end0
  exact ⟨rfl, HF.out _ HU.out⟩
theorem tput_room (e : Int) (hT : Tlb w t v s) (h0 : 0 ≤ page) (h1 : page < 4294967296) (h2 : 0 ≤ e) (h3 : e < 4294967296) (hi : ¬ ix s page < s.length) (h8 : s.length < 8) :
    Calls Try.prog 86 #[.pointer (some ⟨t, 0, none⟩), .int .u32 page, .int .u32 e] w fun en w' => en = .returned (.tuple #[]) ∧ TPut w t v (putE s page e) w' := by
  have KA := Lib.hid (at_any page w t v s hT)
  have HT := Lib.hid hT
  have hlt := hT.head.lt
  obtain ⟨ao, c, rfl, hg⟩ := hT.out
  have ha : atF s page = -1 := by unfold atF; rw [if_neg hi]
  rw [ha] at KA
  have hp : putE s page e = s ++ [(page, e)] := by unfold putE; rw [if_neg hi, if_neg (by omega)]
  have HX : Hid (Fit (s ++ [(page, e)]) ∧ (s ++ [(page, e)]).length ≤ 8 ∧ ((s ++ [(page, e)]).map (·.1)).Nodup) := Lib.hid (by
    rw [← hp]; exact ⟨fit_put s page e hT.fit h0 h1 h2 h3, len_put s page e hT.len, nd_put s page e hT.nd⟩)
  rw [hp]
  have hc0 := HT.out.head.cell 0
  have hf0 := HT.out.head.frozen 0
  have hl8 : (s.length : Int) < 8 := by omega
  have HL := Lib.hid h8
  clear ha hT hg h0 h1 h2 h3 hp hi h8
  go_enter Try.func86, Try.ntmps86
  go_wp2_with (first
    | (go_at_call 78; refine (KA.out).mono ?_; rintro e w' ⟨rfl, hu⟩; have HU := Lib.hid hu; have f0 := cellS hu id hlt hc0; have f2 : w'.frozen? ⟨t, 0, none⟩ = false := (HT.out.head.upd hu id).frozen 0; have f3 : t < w'.heap.size := Nat.lt_of_lt_of_le hlt hu.size; clear hu)
    | (at_builtin; go_must (refine wpList_app1 rfl (.tmp 28) (.tmp 32) 130 136 (.agg #[.int .u32 0, .int .u32 0]) 2 8 rfl Try.underlying130 info136 rfl (by decide) (by decide) (.slice ao s.length c) s.length (sc s) [.int .u32 page, .int .u32 e] w'.heap.size rfl rfl rfl ?_ ?_ ?_ ?_ ?_)))
  · intro u hu
    simp at hu
    rcases hu with rfl | rfl <;> rfl
  · exact Blk.new w' _ 136
  · exact own_alloc (own_upd HT.out.row HU.out (fun _ _ => id)) _
  · have := HL.out; omega
  · intro g' c' w1 own1 up1 hv1
    have hne : ¬ OB (.slice ao s.length c) t := own_ne HT.out.row HT.out.head (by decide)
    have hhead := ((HT.out.head.upd HU.out id).alloc (.cells #[.int .u32 page, .int .u32 e] 136)).upd up1 hne
    have e0 := hhead.cell 0
    have e1 := hhead.frozen 0
    have HF : Hid (TPut w t (.slice ao s.length c) (s ++ [(page, e)]) (w1.setCell ⟨t, 0, none⟩ (.slice (some ⟨g', 0, none⟩) (s.length + 1) c'))) := Lib.hid (by
      have htg : ¬ OB (.slice (some ⟨g', 0, none⟩) (s.length + 1) c') t := own_ne own1 hhead (by decide)
      refine ⟨_, ⟨hhead.set 0 _, ?_, HX.out.1, HX.out.2.1, HX.out.2.2⟩, ?_, ?_⟩
      · have := own_far own1 (p := ⟨t, 0, none⟩) htg (.slice (some ⟨g', 0, none⟩) (s.length + 1) c')
        rw [sc_app, List.length_append]
        exact this
      · refine Upd.setCell (Upd.trans (S := fun k => k = t ∨ OB (.slice ao s.length c) k) (S' := OB (.slice ao s.length c)) ((Upd.mono HU.out (fun _ _ h => h.elim)).alloc _) up1 (fun _ _ h => .inr h)) (.inl (.inl rfl)) _
      · intro k hk
        have hk' : g' = k := by simpa [OB, Value.ownBlock] using hk
        subst hk'
        rcases hv1 with h | h
        · exact .inl h
        · right; have := HU.out.size; have h : w'.heap.size + 1 ≤ g' := h; omega)
    clear own1 up1 hv1 hhead hne
    go_wp2
    go_end0
    exact ⟨rfl, HF.out⟩
theorem tput_full (e : Int) (hT : Tlb w t v s) (h0 : 0 ≤ page) (h1 : page < 4294967296) (h2 : 0 ≤ e) (h3 : e < 4294967296) (hi : ¬ ix s page < s.length) (h8 : s.length = 8) :
    Calls Try.prog 86 #[.pointer (some ⟨t, 0, none⟩), .int .u32 page, .int .u32 e] w fun en w' => en = .returned (.tuple #[]) ∧ TPut w t v (putE s page e) w' := by
  have KA := Lib.hid (at_any page w t v s hT)
  have HT := Lib.hid hT
  have hlt := hT.head.lt
  obtain ⟨ao, c, rfl, hg⟩ := hT.out
  obtain ⟨g, rfl⟩ := hg (by omega)
  have ha : atF s page = -1 := by unfold atF; rw [if_neg hi]
  rw [ha] at KA
  have hp : putE s page e = s.eraseIdx 0 ++ [(page, e)] := by unfold putE; rw [if_neg hi, if_pos h8]
  have HX : Hid (Fit (s.eraseIdx 0 ++ [(page, e)]) ∧ (s.eraseIdx 0 ++ [(page, e)]).length ≤ 8 ∧ ((s.eraseIdx 0 ++ [(page, e)]).map (·.1)).Nodup) := Lib.hid (by
    rw [← hp]; exact ⟨fit_put s page e hT.fit h0 h1 h2 h3, len_put s page e hT.len, nd_put s page e hT.nd⟩)
  have HLE : Hid ((s.eraseIdx 0).length = 7) := Lib.hid (by rw [List.length_eraseIdx, if_pos (by omega)]; omega)
  rw [hp]
  rw [h8] at HT ⊢
  have KD : Hid (∀ W, Upd (fun _ => False) w W → Calls Try.prog 79 #[.slice (some ⟨g, 0, none⟩) 8 c, .int .i64 0, .int .i64 1] W fun e w' => e = .returned (.slice (some ⟨g, 0, none⟩) 7 c) ∧ w'.ownsRow 0 136 2 (.slice (some ⟨g, 0, none⟩) 7 c) 7 (sc (s.eraseIdx 0)) ∧ Upd (fun k => k = g) W w') := Lib.hid (fun W hu => by
    have ho : W.ownsRow 0 136 2 (.slice (some ⟨g, 0, none⟩) (7 + 1) c) (7 + 1) (sc s) := by have := own_upd HT.out.row hu (fun _ _ => id); rw [h8] at this; exact this
    exact del_any g c s W 0 7 h8 (by decide) (by decide) ho)
  have hne : ¬ OB (.slice (some ⟨g, 0, none⟩) 8 c) t := own_ne HT.out.row HT.out.head (by decide)
  have htg : t ≠ g := fun h => hne (by rw [h]; rfl)
  have hc0 := HT.out.head.cell 0
  have hf0 := HT.out.head.frozen 0
  have HTG := Lib.hid htg
  clear ha hT hg h0 h1 h2 h3 hp hi h8 hne htg
  go_enter Try.func86, Try.ntmps86
  go_wp2_with (first
    | (go_at_call 78; refine (KA.out).mono ?_; rintro e w' ⟨rfl, hu⟩; have HU := Lib.hid hu; have f0 := cellS hu id hlt hc0; have f2 : w'.frozen? ⟨t, 0, none⟩ = false := (HT.out.head.upd hu id).frozen 0; have f3 : t < w'.heap.size := Nat.lt_of_lt_of_le hlt hu.size; clear hu)
    | (go_at_call 79; refine (KD.out _ HU.out).mono ?_; rintro e w2 ⟨rfl, ho, hu⟩; have HO := Lib.hid ho; have HU2 := Lib.hid hu; have g0 := (((HT.out.head.upd HU.out id).upd hu HTG.out)).cell 0; have g1 := (((HT.out.head.upd HU.out id).upd hu HTG.out)).frozen 0; have g3 := (((HT.out.head.upd HU.out id).upd hu HTG.out)).lt; clear ho hu)
    | (at_builtin; go_must (refine wpList_app1 rfl (.tmp 28) (.tmp 32) 130 136 (.agg #[.int .u32 0, .int .u32 0]) 2 8 rfl Try.underlying130 info136 rfl (by decide) (by decide) (.slice (some ⟨g, 0, none⟩) 7 c) 7 (sc (s.eraseIdx 0)) [.int .u32 page, .int .u32 e] w2.heap.size rfl rfl rfl ?_ ?_ ?_ ?_ ?_)))
  · intro u hu
    simp at hu
    rcases hu with rfl | rfl <;> rfl
  · exact Blk.new_at (w2.setCell ⟨t, 0, none⟩ (.slice (some ⟨g, 0, none⟩) 7 c)) _ (by simp) _ 136
  · exact own_alloc (own_far HO.out (p := ⟨t, 0, none⟩) (fun h => HTG.out (by simpa [OB, Value.ownBlock] using h.symm)) _) _
  · decide
  · intro g' c' w1 own1 up1 hv1
    have hh2 := (HT.out.head.upd HU.out id).upd HU2.out HTG.out
    have hne : ¬ OB (.slice (some ⟨g, 0, none⟩) 7 c) t := fun h => HTG.out (by simpa [OB, Value.ownBlock] using h.symm)
    have hhead := ((hh2.set 0 (.slice (some ⟨g, 0, none⟩) 7 c)).alloc (.cells #[.int .u32 page, .int .u32 e] 136)).upd up1 hne
    have e0 := hhead.cell 0
    have e1 := hhead.frozen 0
    have HF : Hid (TPut w t (.slice (some ⟨g, 0, none⟩) 8 c) (s.eraseIdx 0 ++ [(page, e)]) (w1.setCell ⟨t, 0, none⟩ (.slice (some ⟨g', 0, none⟩) 8 c'))) := Lib.hid (by
      have htg : ¬ OB (.slice (some ⟨g', 0, none⟩) 8 c') t := own_ne own1 hhead (by decide)
      have hU : Upd (fun k => k = t ∨ OB (.slice (some ⟨g, 0, none⟩) 8 c) k) w ((w2.setCell ⟨t, 0, none⟩ (.slice (some ⟨g, 0, none⟩) 7 c)).alloc (.cells #[.int .u32 page, .int .u32 e] 136)) :=
        (((Upd.mono HU.out (fun _ _ h => h.elim)).trans HU2.out (fun _ _ h => .inr (by rw [h]; rfl))).setCell (p := ⟨t, 0, none⟩) (.inl (.inl rfl)) _).alloc _
      refine ⟨_, ⟨hhead.set 0 _, ?_, HX.out.1, HX.out.2.1, HX.out.2.2⟩, ?_, ?_⟩
      · have := own_far own1 (p := ⟨t, 0, none⟩) htg (.slice (some ⟨g', 0, none⟩) 8 c')
        rw [sc_app, List.length_append, HLE.out, List.eraseIdx_zero]
        exact this
      · exact (hU.trans up1 (fun _ _ h => .inr h)).setCell (p := ⟨t, 0, none⟩) (.inl (.inl rfl)) _
      · intro k hk
        have hk' : g' = k := by simpa [OB, Value.ownBlock] using hk
        subst hk'
        rcases hv1 with h | h
        · exact .inl h
        · right; have h1 := HU.out.size; have h2 := HU2.out.size; have h3 : (w2.setCell ⟨t, 0, none⟩ (.slice (some ⟨g, 0, none⟩) 7 c)).heap.size + 1 ≤ g' := by first | exact h | (have := h; simpa using this)
          have h4 : (w2.setCell ⟨t, 0, none⟩ (.slice (some ⟨g, 0, none⟩) 7 c)).heap.size = w2.heap.size := by simp
          omega)
    clear own1 up1 hv1 hhead hne hh2
    go_wp2
    go_end0
    exact ⟨rfl, HF.out⟩
theorem tput_any (e : Int) (hT : Tlb w t v s) (h0 : 0 ≤ page) (h1 : page < 4294967296) (h2 : 0 ≤ e) (h3 : e < 4294967296) :
    Calls Try.prog 86 #[.pointer (some ⟨t, 0, none⟩), .int .u32 page, .int .u32 e] w fun en w' => en = .returned (.tuple #[]) ∧ TPut w t v (putE s page e) w' := by
  by_cases hi : ix s page < s.length
  · exact tput_hit t v s page w e hT h0 h1 h2 h3 hi
  by_cases h8 : s.length = 8
  · exact tput_full t v s page w e hT h0 h1 h2 h3 hi h8
  · exact tput_room t v s page w e hT h0 h1 h2 h3 hi (by have := hT.len; omega)
theorem tdrop_any (hT : Tlb w t v s) : Calls Try.prog 65 #[.pointer (some ⟨t, 0, none⟩), .int .u32 page] w fun en w' => en = .returned (.tuple #[]) ∧ TPut w t v (dropE s page) w' := by
  have KA := Lib.hid (at_any page w t v s hT)
  have HT := Lib.hid hT
  have hlt := hT.head.lt
  obtain ⟨ao, c, rfl, hg⟩ := hT.out
  have hc0 := HT.out.head.cell 0
  by_cases hi : ix s page < s.length
  · obtain ⟨g, rfl⟩ := hg (by omega)
    have ha : atF s page = (ix s page : Nat) := by unfold atF; rw [if_pos hi]
    rw [ha] at KA
    obtain ⟨N, hN⟩ : ∃ N, s.length = N + 1 := ⟨s.length - 1, by omega⟩
    have hN8 : N < 8 := by have := hT.len; omega
    have hiN : ix s page ≤ N := by omega
    have hp : dropE s page = s.eraseIdx (ix s page) := by unfold dropE; rw [if_pos hi]
    have HX : Hid (Fit (s.eraseIdx (ix s page)) ∧ (s.eraseIdx (ix s page)).length = N ∧ ((s.eraseIdx (ix s page)).map (·.1)).Nodup) := Lib.hid (by
      refine ⟨by rw [← hp]; exact fit_drop s page hT.fit, by rw [List.length_eraseIdx, if_pos hi]; omega, by rw [← hp]; exact nd_drop s page hT.nd⟩)
    rw [hp]
    rw [hN] at HT ⊢
    have KD : Hid (∀ W, Upd (fun _ => False) w W → Calls Try.prog 79 #[.slice (some ⟨g, 0, none⟩) (N + 1) c, .int .i64 (ix s page), .int .i64 ((ix s page : Int) + 1)] W fun e w' => e = .returned (.slice (some ⟨g, 0, none⟩) N c) ∧ w'.ownsRow 0 136 2 (.slice (some ⟨g, 0, none⟩) N c) N (sc (s.eraseIdx (ix s page))) ∧ Upd (fun k => k = g) W w') := Lib.hid (fun W hu => by
      have ho : W.ownsRow 0 136 2 (.slice (some ⟨g, 0, none⟩) (N + 1) c) (N + 1) (sc s) := by have := own_upd HT.out.row hu (fun _ _ => id); rw [hN] at this; exact this
      exact del_any g c s W (ix s page) N hN hiN hN8 ho)
    have hne : ¬ OB (.slice (some ⟨g, 0, none⟩) (N + 1) c) t := own_ne HT.out.row HT.out.head (by decide)
    have htg : t ≠ g := fun h => hne (by rw [h]; rfl)
    have HTG := Lib.hid htg
    have hiN' : (ix s page : Int) ≤ N := by omega
    have hn8' : (N : Int) < 8 := by omega
    rw [hN] at hc0
    clear ha hT hg hp hi hne htg hN hN8 hiN
    generalize hq : s.eraseIdx (ix s page) = s' at *
    clear hq
    generalize ix s page = i at *
    go_enter Try.func65, Try.ntmps65
    go_wp2_with (first
      | (go_at_call 78; refine (KA.out).mono ?_; rintro e w' ⟨rfl, hu⟩; have HU := Lib.hid hu; have f0 := cellS hu id hlt hc0; have f2 : w'.frozen? ⟨t, 0, none⟩ = false := (HT.out.head.upd hu id).frozen 0; have f3 : t < w'.heap.size := Nat.lt_of_lt_of_le hlt hu.size; clear hu)
      | (go_at_call 79; refine (KD.out _ HU.out).mono ?_; rintro e w2 ⟨rfl, ho, hu⟩; have HO := Lib.hid ho; have HU2 := Lib.hid hu; have g0 := (((HT.out.head.upd HU.out id).upd hu HTG.out)).cell 0; have g1 := (((HT.out.head.upd HU.out id).upd hu HTG.out)).frozen 0; have g3 := (((HT.out.head.upd HU.out id).upd hu HTG.out)).lt; clear ho hu))
    go_end0
    refine ⟨rfl, _, ⟨((HT.out.head.upd HU.out id).upd HU2.out HTG.out).set 0 _, ?_, HX.out.1, by rw [HX.out.2.1]; omega, HX.out.2.2⟩, ?_, fun k hk => .inl (by simpa [OB, Value.ownBlock] using hk)⟩
    · rw [HX.out.2.1]
      exact own_far HO.out (p := ⟨t, 0, none⟩) (fun h => HTG.out (by simpa [OB, Value.ownBlock] using h.symm)) _
    · exact ((Upd.mono HU.out (fun _ _ h => h.elim)).trans HU2.out (fun _ _ h => .inr (by rw [h]; rfl))).setCell (p := ⟨t, 0, none⟩) (.inl (.inl rfl)) _
  · have ha : atF s page = -1 := by unfold atF; rw [if_neg hi]
    rw [ha] at KA
    have hp : dropE s page = s := by unfold dropE; rw [if_neg hi]
    rw [hp]
    have HF : Hid (∀ W, Upd (fun _ => False) w W → TPut w t (.slice ao s.length c) s W) := Lib.hid (fun W hu => ⟨_, HT.out.upd hu id (fun _ _ => id), Upd.mono hu (fun _ _ h => h.elim), fun k hk => .inl hk⟩)
    clear hi ha hg hp hT
    go_enter Try.func65, Try.ntmps65
    go_wp2_with (go_at_call 78; refine (KA.out).mono ?_; rintro e w' ⟨rfl, hu⟩; have HU := Lib.hid hu; clear hu)
    go_end0
    exact ⟨rfl, HF.out _ HU.out⟩
end
end Go.Proofs.Ytomiodlipibloaa.F
