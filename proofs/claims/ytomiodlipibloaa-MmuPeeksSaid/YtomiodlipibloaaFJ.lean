/- Rows of numbers; the pages of a buffer; the reference's buffer. -/
import Derived.Test.YtomiodlipibloaaFI
namespace Go.Proofs.Ytomiodlipibloaa.F
set_option linter.unusedVariables false
set_option linter.unusedSimpArgs false
set_option maxHeartbeats 1000000
set_option maxRecDepth 20000
open Go.RowKit
def uc (l : List Int) : List Value := l.map (Value.int .u32)
/-- A row of numbers of one's own. -/
def OwnU (w : World) (v : Value) (l : List Int) : Prop := w.ownsRow 0 23 1 v l.length (uc l)
def Fr (b : Nat) (v : Value) : Prop := ∀ k, OB v k → b ≤ k
theorem Fr.nil (b : Nat) : Fr b (.slice none 0 0) := fun k h => by cases h
theorem OwnU.upd {w w' : World} {v : Value} {l : List Int} (h : OwnU w v l) {S : Nat → Prop} (hu : Upd S w w') (hs : ∀ k, OB v k → ¬ S k) : OwnU w' v l := own_upd h hu hs
theorem OwnU.alloc {w : World} {v : Value} {l : List Int} (h : OwnU w v l) (o : Obj) : OwnU (w.alloc o) v l := own_alloc h o
theorem OwnU.nil (w : World) : OwnU w (.slice none 0 0) [] := ⟨rfl, .inl ⟨rfl, rfl⟩⟩
theorem OwnU.out {w : World} {v : Value} {l : List Int} (h : OwnU w v l) : ∃ ao c, v = .slice ao l.length c ∧ (0 < l.length → ∃ g, ao = some ⟨g, 0, none⟩) := by
  rcases h.2 with ⟨rfl, h0⟩ | ⟨g, cap, cur, rfl, _⟩
  · exact ⟨none, 0, by rw [h0], fun hp => by omega⟩
  · exact ⟨_, cap, rfl, fun _ => ⟨g, rfl⟩⟩
theorem OwnU.lt {w : World} {g n c : Nat} {l : List Int} (h : OwnU w (.slice (some ⟨g, 0, none⟩) n c) l) : g < w.heap.size := own_lt h g rfl
theorem OwnU.cell {w : World} {g c : Nat} {l : List Int} (h : OwnU w (.slice (some ⟨g, 0, none⟩) l.length c) l) {i : Nat} (hi : i < l.length) : w.cell? ⟨g, i, none⟩ = some (.int .u32 (l.getD i 0)) := by
  rw [own_cell h i (by omega)]
  simp [uc, List.getD, hi]
theorem OwnU.ne {w : World} {v : Value} {l : List Int} (h : OwnU w v l) {g : Nat} {cs : Array Value} {T : TypeId} (hb : Blk w g cs T) (hT : T ≠ 23) : ¬ OB v g := own_ne h hb hT
theorem info23 : (Try.prog.info? 23).map (fun i => (i.zero, i.size, i.bytes)) = some (some (.int .u32 0), 1, 4) := by kernel_rfl
section
variable {ops : Array Oper} {rest : List Oper} {o : Oper} {a : Act} {Q : Exit → Act → World → Prop}
theorem wpList_appU {w : World} (hgd : o.guard = none) (s x : Operand)
    (ho : o.op = .call { callee := .builtin .append, args := #[s, x], argTypes := #[58, 58] })
    (v : Value) (l : List Int) (y : Int) (b : Nat) (hs : a.eval s = v) (hx : a.eval x = .slice (some ⟨b, 0, none⟩) 1 1)
    (hnew : Blk w b #[.int .u32 y] 23) (HO : OwnU w v l) (hl : l.length ≤ 100000)
    (h : ∀ v' w1, OwnU w1 v' (l ++ [y]) → Upd (OB v) w w1 → (∀ k, OB v' k → OB v k ∨ w.heap.size ≤ k) → wpList Try.prog ops Q rest (a.put o.dst v') w1) :
    wpList Try.prog ops Q (o :: rest) a w := by
  refine wpList_app1 hgd s x 58 23 (.int .u32 0) 1 4 ho Try.underlying58 info23 rfl (by decide) (by decide) v l.length (uc l) [.int .u32 y] b hs hx rfl (fun u hu => by simp at hu; subst hu; rfl) hnew HO (by omega) ?_
  intro g c w1 own up hv
  refine h _ w1 ?_ up (fun k hk => ?_)
  · unfold OwnU
    rw [List.length_append, show uc (l ++ [y]) = uc l ++ [.int .u32 y] by simp [uc]]
    exact own
  · have hk' : g = k := by simpa [OB, Value.ownBlock] using hk
    subst hk'
    exact hv
end
section
variable (t : Nat) (v : Value) (s : Ents) (page : Int) (w : World)
def pgs (s : Ents) : List Int := s.map (·.1)
theorem pgs_take (s : Ents) (k : Nat) (hk : k < s.length) : (pgs s).take (k + 1) = (pgs s).take k ++ [(ent s k).1] := by
  rw [List.take_succ_eq_append_getElem (by simpa [pgs] using hk)]
  simp [pgs, ent, List.getD, hk]
theorem tpages_any (hT : Tlb w t v s) : Calls Try.prog 67 #[.pointer (some ⟨t, 0, none⟩)] w fun e w' => ∃ x, e = .returned x ∧ OwnU w' x (pgs s) ∧ Fr w.heap.size x ∧ Upd (fun _ => False) w w' := by
  have HT := Lib.hid hT
  have hlt := hT.head.lt
  obtain ⟨ao, c, rfl, hg⟩ := hT.out
  have hc0 := HT.out.head.cell 0
  have h8 : (s.length : Int) ≤ 8 := by have := hT.len; omega
  have H8 : Hid (s.length ≤ 8) := Lib.hid hT.len
  clear hT
  go_enter Try.func67, Try.ntmps67
  go_wp2
  clear hc0
  go_loopw [3, 13] (fun x i W => ∃ k : Nat, k ≤ s.length ∧ i = .int .i64 k ∧ Hid (OwnU W x ((pgs s).take k)) ∧ Hid (Fr w.heap.size x) ∧ Hid (Upd (fun _ => False) w W)) (fun _ i _ => s.length - (intOf i).toNat)
  case atStart => exact ⟨0, Nat.zero_le _, rfl, Lib.hid (OwnU.nil _), Lib.hid (Fr.nil _), Lib.hid (Upd.refl _ _)⟩
  case round =>
    obtain ⟨k, hk, rfl, HO, HFR, HU⟩ := hrel
    by_cases hlt2 : k < s.length
    · obtain ⟨g, rfl⟩ := hg (by omega)
      have HW : Hid (Tlb wr t (.slice (some ⟨g, 0, none⟩) s.length c) s) := Lib.hid (HT.out.upd HU.out id (fun _ _ => id))
      have c1 := HW.out.page hlt2
      have c2 := HW.out.entry hlt2
      have hgl := HW.out.lt
      have HS := Lib.hid (pgs_take s k hlt2)
      have hn1 := World.new_ne wr _ c1
      generalize (ent s k).1 = y at *
      generalize (ent s k).2 = z at *
      go_wp2_with (at_builtin; go_must (refine wpList_appU rfl (.tmp 17) (.tmp 20) rfl _ ((pgs s).take k) y (wr.heap.size + 1) rfl rfl ?_ ?_ ?_ ?_))
      · exact Blk.new_at (wr.alloc _) _ (by rw [World.size_alloc]) _ 23
      · exact own_alloc (own_alloc HO.out _) _
      · have := H8.out; have h2 : (pgs s).length = s.length := by simp [pgs]
        omega
      · intro v' w1 own1 up1 hv1
        have HO1 : Hid (OwnU w1 v' ((pgs s).take (k + 1))) := Lib.hid (by rw [HS.out]; exact own1)
        have HF1 : Hid (Fr w.heap.size v') := Lib.hid (fun q hq => by
          rcases hv1 q hq with h | h
          · exact HFR.out q h
          · have h1 := HU.out.size; have h : wr.heap.size + 1 + 1 ≤ q := h; omega)
        have HU1 : Hid (Upd (fun _ => False) w w1) := Lib.hid (((HU.out.alloc _).alloc _).trans up1 (fun q hq h => by have := HFR.out q h; omega))
        clear own1 up1 hv1
        go_wp2
        exact ⟨⟨k + 1, hlt2, by go_num, HO1, HF1, HU1⟩, by simp [intOf]; omega⟩
    · obtain rfl : k = s.length := by omega
      have e : (pgs s).take s.length = pgs s := by rw [List.take_of_length_le (by simp [pgs])]
      rw [e] at HO
      clear e
      go_wp2
      exact bodyPost_ret (v := u3) (by simp [results, Try.results67, go_sem]) rfl ⟨_, rfl, HO.out, HFR.out, HU.out⟩
/-- The reference's buffer. -/
structure RTlb (w : World) (t : Nat) (v1 v2 : Value) (s : Ents) : Prop where
  head : Blk w t #[v1, v2] 94
  pages : OwnU w v1 (pgs s)
  ents : OwnU w v2 (s.map (·.2))
  apart : ∀ k, OB v1 k → ¬ OB v2 k
  fit : Fit s
  len : s.length ≤ 8
  nd : (s.map (·.1)).Nodup
theorem RTlb.upd {w w' : World} {t : Nat} {v1 v2 : Value} {s : Ents} (h : RTlb w t v1 v2 s) {S : Nat → Prop} (hu : Upd S w w') (ht : ¬ S t) (h1 : ∀ k, OB v1 k → ¬ S k) (h2 : ∀ k, OB v2 k → ¬ S k) : RTlb w' t v1 v2 s :=
  ⟨h.head.upd hu ht, h.pages.upd hu h1, h.ents.upd hu h2, h.apart, h.fit, h.len, h.nd⟩
theorem pgs_len (s : Ents) : (pgs s).length = s.length := by simp [pgs]
theorem pgs_get (s : Ents) (i : Nat) (h : i < s.length) : (pgs s).getD i 0 = (ent s i).1 := by simp [pgs, ent, List.getD, h]
theorem ens_get (s : Ents) (i : Nat) (h : i < s.length) : (s.map (·.2)).getD i 0 = (ent s i).2 := by simp [ent, List.getD, h]
theorem sat_any (v1 v2 : Value) (hT : RTlb w t v1 v2 s) : Calls Try.prog 76 #[.pointer (some ⟨t, 0, none⟩), .int .u32 page] w fun e w' => e = .returned (.int .i64 (atF s page)) ∧ w' = w := by
  have HT := Lib.hid hT
  obtain ⟨ao, c, rfl, hg⟩ := hT.pages.out
  rw [pgs_len] at hT hg HT
  have hc0 := HT.out.head.cell 0
  have h8 : (s.length : Int) ≤ 8 := by have := hT.len; omega
  generalize hr : atF s page = r
  have HR := Lib.hid hr
  clear hT hr
  go_enter Try.func76, Try.ntmps76
  go_wp2
  go_loop [12] (fun i => ∃ k : Nat, k ≤ s.length ∧ i = .int .i64 k ∧ Hid (∀ j, j < k → (ent s j).1 ≠ page)) (fun i => s.length - (intOf i).toNat)
  case atStart => exact ⟨0, Nat.zero_le _, rfl, Lib.hid (fun j h => absurd h (by omega))⟩
  case round =>
    obtain ⟨k, hk, rfl, HN⟩ := hrel
    by_cases hlt : k < s.length
    · obtain ⟨g, rfl⟩ := hg (by omega)
      have hp := HT.out.pages
      rw [← pgs_len s] at hp
      have c1 := hp.cell (i := k) (by rw [pgs_len]; exact hlt)
      rw [pgs_get s k hlt] at c1
      clear hp
      by_cases he : (ent s k).1 = page
      · have he' : ((ent s k).1 == page) = true := by simpa using he
        have hres : r = (k : Int) := by rw [← HR.out, atF, ix_eq s page k hk HN.out (.inr he), if_pos hlt]
        have HRES := Lib.hid hres
        clear he hres
        go_wp2
        go_ret
        exact ⟨by rw [HRES.out]; rfl, rfl⟩
      · have he' : ((ent s k).1 == page) = false := by simpa using he
        have HN2 : Hid (∀ j, j < k + 1 → (ent s j).1 ≠ page) := Lib.hid (fun j hj => by
          rcases (by omega : j < k ∨ j = k) with h | rfl
          · exact HN.out j h
          · exact he)
        clear he
        go_wp2
        exact ⟨⟨k + 1, hlt, by go_num, HN2⟩, by simp [intOf]; omega⟩
    · obtain rfl : k = s.length := by omega
      have hres : r = -1 := by rw [← HR.out, atF, ix_eq s page s.length (Nat.le_refl _) HN.out (.inl rfl), if_neg (Nat.lt_irrefl _)]
      subst hres
      go_wp2
      go_ret
      exact ⟨rfl, rfl⟩
theorem sget_ent (v1 v2 : Value) (hT : RTlb w t v1 v2 s) : Calls Try.prog 58 #[.pointer (some ⟨t, 0, none⟩), .int .u32 page] w fun e w' => e = .returned (.tuple #[.int .u32 (getE s page).1, .bool (getE s page).2]) ∧ w' = w := by
  have KA := Lib.hid (sat_any t s page w v1 v2 hT)
  obtain ⟨ao, c, rfl, hg⟩ := hT.ents.out
  have hc1 := hT.head.cell 1
  have hents := hT.ents
  have h8 : (s.length : Int) ≤ 8 := by have := hT.len; omega
  simp only [List.length_map] at hg hc1 hents
  clear hT
  unfold getE
  by_cases hi : ix s page < s.length
  · obtain ⟨g, rfl⟩ := hg (by omega)
    have ha : atF s page = (ix s page : Nat) := by unfold atF; rw [if_pos hi]
    rw [ha] at KA
    rw [if_pos hi]
    have hent := OwnU.cell (l := s.map (·.2)) (by rw [List.length_map]; exact hents) (i := ix s page) (by rw [List.length_map]; exact hi)
    rw [ens_get s _ hi] at hent
    have hi' : (ix s page : Int) < s.length := by omega
    clear ha hents
    generalize ix s page = i at *
    generalize (ent s i).2 = en at *
    go_enter Try.func58, Try.ntmps58
    go_wp2_with (go_at_call 76; refine (KA.out).mono ?_; rintro e w' ⟨rfl, rfl⟩)
    exact bodyPost_ret (v := .tuple #[_, _]) (by simp [results, Try.results58, go_sem]) rfl ⟨rfl, rfl⟩
  · have ha : atF s page = -1 := by unfold atF; rw [if_neg hi]
    rw [ha] at KA
    rw [if_neg hi]
    clear hi ha hg hents
    go_enter Try.func58, Try.ntmps58
    go_wp2_with (go_at_call 76; refine (KA.out).mono ?_; rintro e w' ⟨rfl, rfl⟩)
    exact bodyPost_ret (v := .tuple #[_, _]) (by simp [results, Try.results58, go_sem]) rfl ⟨rfl, rfl⟩
theorem sclear_any (v1 v2 : Value) (hT : RTlb w t v1 v2 s) : Calls Try.prog 47 #[.pointer (some ⟨t, 0, none⟩)] w fun e w' => e = .returned (.tuple #[]) ∧ RTlb w' t (.slice none 0 0) (.slice none 0 0) [] ∧ Upd (fun k => k = t) w w' := by
  have h0 := hT.head.cell 0
  have h1 := hT.head.cell 1
  have hf0 := hT.head.frozen 0
  have hf1 := hT.head.frozen 1
  have HR : Hid (RTlb ((w.setCell ⟨t, 0, none⟩ (.slice none 0 0)).setCell ⟨t, 1, none⟩ (.slice none 0 0)) t (.slice none 0 0) (.slice none 0 0) []) := Lib.hid ⟨(hT.head.set 0 _).set 1 _, OwnU.nil _, OwnU.nil _, fun k h => by (cases h), fun x hx => by (cases hx), by simp, by simp⟩
  clear hT
  go_enter Try.func47, Try.ntmps47
  go_wp2
  go_end0
  exact ⟨rfl, HR.out, Upd.set2 (Upd.set1 _ _ _ _) _ _⟩
end
end Go.Proofs.Ytomiodlipibloaa.F
