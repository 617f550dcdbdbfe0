/- As long as the buffer holds what the memory holds, answers don't depend on it. -/
import Derived.Test.YtomiodlipibloaaFR
namespace Go.Proofs.Ytomiodlipibloaa.F
set_option linter.unusedVariables false
set_option linter.unusedSimpArgs false
set_option maxHeartbeats 2000000
set_option maxRecDepth 20000
open Go.RowKit
/-- A buffered entry is the memory's own. -/
def Coh (l : List Int) (T : Tab) (s : Ents) : Prop := ∀ q ∈ s, ∀ va, 0 ≤ va → va < 4294967296 → va / 512 = q.1 → okP' T va = true ∧ getF l (atP T va) 4 = (q.2, 0) ∧ bitF q.2 31 = true
theorem coh_nil (l : List Int) (T : Tab) : Coh l T [] := fun q h => by cases h
theorem mem_put {s : Ents} {p e : Int} {q : Int × Int} (h : q ∈ putE s p e) : q ∈ s ∨ q = (p, e) := by
  unfold putE at h
  split at h
  · exact (List.mem_or_eq_of_mem_set h)
  · rcases List.mem_append.1 h with h | h
    · split at h
      · exact .inl (List.mem_of_mem_eraseIdx h)
      · exact .inl h
    · exact .inr (by simpa using h)
theorem bit30 (a b : Int) (h : a / 512 = b / 512) : bitF a 30 = bitF b 30 := by
  unfold bitF
  congr 1
  have : a / ((2 ^ 30 : Nat) : Int) = b / ((2 ^ 30 : Nat) : Int) := by simp only [Nat.reducePow]; omega
  rw [this]
theorem okP_page (T : Tab) (a b : Int) (h : a / 512 = b / 512) : okP' T a = okP' T b := by
  unfold okP'
  rw [bit30 a b h, h]
  congr 2
  by_cases h1 : 2147483648 ≤ a
  · rw [if_pos h1, if_pos (by omega)]
  · rw [if_neg h1, if_neg (by omega)]
theorem atP_page (T : Tab) (a b : Int) (h : a / 512 = b / 512) : atP T a = atP T b := by
  unfold atP
  rw [h]
  by_cases h1 : 2147483648 ≤ a
  · rw [if_pos h1, if_pos (by omega)]
  · rw [if_neg h1, if_neg (by omega)]
theorem coh_put {l : List Int} {T : Tab} {s : Ents} (h : Coh l T s) {va e : Int} (h1 : okP' T va = true) (h2 : getF l (atP T va) 4 = (e, 0)) (h3 : bitF e 31 = true) : Coh l T (putE s (va / 512) e) := fun q hq a h0 ha hp => by
  rcases mem_put hq with hq | rfl
  · exact h q hq a h0 ha hp
  · exact ⟨by rw [okP_page T a va hp]; exact h1, by rw [atP_page T a va hp]; exact h2, h3⟩
theorem coh_drop {l : List Int} {T : Tab} {s : Ents} (h : Coh l T s) (p : Int) : Coh l T (dropE s p) := fun q hq => by
  unfold dropE at hq
  split at hq
  · exact h q (List.mem_of_mem_eraseIdx hq)
  · exact h q hq
theorem getE_hit {s : Ents} {p : Int} (h : (getE s p).2 = true) : (p, (getE s p).1) ∈ s := by
  unfold getE at *
  split at h
  · rename_i hi
    have := ent_mem hi
    rw [if_pos hi]
    have hp := ix_at s p hi
    have e : (p, (ent s (ix s p)).2) = ent s (ix s p) := Prod.ext hp.symm rfl
    show (p, (ent s (ix s p)).2) ∈ s
    rw [e]
    exact this
  · cases h
/-- What stands in memory for a page. -/
def memF (l : List Int) (T : Tab) (va : Int) (user write : Bool) : Int × Flt :=
  if okP' T va = false then (0, fltF 2 va 1 write)
  else if (getF l (atP T va) 4).2 ≠ 0 then (0, fltF 1 va 0 write)
  else if mayF (getF l (atP T va) 4).1 user write = false then (0, fltF 2 va 0 write)
  else if bitF (getF l (atP T va) 4).1 31 = false then (0, fltF 3 va 0 write)
  else ((getF l (atP T va) 4).1, nof)
theorem entry_mem (l : List Int) (s : Ents) (T : Tab) (va : Int) (user write keep : Bool) (h : Coh l T s) (h0 : 0 ≤ va) (h1 : va < 4294967296) :
    (entryF l s T va user write keep).1 = (memF l T va user write).1 ∧ (entryF l s T va user write keep).2.1 = (memF l T va user write).2 ∧ Coh l T (entryF l s T va user write keep).2.2 := by
  unfold entryF memF chkF
  by_cases hh : (getE s (va / 512)).2 = true
  · obtain ⟨c1, c2, c3⟩ := h _ (getE_hit hh) va h0 h1 rfl
    simp only at c2 c3
    rw [if_pos hh, c1, c2, c3]
    simp only [Bool.true_eq_false, if_false, ne_eq, not_true]
    split
    · exact ⟨rfl, rfl, h⟩
    · refine ⟨?_, ?_, ?_⟩ <;> first | rfl | exact h | simpa using h | simp
  · rw [if_neg hh]
    by_cases ho : okP' T va = false
    · rw [if_pos ho, if_pos ho]; exact ⟨rfl, rfl, h⟩
    rw [if_neg ho, if_neg ho]
    by_cases hg : (getF l (atP T va) 4).2 ≠ 0
    · rw [if_pos hg, if_pos hg]; exact ⟨rfl, rfl, h⟩
    rw [if_neg hg, if_neg hg]
    split
    · exact ⟨rfl, rfl, h⟩
    split
    · exact ⟨rfl, rfl, h⟩
    · rename_i hb
      refine ⟨rfl, rfl, ?_⟩
      simp only
      split
      · exact coh_put h (by simpa using ho) (by rw [Prod.ext_iff]; simp at hg; exact ⟨rfl, hg⟩) (by simpa using hb)
      · exact h
theorem find_mem (l : List Int) (s : Ents) (T : Tab) (va n : Int) (user write keep keep' : Bool) (h : Coh l T s) (h0 : 0 ≤ va) (h1 : va < 4294967296) :
    (findF l s T va n user write keep).1 = (findF l [] T va n user write keep').1 ∧ (findF l s T va n user write keep).2.1 = (findF l [] T va n user write keep').2.1 ∧ Coh l T (findF l s T va n user write keep).2.2 := by
  obtain ⟨a1, a2, a3⟩ := entry_mem l s T va user write keep h h0 h1
  obtain ⟨b1, b2, b3⟩ := entry_mem l [] T va user write keep' (coh_nil l T) h0 h1
  unfold findF finF
  rw [a1, a2, b1, b2]
  by_cases he : T.e = 0
  · rw [if_pos he, if_pos he]; split <;> exact ⟨rfl, rfl, h⟩
  rw [if_neg he, if_neg he]
  by_cases hk : (memF l T va user write).2.k ≠ 0
  · rw [if_pos hk, if_pos hk]; exact ⟨rfl, rfl, a3⟩
  · rw [if_neg hk, if_neg hk]; split <;> exact ⟨rfl, rfl, a3⟩
theorem pcs_mem (l : List Int) (T : Tab) (user write keep keep' : Bool) : ∀ (f n : Nat) (va : Int) (s s' : Ents), Coh l T s → Coh l T s' → 0 ≤ va → va < 4294967296 →
    (pcs l T user write keep f va n s).1 = (pcs l T user write keep' f va n s').1 ∧ (pcs l T user write keep f va n s).2.1 = (pcs l T user write keep' f va n s').2.1 ∧ Coh l T (pcs l T user write keep f va n s).2.2
  | 0, n, va, s, s', h, h', h0, h1 => ⟨rfl, rfl, h⟩
  | f + 1, n, va, s, s', h, h', h0, h1 => by
    obtain ⟨a1, a2, a3⟩ := find_mem l s T va (kF va n) user write keep false h h0 h1
    obtain ⟨b1, b2, b3⟩ := find_mem l s' T va (kF va n) user write keep' false h' h0 h1
    obtain ⟨c1, c2, c3⟩ := pcs_mem l T user write keep keep' f (n - kF va n) ((va + kF va n) % 4294967296) _ _ a3 b3 (by omega) (by omega)
    rw [pcs, pcs]
    by_cases hn : n = 0
    · rw [if_pos hn, if_pos hn]; exact ⟨rfl, rfl, h⟩
    rw [if_neg hn, if_neg hn, a2, b2]
    by_cases hk : (findF l [] T va (kF va n) user write false).2.1.k ≠ 0
    · rw [if_pos hk, if_pos hk]; exact ⟨rfl, rfl, a3⟩
    rw [if_neg hk, if_neg hk, a1, b1]
    simp only [c1, c2]
    split
    · exact ⟨rfl, rfl, c3⟩
    · exact ⟨rfl, rfl, c3⟩
theorem kF1 (va : Int) : kF va 1 = 1 := by unfold kF; omega
/-- A byte asked for is a byte peeked at. -/
theorem peek_load (l : List Int) (T : Tab) (va : Int) (user : Bool) (hl : Byt l) (h0 : 0 ≤ va) (h1 : va < 4294967296) :
    (peekF l [] T va user).2 = (pcs l T user false true 1 va 1 []).2.1 ∧ ((peekF l [] T va user).2.k = 0 → loadF l (pcs l T user false true 1 va 1 []).1 = [(peekF l [] T va user).1]) := by
  obtain ⟨a1, a2, a3⟩ := find_mem l [] T va 1 user false true false (coh_nil l T) h0 h1
  have hok := findF_ok l [] T va 1 user false false (fun q h => by cases h) hl h0 h1
  rw [pcs, if_neg (by decide), kF1]
  have e1 : ((1 : Nat) : Int) = 1 := rfl
  rw [e1] at *
  rw [a1, a2]
  unfold peekF
  by_cases hk : (findF l [] T va 1 user false false).2.1.k ≠ 0
  · rw [if_pos hk, if_pos hk]
    exact ⟨rfl, fun h => absurd h hk⟩
  · rw [if_neg hk, if_neg hk]
    obtain ⟨k0, k1, k2⟩ := hok (by simpa using hk)
    generalize (findF l [] T va 1 user false false).1 = pa at *
    refine ⟨rfl, fun _ => ?_⟩
    obtain ⟨A, rfl⟩ := Int.eq_ofNat_of_zero_le k0
    have hA : A < l.length := by omega
    have ht : thr l.length A 1 = true := by simp [thr]; omega
    have hd : (l.drop A).take 1 = [l.getD A 0] := by
      rw [List.drop_eq_getElem_cons hA, List.take_succ_cons, List.take_zero]; simp [List.getD, hA]
    simp [pcs, nof, loadF, btsF, getF, ht, hd, num]
    have := hl.get hA
    simp [List.getD, hA] at this ⊢
    omega
end Go.Proofs.Ytomiodlipibloaa.F
