/- Specifiers without an index, all ways together; specifiers with one. -/
import Derived.Test.YtoocbodkjldlcaaSpD
namespace Go.Proofs.Ytoocbodkjldlcaa.Sp
set_option linter.unusedVariables false
set_option linter.unusedSimpArgs false
open Go.RowKit
attribute [local go_sem] Spc.cells badS zeroS

theorem plain_any (ao : Option Addr) (l : List Int) (c : Nat) (acc : Int) (n : Nat) (w : World) (h : RdB w ao l) (hb : Byt l) (hc : l.length ≤ c) (h0 : 0 < l.length) (hn0 : 0 < n) (hn4 : n ≤ 4) :
    Calls Try.prog 31 #[.slice ao l.length c, .agg #[.int .u8 acc, .int .i64 n]] w (Ans w (plainF l acc n)) := by
  obtain ⟨b, o, rfl, hbl, hcell⟩ := h 0 h0
  rw [Nat.add_zero] at hcell
  have hx := hb (l.getD 0 0) (by simp [List.getD, h0])
  have hl0 : 0 < (l.length : Int) := by omega
  unfold plainF
  obtain ⟨h1, h2⟩ := hx
  simp only []
  generalize hcv : l.getD 0 0 = cv at *
  by_cases hm : cv / 16 < 4
  · rw [if_pos hm]
    exact plain_lit l c acc n w b o cv hcell hbl hl0 h1 h2 hm
  rw [if_neg hm]
  by_cases hm4 : cv / 16 = 4
  · rw [if_pos (.inl hm4)]
    exact plain_4 l c acc n w b o cv hcell hbl hl0 h1 h2 hm4
  by_cases hq : cv % 16 = 15
  · by_cases hm8 : cv / 16 < 8
    · rw [if_pos (.inr (.inl ⟨hm8, hq⟩))]
      rcases (by omega : cv / 16 = 5 ∨ cv / 16 = 6 ∨ cv / 16 = 7) with e | e | e
      · exact plain_5pc l c acc n w b o cv hcell hbl hl0 h1 h2 e hq
      · exact plain_6pc l c acc n w b o cv hcell hbl hl0 h1 h2 e hq
      · exact plain_7pc l c acc n w b o cv hcell hbl hl0 h1 h2 e hq
    rw [if_neg (by omega)]
    by_cases e8 : cv / 16 = 8
    · rw [if_pos ⟨e8, hq⟩]
      by_cases ha : acc = 114
      · rw [if_pos ha]
        exact plain_8v l c acc n w b o cv hcell hbl hl0 h1 h2 h hb hc e8 hq ha hn0 hn4
      · rw [if_neg ha]
        exact plain_8b l c acc n w b o cv hcell hbl hl0 h1 h2 e8 hq (by simp [ha]) (by simp [ha])
    rw [if_neg (by omega)]
    by_cases e9 : cv / 16 = 9
    · rw [if_pos ⟨e9, hq⟩]
      exact plain_9v l c acc n w b o cv hcell hbl hl0 h1 h2 h hb hc e9 hq
    rw [if_neg (by omega), if_neg (by omega)]
    rcases (by omega : cv / 16 = 10 ∨ cv / 16 = 11 ∨ cv / 16 = 12 ∨ cv / 16 = 13 ∨ cv / 16 = 14 ∨ cv / 16 = 15) with e | e | e | e | e | e
    · rw [e]; exact plain_10 l c acc n w b o cv hcell hbl hl0 h1 h2 h hb hc e
    · rw [e]; exact plain_11 l c acc n w b o cv hcell hbl hl0 h1 h2 h hb hc e
    · rw [e]; exact plain_12 l c acc n w b o cv hcell hbl hl0 h1 h2 h hb hc e
    · rw [e]; exact plain_13 l c acc n w b o cv hcell hbl hl0 h1 h2 h hb hc e
    · rw [e]; exact plain_14 l c acc n w b o cv hcell hbl hl0 h1 h2 h hb hc e
    · rw [e]; exact plain_15 l c acc n w b o cv hcell hbl hl0 h1 h2 h hb hc e
  · have hq' : (cv % 16 == 15) = false := by simp [hq]
    by_cases ha : cv / 16 = 5 ∧ acc = 97
    · rw [if_pos (.inr (.inr ha))]
      exact plain_5a l c acc n w b o cv hcell hbl hl0 h1 h2 ha.1 hq' ha.2
    rw [if_neg (by omega), if_neg (by omega), if_neg (by omega)]
    by_cases hm10 : cv / 16 < 10
    · rw [if_pos hm10]
      rcases (by omega : cv / 16 = 5 ∨ cv / 16 = 6 ∨ cv / 16 = 7 ∨ cv / 16 = 8 ∨ cv / 16 = 9) with e | e | e | e | e
      · rw [e]; exact plain_5 l c acc n w b o cv hcell hbl hl0 h1 h2 e hq' (by simp; omega)
      · rw [e]; exact plain_6 l c acc n w b o cv hcell hbl hl0 h1 h2 e hq'
      · rw [e]; exact plain_7 l c acc n w b o cv hcell hbl hl0 h1 h2 e hq'
      · rw [e]; exact plain_8 l c acc n w b o cv hcell hbl hl0 h1 h2 e hq'
      · rw [e]; exact plain_9 l c acc n w b o cv hcell hbl hl0 h1 h2 e hq'
    rw [if_neg hm10]
    rcases (by omega : cv / 16 = 10 ∨ cv / 16 = 11 ∨ cv / 16 = 12 ∨ cv / 16 = 13 ∨ cv / 16 = 14 ∨ cv / 16 = 15) with e | e | e | e | e | e
    · rw [e]; exact plain_10 l c acc n w b o cv hcell hbl hl0 h1 h2 h hb hc e
    · rw [e]; exact plain_11 l c acc n w b o cv hcell hbl hl0 h1 h2 h hb hc e
    · rw [e]; exact plain_12 l c acc n w b o cv hcell hbl hl0 h1 h2 h hb hc e
    · rw [e]; exact plain_13 l c acc n w b o cv hcell hbl hl0 h1 h2 h hb hc e
    · rw [e]; exact plain_14 l c acc n w b o cv hcell hbl hl0 h1 h2 h hb hc e
    · rw [e]; exact plain_15 l c acc n w b o cv hcell hbl hl0 h1 h2 h hb hc e

/-- A specifier with an index, read off bytes of which there is one. -/
def indexedF (l : List Int) (acc : Int) (n : Nat) : Spc × Int :=
  if l.getD 0 0 % 16 = 15 then (badS 1, 0)
  else if l.length < 2 then (zeroS, 3)
  else if l.getD 1 0 / 16 < 6 ∨ l.getD 1 0 = 143 then (badS 2, 0)
  else
    let p := plainF (l.drop 1) acc n
    if p.2 = 0 then ({ p.1 with n := p.1.n + 1, i := if p.1.k = 14 then p.1.i else l.getD 0 0 % 16 }, 0) else p
end Go.Proofs.Ytoocbodkjldlcaa.Sp
