/- Specifiers: a number out of bytes, bytes out of a number. -/
import Derived.Test.YtoocbodkjldlcaaSpA
namespace Go.Proofs.Ytoocbodkjldlcaa.Sp
set_option linter.unusedVariables false
set_option linter.unusedSimpArgs false
open Go.RowKit

/-- The number that bytes are, the lowest first. -/
def num : List Int → Int
  | [] => 0
  | c :: l => c + 256 * num l
theorem num_bound : ∀ {l : List Int}, Byt l → 0 ≤ num l ∧ num l < 256 ^ l.length
  | [], _ => by simp [num]
  | c :: l, h => by
    have h1 := num_bound (l := l) (fun x hx => h x (by simp [hx]))
    have h2 := h c (by simp)
    simp only [num, List.length_cons, Int.pow_succ]
    omega
theorem num_snoc : ∀ (l : List Int) (c : Int), num (l ++ [c]) = num l + c * 256 ^ l.length
  | [], c => by simp [num]
  | d :: l, c => by
    simp only [List.cons_append, num, num_snoc l c, List.length_cons, Int.pow_succ]
    rw [Int.mul_add, ← Int.add_assoc]
    congr 1
    rw [Int.mul_comm 256, Int.mul_assoc]

theorem or_put (x y : Int) (j : Nat) (h0 : 0 ≤ x) (hx : x < (2 ^ j : Nat)) (hj : j ≤ 32) (hy : 0 ≤ y) (hy2 : y < 4294967296) (hm : y.toNat % 2 ^ j = 0) : bits .or .u32 x y = x + y := by
  obtain ⟨m, rfl⟩ := Int.eq_ofNat_of_zero_le hy
  exact or_join x h0 j m (by simpa using hm) hx hj (by omega)

theorem number_any (ao : Option Addr) (l : List Int) (c : Nat) (w : World) (h : RdB w ao l) (hb : Byt l) (hl : l.length ≤ 4) :
    Calls Try.prog 35 #[.slice ao l.length c] w fun e w' => e = .returned (.int .u32 (num l)) ∧ w' = w := by
  go_enter Try.func35, Try.ntmps35
  go_wp2
  go_loop [3, 8] (fun x i => ∃ k : Nat, k ≤ l.length ∧ i = .int .i64 k ∧ x = .int .u32 (num (l.take k))) (fun _ i => l.length - (intOf i).toNat)
  case atStart => exact ⟨0, Nat.zero_le _, rfl, rfl⟩
  case round =>
    obtain ⟨k, hk, rfl, rfl⟩ := hrel
    by_cases hlt : k < l.length
    · obtain ⟨b, o, rfl, hbl, hc⟩ := h k hlt
      have hx := hb (l.getD k 0) (by simp [List.getD, hlt])
      have hn := num_bound (l := l.take k) (fun x hx => hb x (List.mem_of_mem_take hx))
      have hs : num (l.take (k + 1)) = num (l.take k) + l.getD k 0 * 256 ^ k := by
        rw [List.take_succ_eq_append_getElem hlt, num_snoc]
        simp [hlt, Nat.min_eq_left (Nat.le_of_lt hlt)]
      have HS := Lib.hid hs
      obtain ⟨hx0, hx1⟩ := hx
      clear hs h hb
      generalize l.getD k 0 = cv at *
      have hk4 : k < 4 := by omega
      rcases (by omega : k = 0 ∨ k = 1 ∨ k = 2 ∨ k = 3) with rfl | rfl | rfl | rfl
      all_goals
        have hnb := hn.2
        have hn0 := hn.1
        simp only [List.length_take, Nat.min_eq_left hk] at hnb
        clear hn
        try simp only [Nat.add_zero] at hc
        go_wp2
        refine ⟨⟨_, hlt, rfl, ?_⟩, by simp [intOf]; omega⟩
        rw [HS.out]
        congr 1
      · simpa [num] using or_put 0 cv 0 (by decide) (by decide) (by decide) hx0 (by omega) (by omega)
      · exact or_put _ _ 8 hn0 (by simpa using hnb) (by decide) (by omega) (by omega) (by omega)
      · exact or_put _ _ 16 hn0 (by simpa using hnb) (by decide) (by omega) (by omega) (by omega)
      · exact or_put _ _ 24 hn0 (by simpa using hnb) (by decide) (by omega) (by omega) (by omega)
    · obtain rfl : k = l.length := by omega
      rw [List.take_length]
      go_wp2
      go_ret
      exact ⟨rfl, rfl⟩
end Go.Proofs.Ytoocbodkjldlcaa.Sp
