/- Numbers: the bits of an entry, what one may, where a byte lies. -/
import Derived.Test.YtomiodlipibloaaReg
import Derived.Laws.BitsAllLaws
namespace Go.Proofs.Ytomiodlipibloaa.F
set_option linter.unusedVariables false
set_option linter.unusedSimpArgs false
open Go.RowKit

theorem and_mask (x : Int) (h0 : 0 ≤ x) (h1 : x < 4294967296) (j : Nat) (hj : j ≤ 32) : bits .and .u32 x (2 ^ j - 1 : Nat) = x % (2 ^ j : Nat) := by
  have hlt : 2 ^ j - 1 < 4294967296 := by
    have : 2 ^ j ≤ 2 ^ 32 := Nat.pow_le_pow_right (by decide) hj
    have : 0 < 2 ^ j := Nat.pow_pos (by decide)
    omega
  rw [u32_and x _ h0 h1 (Int.natCast_nonneg _) (by omega), Int.toNat_natCast, Nat.and_two_pow_sub_one_eq_mod, Int.natCast_emod, Int.toNat_of_nonneg h0]
theorem and_bit (x : Int) (h0 : 0 ≤ x) (h1 : x < 4294967296) (j : Nat) (hj : j < 32) : bits .and .u32 x (2 ^ j : Nat) = ((x.toNat / 2 ^ j % 2 * 2 ^ j : Nat) : Int) := by
  have hlt : 2 ^ j < 4294967296 := by
    have : 2 ^ j < 2 ^ 32 := Nat.pow_lt_pow_right (by decide) hj
    omega
  rw [u32_and x _ h0 h1 (Int.natCast_nonneg _) (by omega), Int.toNat_natCast, nat_bit]
theorem or_join (x : Int) (h0 : 0 ≤ x) (j : Nat) (m : Nat) (hm : m % 2 ^ j = 0) (hx : x < (2 ^ j : Nat)) (hj : j ≤ 32) (hm2 : m < 4294967296) : bits .or .u32 x m = x + m := by
  have hlt : 2 ^ j ≤ 4294967296 := Nat.pow_le_pow_right (n := 2) (by decide) hj
  rw [u32_or x _ h0 (by omega) (by omega) (by omega), Int.toNat_natCast, Nat.or_comm, nat_join j m x.toNat hm (by omega)]
  omega
theorem or_comm (x y : Int) (h0 : 0 ≤ x) (h1 : x < 4294967296) (h2 : 0 ≤ y) (h3 : y < 4294967296) : bits .or .u32 x y = bits .or .u32 y x := by
  rw [u32_or x y h0 h1 h2 h3, u32_or y x h2 h3 h0 h1, Nat.or_comm]

def bitF (x : Int) (j : Nat) : Bool := decide (x / (2 ^ j : Nat) % 2 = 1)
theorem and_ne (x : Int) (h0 : 0 ≤ x) (h1 : x < 4294967296) (j : Nat) (hj : j < 32) : (bits .and .u32 x (2 ^ j : Nat) != 0) = bitF x j := by
  rw [and_bit x h0 h1 j hj]
  obtain ⟨n, rfl⟩ := Int.eq_ofNat_of_zero_le h0
  unfold bitF
  rw [Int.toNat_natCast]
  have hp : 0 < 2 ^ j := Nat.pow_pos (by decide)
  have e : ((n : Int) / (2 ^ j : Nat) % 2) = ((n / 2 ^ j % 2 : Nat) : Int) := by simp
  rw [e]
  have : n / 2 ^ j % 2 = 0 ∨ n / 2 ^ j % 2 = 1 := by omega
  rcases this with h | h
  · rw [h]; simp
  · have hne : (((1 * 2 ^ j : Nat) : Int) != 0) = true := by rw [bne_iff_ne, Nat.one_mul]; omega
    rw [h, hne]
    rfl
theorem ri {k : IntKind} {a b : Int} (h : a = b) : Ending.returned (.int k a) = .returned (.int k b) := by rw [h]
theorem rb {a b : Bool} (h : a = b) : Ending.returned (.bool a) = .returned (.bool b) := by rw [h]
def protF (x : Int) : Int := x / 134217728 % 4
def mayF (x : Int) (user write : Bool) : Bool := if user = false then decide (protF x ≠ 0) else if write then decide (protF x = 3) else decide (2 ≤ protF x)
def placeF (x va : Int) : Int := x % 2097152 * 512 + va % 512

section
variable (x va : Int) (w : World) (h0 : 0 ≤ x) (h1 : x < 4294967296)
theorem written_any (h0 : 0 ≤ x) (h1 : x < 4294967296) : Calls Try.prog 85 #[.int .u32 x] w fun e w' => e = .returned (.bool (bitF x 26)) ∧ w' = w := by
  rw [← and_ne x h0 h1 26 (by decide)]
  go_enter Try.func85, Try.ntmps85
  go_wp2
  go_ret
  exact ⟨rfl, rfl⟩
theorem is_any (h0 : 0 ≤ x) (h1 : x < 4294967296) : Calls Try.prog 91 #[.int .u32 x] w fun e w' => e = .returned (.bool (bitF x 31)) ∧ w' = w := by
  rw [← and_ne x h0 h1 31 (by decide)]
  go_enter Try.func91, Try.ntmps91
  go_wp2
  go_ret
  exact ⟨rfl, rfl⟩
theorem frame_any (h0 : 0 ≤ x) (h1 : x < 4294967296) : Calls Try.prog 92 #[.int .u32 x] w fun e w' => e = .returned (.int .u32 (x % 2097152)) ∧ w' = w := by
  have e := and_mask x h0 h1 21 (by decide)
  have E := Lib.hid e
  clear e
  go_enter Try.func92, Try.ntmps92
  go_wp2
  go_ret
  exact ⟨by have := E.out; simp only [Nat.reducePow, Nat.add_one_sub_one] at this; rw [← show ((2097152 : Nat) : Int) = 2097152 from rfl, ← this]; rfl, rfl⟩
theorem prot_any (h0 : 0 ≤ x) (h1 : x < 4294967296) : Calls Try.prog 93 #[.int .u32 x] w fun e w' => e = .returned (.int .i64 (protF x)) ∧ w' = w := by
  have e := and_mask (x / 134217728) (by omega) (by omega) 2 (by decide)
  have E := Lib.hid e
  clear e
  go_enter Try.func93, Try.ntmps93
  go_wp2
  go_ret
  exact ⟨ri (by have : bits BinOp.and IntKind.u32 (x / 134217728) 3 = x / 134217728 % 4 := E.out; rw [this]; unfold protF wrap64; omega), rfl⟩
theorem place_num (h0 : 0 ≤ x) (h1 : x < 4294967296) (h2 : 0 ≤ va) (h3 : va < 4294967296) : bits BinOp.or IntKind.u32 (x % 2097152 * 512) (bits BinOp.and IntKind.u32 va 511) = placeF x va := by
  have e : bits BinOp.and IntKind.u32 va 511 = va % 512 := and_mask va h2 h3 9 (by decide)
  rw [e, or_comm _ _ (by omega) (by omega) (by omega) (by omega)]
  obtain ⟨m, hm⟩ := Int.eq_ofNat_of_zero_le (show 0 ≤ x % 2097152 * 512 by omega)
  unfold placeF
  rw [hm, or_join _ (by omega) 9 m (by omega) (by omega) (by decide) (by omega)]
  omega
theorem place_any (h0 : 0 ≤ x) (h1 : x < 4294967296) (h2 : 0 ≤ va) (h3 : va < 4294967296) : Calls Try.prog 81 #[.int .u32 x, .int .u32 va] w fun e w' => e = .returned (.int .u32 (placeF x va)) ∧ w' = w := by
  go_enter Try.func81, Try.ntmps81
  go_wp2_with (go_at_call 92; refine (frame_any _ _ h0 h1).mono ?_; rintro e w' ⟨rfl, rfl⟩)
  go_ret
  exact ⟨ri (place_num x va h0 h1 h2 h3), rfl⟩
theorem may_any (user write : Bool) (h0 : 0 ≤ x) (h1 : x < 4294967296) : Calls Try.prog 90 #[.int .u32 x, .bool user, .bool write] w fun e w' => e = .returned (.bool (mayF x user write)) ∧ w' = w := by
  have KP : Hid (∀ W, Calls Try.prog 93 #[.int .u32 x] W fun e w' => e = .returned (.int .i64 (protF x)) ∧ w' = W) := Lib.hid fun W => prot_any x W h0 h1
  unfold mayF
  generalize protF x = p at *
  cases user <;> cases write
  all_goals
    go_enter Try.func90, Try.ntmps90
    go_wp2_with (go_at_call 93; refine (KP.out _).mono ?_; rintro e w' ⟨rfl, rfl⟩)
    go_ret
    exact ⟨rb (by first | rfl | (rw [Bool.eq_iff_iff]; simp)), rfl⟩
/-- The reference's test of a bit. -/
theorem bit_any (n : Nat) (hn : n ≤ 32) (h0 : 0 ≤ x) (h1 : x < 4294967296) : Calls Try.prog 61 #[.int .u32 x, .int .i64 n] w fun e w' => e = .returned (.bool (bitF x n)) ∧ w' = w := by
  unfold bitF
  go_enter Try.func61, Try.ntmps61
  go_wp2
  go_loop [0, 5] (fun y i => ∃ k : Nat, k ≤ n ∧ i = .int .i64 k ∧ y = .int .u32 (x / (2 ^ k : Nat))) (fun _ i => n - (intOf i).toNat)
  case atStart => exact ⟨0, Nat.zero_le _, rfl, by simp⟩
  case round =>
    obtain ⟨k, hk, rfl, rfl⟩ := hrel
    have hp : 0 < 2 ^ k := Nat.pow_pos (by decide)
    have hb0 : 0 ≤ x / (2 ^ k : Nat) := Int.ediv_nonneg h0 (by omega)
    have hb1 : x / (2 ^ k : Nat) < 4294967296 := Int.lt_of_le_of_lt (Int.ediv_le_self _ h0) h1
    have hs : x / (2 ^ (k + 1) : Nat) = x / (2 ^ k : Nat) / 2 := by rw [Int.ediv_ediv_of_nonneg (by omega)]; congr 1
    have HS := Lib.hid hs
    clear hs hp
    generalize hq : x / (2 ^ k : Nat) = q at *
    have HQ := Lib.hid hq
    clear hq
    by_cases hlt : k < n
    · go_wp2
      refine ⟨⟨k + 1, hlt, by go_num, ?_⟩, by simp [intOf]; omega⟩
      rw [HS.out]
    · obtain rfl : k = n := by omega
      go_wp2
      go_ret
      rw [← HQ.out]
      exact ⟨rb (by rw [Bool.eq_iff_iff]; simp), rfl⟩
theorem bit_cases (j : Nat) : bitF x j = true ∨ bitF x j = false := by cases bitF x j <;> simp
theorem protR_any (h0 : 0 ≤ x) (h1 : x < 4294967296) : Calls Try.prog 77 #[.int .u32 x] w fun e w' => e = .returned (.int .i64 (protF x)) ∧ w' = w := by
  have K1 : Hid (∀ W, Calls Try.prog 61 #[.int .u32 x, .int .i64 27] W fun e w' => e = .returned (.bool (bitF x 27)) ∧ w' = W) := Lib.hid fun W => bit_any x W 27 (by decide) h0 h1
  have K2 : Hid (∀ W, Calls Try.prog 61 #[.int .u32 x, .int .i64 28] W fun e w' => e = .returned (.bool (bitF x 28)) ∧ w' = W) := Lib.hid fun W => bit_any x W 28 (by decide) h0 h1
  have e : protF x = (if bitF x 27 then 1 else 0) + (if bitF x 28 then 2 else 0) := by
    unfold protF bitF
    simp only [Nat.reducePow, decide_eq_true_eq]
    split <;> split <;> omega
  rw [e]
  generalize bitF x 27 = b1 at *
  generalize bitF x 28 = b2 at *
  clear e
  cases b1 <;> cases b2
  all_goals
    go_enter Try.func77, Try.ntmps77
    go_wp2_with (first | (go_at_call_of 61 (Value.int .i64 27); refine (K1.out _).mono ?_; rintro e w' ⟨rfl, rfl⟩) | (go_at_call_of 61 (Value.int .i64 28); refine (K2.out _).mono ?_; rintro e w' ⟨rfl, rfl⟩))
    go_ret
    exact ⟨rfl, rfl⟩
theorem mayR_any (user write : Bool) (h0 : 0 ≤ x) (h1 : x < 4294967296) : Calls Try.prog 60 #[.int .u32 x, .bool user, .bool write] w fun e w' => e = .returned (.bool (mayF x user write)) ∧ w' = w := by
  have KP : Hid (∀ W, Calls Try.prog 77 #[.int .u32 x] W fun e w' => e = .returned (.int .i64 (protF x)) ∧ w' = W) := Lib.hid fun W => protR_any x W h0 h1
  have hp : 0 ≤ protF x ∧ protF x < 4 := by unfold protF; omega
  obtain ⟨hp0, hp1⟩ := hp
  unfold mayF
  generalize protF x = p at *
  cases user
  · go_enter Try.func60, Try.ntmps60
    go_wp2_with (go_at_call 77; refine (KP.out _).mono ?_; rintro e w' ⟨rfl, rfl⟩)
    go_ret
    exact ⟨rb (by rw [Bool.eq_iff_iff]; simp; omega), rfl⟩
  · rcases (by omega : p = 0 ∨ p = 1 ∨ p = 2 ∨ p = 3) with rfl | rfl | rfl | rfl <;> cases write
    all_goals
      go_enter Try.func60, Try.ntmps60
      go_wp2_with (go_at_call 77; refine (KP.out _).mono ?_; rintro e w' ⟨rfl, rfl⟩)
      go_ret
      exact ⟨rfl, rfl⟩
theorem placeR_any (h0 : 0 ≤ x) (h1 : x < 4294967296) (h2 : 0 ≤ va) (h3 : va < 4294967296) : Calls Try.prog 63 #[.int .u32 x, .int .u32 va] w fun e w' => e = .returned (.int .u32 (placeF x va)) ∧ w' = w := by
  unfold placeF
  go_enter Try.func63, Try.ntmps63
  go_wp2
  go_ret
  exact ⟨rfl, rfl⟩
/-- From 0 to 4. -/
def sizeF (n : Int) : Int := if n < 0 then 0 else if 4 < n then 4 else n
theorem size_any (n : Int) : Calls Try.prog 73 #[.int .i64 n] w fun e w' => e = .returned (.int .i64 (sizeF n)) ∧ w' = w := by
  unfold sizeF
  by_cases ha : n < 0
  · rw [if_pos ha]
    go_enter Try.func73, Try.ntmps73
    go_wp2
    go_ret
    exact ⟨rfl, rfl⟩
  rw [if_neg ha]
  by_cases hb : 4 < n
  · rw [if_pos hb]
    go_enter Try.func73, Try.ntmps73
    go_wp2
    go_ret
    exact ⟨rfl, rfl⟩
  · rw [if_neg hb]
    go_enter Try.func73, Try.ntmps73
    go_wp2
    go_ret
    exact ⟨rfl, rfl⟩
end
end Go.Proofs.Ytomiodlipibloaa.F
