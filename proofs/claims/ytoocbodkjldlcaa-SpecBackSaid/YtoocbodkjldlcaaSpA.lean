/- Specifiers: the small functions on numbers. -/
import Derived.Test.YtoocbodkjldlcaaReg
import Derived.Laws.BitsAllLaws
namespace Go.Proofs.Ytoocbodkjldlcaa.Sp
set_option linter.unusedVariables false
set_option linter.unusedSimpArgs false
open Go.RowKit

/-- A slice of bytes reads as 'l'. -/
def RdB (w : World) (ao : Option Addr) (l : List Int) : Prop := ∀ i, i < l.length → ∃ b o, ao = some ⟨b, o, none⟩ ∧ b < w.heap.size ∧ w.cell? ⟨b, o + i, none⟩ = some (.int .u8 (l.getD i 0))
def Byt (l : List Int) : Prop := ∀ x ∈ l, 0 ≤ x ∧ x < 256
theorem RdB.upd {w w' : World} {ao : Option Addr} {l : List Int} (h : RdB w ao l) (hu : Upd (fun _ => False) w w') : RdB w' ao l := fun i hi => by
  obtain ⟨b, o, e, hb, hc⟩ := h i hi
  refine ⟨b, o, e, Nat.lt_of_lt_of_le hb hu.size, ?_⟩
  rw [← hc]
  exact World.cell?_of_block (hu.block b hb id)

/-- A number of a size, with its sign, in four bytes. -/
def ext (x n : Int) : Int :=
  if n = 1 then (if x % 256 < 128 then x % 256 else x % 256 + 4294967040) else if n = 2 then (if x % 65536 < 32768 then x % 65536 else x % 65536 + 4294901760) else if n = 4 then x else 0

def top (n : Int) : Int := if n = 1 then 128 else if n = 2 then 32768 else if n = 4 then 2147483648 else 0
def msk (n : Int) : Int := if n = 1 then 255 else if n = 2 then 65535 else if n = 4 then 4294967295 else 0
theorem msk_any (n : Int) (w : World) : Calls Try.prog 24 #[.int .i64 n] w fun e w' => e = .returned (.int .u32 (msk n)) ∧ w' = w := by
  unfold msk
  by_cases h1 : n = 1
  · subst h1; go_enter Try.func24, Try.ntmps24; go_wp2; go_ret; exact ⟨rfl, rfl⟩
  by_cases h2 : n = 2
  · subst h2; go_enter Try.func24, Try.ntmps24; go_wp2; go_ret; exact ⟨rfl, rfl⟩
  by_cases h4 : n = 4
  · subst h4; go_enter Try.func24, Try.ntmps24; go_wp2; go_ret; exact ⟨rfl, rfl⟩
  · have b1 : (n == 1) = false := by simp [h1]
    have b2 : (n == 2) = false := by simp [h2]
    have b4 : (n == 4) = false := by simp [h4]
    rw [if_neg h1, if_neg h2, if_neg h4]
    clear h1 h2 h4
    go_enter Try.func24, Try.ntmps24; go_wp2; go_ret; exact ⟨rfl, rfl⟩
theorem top_any (n : Int) (w : World) : Calls Try.prog 37 #[.int .i64 n] w fun e w' => e = .returned (.int .u32 (top n)) ∧ w' = w := by
  have km := fun W => msk_any n W
  have ht : bits BinOp.andNot IntKind.u32 (msk n) (msk n / 2) = top n := by
    unfold msk top
    split
    · decide
    split
    · decide
    split <;> decide
  have hm : 0 ≤ msk n ∧ msk n < 4294967296 := by unfold msk; split; decide; split; decide; split <;> decide
  obtain ⟨hm0, hm1⟩ := hm
  have HT := Lib.hid ht
  have KM := Lib.hid km
  clear ht km
  generalize msk n = M at *
  go_enter Try.func37, Try.ntmps37
  go_wp2_with (go_at_call 24; refine (KM.out _).mono ?_; rintro e w' ⟨rfl, rfl⟩)
  go_ret
  exact ⟨by rw [← HT.out]; rfl, rfl⟩
def negB (x n : Int) : Bool := bits BinOp.and IntKind.u32 x (top n) != 0
theorem neg_any (x n : Int) (w : World) : Calls Try.prog 33 #[.int .u32 x, .int .i64 n] w fun e w' => e = .returned (.bool (negB x n)) ∧ w' = w := by
  have km := fun W => top_any n W
  unfold negB
  have KM := Lib.hid km
  clear km
  generalize top n = M at *
  go_enter Try.func33, Try.ntmps33
  go_wp2_with (go_at_call 37; refine (KM.out _).mono ?_; rintro e w' ⟨rfl, rfl⟩)
  go_ret
  exact ⟨rfl, rfl⟩

theorem and_mask (x : Int) (h0 : 0 ≤ x) (h1 : x < 4294967296) (j : Nat) (hj : j ≤ 32) : bits .and .u32 x (2 ^ j - 1 : Nat) = x % (2 ^ j : Nat) := by
  have hlt : 2 ^ j - 1 < 4294967296 := by
    have : 2 ^ j ≤ 2 ^ 32 := Nat.pow_le_pow_right (by decide) hj
    have : 0 < 2 ^ j := Nat.pow_pos (by decide)
    omega
  rw [u32_and x _ h0 h1 (Int.natCast_nonneg _) (by omega), Int.toNat_natCast, Nat.and_two_pow_sub_one_eq_mod, Int.natCast_emod, Int.toNat_of_nonneg h0]
theorem and_bit (x : Int) (h0 : 0 ≤ x) (h1 : x < 4294967296) (j : Nat) (hj : j < 32) : bits .and .u32 x (2 ^ j : Nat) = ((x.toNat / 2 ^ j % 2 * 2 ^ j : Nat) : Int) := by
  have hlt : 2 ^ j < 4294967296 := by
    have : 2 ^ j < 2 ^ 32 := Nat.pow_lt_pow_right (by decide) hj
    omega
  rw [u32_and x _ h0 h1 (Int.natCast_nonneg _) (by omega), Int.toNat_natCast, nat_bit]
theorem or_join (x : Int) (h0 : 0 ≤ x) (j : Nat) (m : Nat) (hm : m % 2 ^ j = 0) (hx : x < (2 ^ j : Nat)) (hj : j ≤ 32) (hm2 : m < 4294967296) : bits .or .u32 x m = x + m := by
  have hlt : 2 ^ j ≤ 4294967296 := Nat.pow_le_pow_right (n := 2) (by decide) hj
  rw [u32_or x _ h0 (by omega) (by omega) (by omega), Int.toNat_natCast, Nat.or_comm, nat_join j m x.toNat hm (by omega)]
  omega

theorem ext_yes (x n : Int) (h0 : 0 ≤ x) (h1 : x < 4294967296) (hn : negB (bits .and .u32 x (msk n)) n = true) (hs : n = 1 ∨ n = 2 ∨ n = 4) :
    bits .or .u32 (bits .and .u32 x (msk n)) (bits BinOp.xor IntKind.u32 IntKind.u32.max (msk n)) = ext x n := by
  rw [show bits BinOp.xor IntKind.u32 IntKind.u32.max (msk n) = 4294967295 - msk n by rcases hs with rfl | rfl | rfl <;> decide]
  rcases hs with rfl | rfl | rfl
  · have e : bits .and .u32 x 255 = x % 256 := and_mask x h0 h1 8 (by decide)
    have e2 : bits .and .u32 (x % 256) 128 = _ := and_bit (x % 256) (by omega) (by omega) 7 (by decide)
    simp only [negB, msk, top, if_true, e, e2, ext] at *
    rw [if_neg (by intro h; rw [show (x % 256).toNat / 2 ^ 7 % 2 * 2 ^ 7 = 0 by omega] at hn; simp at hn)]
    exact or_join (x % 256) (by omega) 8 4294967040 (by decide) (by omega) (by decide) (by decide)
  · have e : bits .and .u32 x 65535 = x % 65536 := and_mask x h0 h1 16 (by decide)
    have e2 : bits .and .u32 (x % 65536) 32768 = _ := and_bit (x % 65536) (by omega) (by omega) 15 (by decide)
    simp only [negB, msk, top, if_true, e, e2, ext, show ¬ (2 : Int) = 1 by decide, if_false] at *
    rw [if_neg (by intro h; rw [show (x % 65536).toNat / 2 ^ 15 % 2 * 2 ^ 15 = 0 by omega] at hn; simp at hn)]
    exact or_join (x % 65536) (by omega) 16 4294901760 (by decide) (by omega) (by decide) (by decide)
  · have e : bits .and .u32 x 4294967295 = x := by have := and_mask x h0 h1 32 (by decide); rw [show x % ((2 ^ 32 : Nat) : Int) = x by omega] at this; exact this
    simp only [negB, msk, top, if_true, e, ext, show ¬ (4 : Int) = 1 by decide, show ¬ (4 : Int) = 2 by decide, if_false] at *
    have := or_join x h0 32 0 (by decide) (by omega) (by decide) (by decide)
    simpa using this
theorem ext_no (x n : Int) (h0 : 0 ≤ x) (h1 : x < 4294967296) (hn : negB (bits .and .u32 x (msk n)) n = false) :
    bits .and .u32 x (msk n) = ext x n := by
  unfold ext
  by_cases h : n = 1
  · subst h
    have e : bits .and .u32 x 255 = x % 256 := and_mask x h0 h1 8 (by decide)
    have e2 : bits .and .u32 (x % 256) 128 = _ := and_bit (x % 256) (by omega) (by omega) 7 (by decide)
    simp only [negB, msk, top, if_true, e, e2] at *
    rw [if_pos (by simp at hn; omega)]
  by_cases h2 : n = 2
  · subst h2
    have e : bits .and .u32 x 65535 = x % 65536 := and_mask x h0 h1 16 (by decide)
    have e2 : bits .and .u32 (x % 65536) 32768 = _ := and_bit (x % 65536) (by omega) (by omega) 15 (by decide)
    simp only [negB, msk, top, if_true, e, e2, show ¬ (2 : Int) = 1 by decide, if_false] at *
    rw [if_pos (by simp at hn; omega)]
  by_cases h4 : n = 4
  · subst h4
    have e : bits .and .u32 x 4294967295 = x := by have := and_mask x h0 h1 32 (by decide); rw [show x % ((2 ^ 32 : Nat) : Int) = x by omega] at this; exact this
    simp only [msk, if_true, e, show ¬ (4 : Int) = 1 by decide, show ¬ (4 : Int) = 2 by decide, if_false]
  · simp only [msk, if_neg h, if_neg h2, if_neg h4]
    have := and_mask x h0 h1 0 (by decide)
    simpa using this
theorem negB_other (x n : Int) (h0 : 0 ≤ x) (h1 : x < 4294967296) (hs : ¬ (n = 1 ∨ n = 2 ∨ n = 4)) : negB x n = false := by
  unfold negB top
  rw [if_neg (by omega), if_neg (by omega), if_neg (by omega)]
  have := and_mask x h0 h1 0 (by decide)
  simp at this
  simp [this]
theorem ext_any (x n : Int) (w : World) (h0 : 0 ≤ x) (h1 : x < 4294967296) :
    Calls Try.prog 25 #[.int .u32 x, .int .i64 n] w fun e w' => e = .returned (.int .u32 (ext x n)) ∧ w' = w := by
  have km := fun W => msk_any n W
  have hx : 0 ≤ bits .and .u32 x (msk n) ∧ bits .and .u32 x (msk n) < 4294967296 := by
    have hm : 0 ≤ msk n ∧ msk n < 4294967296 := by unfold msk; split; decide; split; decide; split <;> decide
    rw [u32_and x _ h0 h1 hm.1 hm.2]
    have := Nat.and_le_left (n := x.toNat) (m := (msk n).toNat)
    omega
  have kn := fun W => neg_any (bits .and .u32 x (msk n)) n W
  have hm : 0 ≤ msk n ∧ msk n < 4294967296 := by unfold msk; split; decide; split; decide; split <;> decide
  obtain ⟨hm0, hm1⟩ := hm
  by_cases hn : negB (bits .and .u32 x (msk n)) n = true
  · have hs : n = 1 ∨ n = 2 ∨ n = 4 := by
      by_cases hs : n = 1 ∨ n = 2 ∨ n = 4
      · exact hs
      · rw [negB_other _ n hx.1 hx.2 hs] at hn; cases hn
    have hv := ext_yes x n h0 h1 hn hs
    rw [hn] at kn
    rw [← hv]
    have KM := Lib.hid km
    have KN := Lib.hid kn
    clear km kn hv hn hs hx
    generalize msk n = M at *
    go_enter Try.func25, Try.ntmps25
    go_wp2_with (first | (go_at_call 24; refine (KM.out _).mono ?_; rintro e w' ⟨rfl, rfl⟩) | (go_at_call 33; refine (KN.out _).mono ?_; rintro e w' ⟨rfl, rfl⟩))
    go_ret
    exact ⟨rfl, rfl⟩
  · have hn' : negB (bits .and .u32 x (msk n)) n = false := by simpa using hn
    have hv := ext_no x n h0 h1 hn'
    rw [hn'] at kn
    rw [← hv]
    have KM := Lib.hid km
    have KN := Lib.hid kn
    clear km kn hv hn hn' hx
    generalize msk n = M at *
    go_enter Try.func25, Try.ntmps25
    go_wp2_with (first | (go_at_call 24; refine (KM.out _).mono ?_; rintro e w' ⟨rfl, rfl⟩) | (go_at_call 33; refine (KN.out _).mono ?_; rintro e w' ⟨rfl, rfl⟩))
    go_ret
    exact ⟨rfl, rfl⟩
end Go.Proofs.Ytoocbodkjldlcaa.Sp
