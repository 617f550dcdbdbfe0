/- The memories: a number put. -/
import Derived.Test.YtomiodlipibloaaFC
namespace Go.Proofs.Ytomiodlipibloaa.F
set_option linter.unusedVariables false
set_option linter.unusedSimpArgs false
set_option maxHeartbeats 1000000
open Go.RowKit
theorem putB_succ (x : Int) (k : Nat) (hk : k < 4) : ∃ y, putB x (k + 1) = putB x k ++ [y] ∧ y = x / 256 ^ k % 256 ∧ 0 ≤ y ∧ y < 256 := by
  rcases (by omega : k = 0 ∨ k = 1 ∨ k = 2 ∨ k = 3) with rfl | rfl | rfl | rfl
  · exact ⟨x % 256, rfl, by simp, by omega, by omega⟩
  · exact ⟨x / 256 % 256, rfl, by simp, by omega, by omega⟩
  · exact ⟨x / 65536 % 256, rfl, by simp, by omega, by omega⟩
  · exact ⟨x / 16777216 % 256, rfl, by simp, by omega, by omega⟩
section
variable (p g : Nat) (l : List Int) (w : World)
/-- What a number put leaves. -/
def Put (T : TypeId) (w : World) (p g : Nat) (l : List Int) (w' : World) : Prop := Ram T w' p g l ∧ Upd (fun k => k = g) w w'
theorem rput_yes (A n : Nat) (x : Int) (hR : Ram 102 w p g l) (hpg : p ≠ g) (hn : n ≤ 4) (hl : A + n ≤ l.length) (hA : A < 4294967296) (hx0 : 0 ≤ x) (hx1 : x < 4294967296) :
    Calls Try.prog 39 #[.pointer (some ⟨p, 0, none⟩), .int .u32 A, .int .u32 x, .int .i64 n] w fun e w' => e = .returned (.int .i64 0) ∧ Put 102 w p g (wrt l A (putB x n)) w' := by
  have KI : Hid (∀ W, W = w → Calls Try.prog 54 #[.pointer (some ⟨p, 0, none⟩), .int .u32 A, .int .i64 n] W fun e w' => e = .returned (.bool true) ∧ w' = W) := Lib.hid fun W hW => by
    subst hW
    have := in_any p A n l.length l.length _ W hR.cell hR.len (by omega) (by omega)
    rwa [show thr l.length A n = true by simp [thr]; omega] at this
  have h0 := hR.cell
  have hL := hR.len
  have HR := Lib.hid hR
  clear hR
  generalize hP : Put 102 w p g (wrt l A (putB x n)) = P
  have HP := Lib.hid hP
  clear hP
  go_enter Try.func39, Try.ntmps39
  go_wp2_with (go_at_call 54; refine (KI.out _ rfl).mono ?_; rintro e w' ⟨rfl, rfl⟩)
  clear h0
  go_loopw [24] (fun i W => ∃ k : Nat, k ≤ n ∧ i = .int .i64 k ∧ Hid (Ram 102 W p g (wrt l A (putB x k))) ∧ Hid (Upd (fun k => k = g) w' W)) (fun i _ => n - (intOf i).toNat)
  case atStart => exact ⟨0, Nat.zero_le _, rfl, HR, Lib.hid (Upd.refl _ _)⟩
  case round =>
    obtain ⟨k, hk, rfl, HW, HU⟩ := hrel
    by_cases hlt : k < n
    · have hc := HW.out.cell
      have hw := HW.out.get (i := A + k) (by rw [wrt_len]; omega)
      have hfr := HW.out.row.frozen (A + k)
      rw [wrt_len] at hc
      obtain ⟨y, hy, hyv, hy0, hy1⟩ := putB_succ x k (by omega)
      have HY := Lib.hid hy
      have HYV := Lib.hid hyv
      clear hy hyv
      generalize (wrt l A (putB x k)).getD (A + k) 0 = ov at *
      have hw3 : Hid (Ram 102 ((wr.setCell ⟨g, A + k, none⟩ (.int .u8 y)).drew) p g (wrt l A (putB x (k + 1)))) := Lib.hid <| by
        have := HW.out.set hpg (A + k) hy0 hy1
        rw [HY.out, wrt_snoc, putB_len x k (by omega)]
        exact ⟨this.head, this.row, this.byt, this.len⟩
      have hu3 : Hid (Upd (fun z => z = g) w' ((wr.setCell ⟨g, A + k, none⟩ (.int .u8 y)).drew)) := Lib.hid ((HU.out.setCell (p := ⟨g, A + k, none⟩) (.inl rfl) _).drew)
      have hyv := HYV.out
      clear HYV
      rcases (by omega : k = 0 ∨ k = 1 ∨ k = 2 ∨ k = 3) with rfl | rfl | rfl | rfl
      all_goals
        simp at hyv
        subst hyv
        try simp only [Nat.add_zero] at hw hfr hw3 hu3
        go_wp2_with fail
        go_region
        all_goals go_wp2
        all_goals first | exact ⟨⟨_, hlt, rfl, hw3, hu3⟩, by simp [intOf]; omega⟩ | (rw [show x / 16777216 % 256 = x / 16777216 by omega] at hw3 hu3; exact ⟨⟨_, hlt, rfl, hw3, hu3⟩, by simp [intOf]; omega⟩)
    · obtain rfl : k = n := by omega
      go_wp2
      go_ret
      exact ⟨rfl, by rw [← HP.out]; exact ⟨HW.out, HU.out⟩⟩
def okP (l : List Int) (at_ k : Int) : Bool := thr l.length at_ k && decide (k ≤ 4)
def putF (l : List Int) (at_ x k : Int) : List Int := if okP l at_ k = true then wrt l at_.toNat (putB x k.toNat) else l
def errF (b : Bool) : Int := if b = true then 0 else 6
theorem rput_any (at_ x k : Int) (hR : Ram 102 w p g l) (hpg : p ≠ g) (h0 : 0 ≤ at_) (h1 : at_ < 4294967296) (hx0 : 0 ≤ x) (hx1 : x < 4294967296) :
    Calls Try.prog 39 #[.pointer (some ⟨p, 0, none⟩), .int .u32 at_, .int .u32 x, .int .i64 k] w fun e w' => e = .returned (.int .i64 (errF (okP l at_ k))) ∧ Put 102 w p g (putF l at_ x k) w' := by
  unfold putF okP errF
  have hcell := hR.cell
  have hlen := hR.len
  have HN : Hid (Put 102 w p g l w) := Lib.hid ⟨hR, Upd.refl _ _⟩
  by_cases ht : thr l.length at_ k = true
  · by_cases h4 : k ≤ 4
    · rw [show (thr l.length at_ k && decide (k ≤ 4)) = true by rw [ht]; simpa using h4, if_pos rfl, if_pos rfl]
      simp [thr] at ht
      obtain ⟨A, rfl⟩ := Int.eq_ofNat_of_zero_le h0
      obtain ⟨n, rfl⟩ := Int.eq_ofNat_of_zero_le ht.1
      exact rput_yes p g l w A n x hR hpg (by omega) (by omega) (by omega) hx0 hx1
    · rw [show (thr l.length at_ k && decide (k ≤ 4)) = false by simp; omega, if_neg (by simp), if_neg (by simp)]
      have KI : Hid (∀ W, W = w → Calls Try.prog 54 #[.pointer (some ⟨p, 0, none⟩), .int .u32 at_, .int .i64 k] W fun e w' => e = .returned (.bool true) ∧ w' = W) := Lib.hid fun W hW => by
        subst hW
        have := in_any p at_ k l.length l.length _ W hcell hlen h0 h1
        rwa [ht] at this
      have h4' : 4 < k := by omega
      clear ht h4
      go_enter Try.func39, Try.ntmps39
      go_wp2_with (go_at_call 54; refine (KI.out _ rfl).mono ?_; rintro e w' ⟨rfl, rfl⟩)
      go_ret
      exact ⟨rfl, HN.out⟩
  · rw [show (thr l.length at_ k && decide (k ≤ 4)) = false by rw [show thr l.length at_ k = false by simpa using ht]; rfl, if_neg (by simp), if_neg (by simp)]
    have KI : Hid (∀ W, W = w → Calls Try.prog 54 #[.pointer (some ⟨p, 0, none⟩), .int .u32 at_, .int .i64 k] W fun e w' => e = .returned (.bool false) ∧ w' = W) := Lib.hid fun W hW => by
      subst hW
      have := in_any p at_ k l.length l.length _ W hcell hlen h0 h1
      rwa [show thr l.length at_ k = false by simpa using ht] at this
    clear ht
    go_enter Try.func39, Try.ntmps39
    go_wp2_with (go_at_call 54; refine (KI.out _ rfl).mono ?_; rintro e w' ⟨rfl, rfl⟩)
    go_ret
    exact ⟨rfl, HN.out⟩
theorem sput_yes (A n : Nat) (x : Int) (hR : Ram 51 w p g l) (hpg : p ≠ g) (hn : n ≤ 4) (hl : A + n ≤ l.length) (hA : A < 4294967296) (hx0 : 0 ≤ x) (hx1 : x < 4294967296) :
    Calls Try.prog 44 #[.pointer (some ⟨p, 0, none⟩), .int .u32 A, .int .u32 x, .int .i64 n] w fun e w' => e = .returned (.int .i64 0) ∧ Put 51 w p g (wrt l A (putB x n)) w' := by
  have KI : Hid (∀ W, W = w → Calls Try.prog 55 #[.pointer (some ⟨p, 0, none⟩), .int .u32 A, .int .i64 n] W fun e w' => e = .returned (.bool true) ∧ w' = W) := Lib.hid fun W hW => by
    subst hW
    have := there_any p A n l.length l.length _ W hR.cell hR.len (by omega) (by omega)
    rwa [show thr l.length A n = true by simp [thr]; omega] at this
  have h0 := hR.cell
  have hL := hR.len
  have HR := Lib.hid hR
  clear hR
  generalize hP : Put 51 w p g (wrt l A (putB x n)) = P
  have HP := Lib.hid hP
  clear hP
  go_enter Try.func44, Try.ntmps44
  go_wp2_with (go_at_call 55; refine (KI.out _ rfl).mono ?_; rintro e w' ⟨rfl, rfl⟩)
  clear h0
  go_loopw [2, 9] (fun y i W => ∃ k : Nat, k ≤ n ∧ i = .int .i64 k ∧ y = .int .u32 (x / 256 ^ k) ∧ Hid (Ram 51 W p g (wrt l A (putB x k))) ∧ Hid (Upd (fun k => k = g) w' W)) (fun _ i _ => n - (intOf i).toNat)
  case atStart => exact ⟨0, Nat.zero_le _, rfl, by simp, HR, Lib.hid (Upd.refl _ _)⟩
  case round =>
    obtain ⟨k, hk, rfl, rfl, HW, HU⟩ := hrel
    by_cases hlt : k < n
    · have hc := HW.out.cell
      have hw := HW.out.get (i := A + k) (by rw [wrt_len]; omega)
      have hfr := HW.out.row.frozen (A + k)
      rw [wrt_len] at hc
      obtain ⟨y, hy, hyv, hy0, hy1⟩ := putB_succ x k (by omega)
      have HY := Lib.hid hy
      have HYV := Lib.hid hyv
      clear hy hyv
      generalize (wrt l A (putB x k)).getD (A + k) 0 = ov at *
      have hw3 : Hid (Ram 51 (wr.setCell ⟨g, A + k, none⟩ (.int .u8 y)) p g (wrt l A (putB x (k + 1)))) := Lib.hid <| by
        have := HW.out.set hpg (A + k) hy0 hy1
        rw [HY.out, wrt_snoc, putB_len x k (by omega)]
        exact this
      have hu3 : Hid (Upd (fun z => z = g) w' (wr.setCell ⟨g, A + k, none⟩ (.int .u8 y))) := Lib.hid (HU.out.setCell (p := ⟨g, A + k, none⟩) (.inl rfl) _)
      have hp : (0 : Int) < 256 ^ k := Int.pow_pos (by decide)
      have hb0 : 0 ≤ x / 256 ^ k := Int.ediv_nonneg hx0 (by omega)
      have hb1 : x / 256 ^ k < 4294967296 := Int.lt_of_le_of_lt (Int.ediv_le_self _ hx0) hx1
      have hs : x / 256 ^ (k + 1) = x / 256 ^ k / 256 := by rw [Int.ediv_ediv_of_nonneg (by omega)]; congr 1
      have HS := Lib.hid hs
      have hyv := HYV.out
      clear HYV hs hp
      generalize x / 256 ^ k = q at *
      subst hyv
      go_wp2
      refine ⟨⟨k + 1, hlt, by go_num, ?_, hw3, hu3⟩, by simp [intOf]; omega⟩
      rw [HS.out]
    · obtain rfl : k = n := by omega
      go_wp2
      go_ret
      exact ⟨rfl, by rw [← HP.out]; exact ⟨HW.out, HU.out⟩⟩
theorem sput_any (at_ x k : Int) (hR : Ram 51 w p g l) (hpg : p ≠ g) (h0 : 0 ≤ at_) (h1 : at_ < 4294967296) (hx0 : 0 ≤ x) (hx1 : x < 4294967296) (hk0 : 0 ≤ k) :
    Calls Try.prog 44 #[.pointer (some ⟨p, 0, none⟩), .int .u32 at_, .int .u32 x, .int .i64 k] w fun e w' => e = .returned (.int .i64 (errF (okP l at_ k))) ∧ Put 51 w p g (putF l at_ x k) w' := by
  unfold putF okP errF
  have hcell := hR.cell
  have hlen := hR.len
  have HN : Hid (Put 51 w p g l w) := Lib.hid ⟨hR, Upd.refl _ _⟩
  by_cases h4 : k ≤ 4
  · by_cases ht : thr l.length at_ k = true
    · rw [show (thr l.length at_ k && decide (k ≤ 4)) = true by rw [ht]; simpa using h4, if_pos rfl, if_pos rfl]
      simp [thr] at ht
      obtain ⟨A, rfl⟩ := Int.eq_ofNat_of_zero_le h0
      obtain ⟨n, rfl⟩ := Int.eq_ofNat_of_zero_le ht.1
      exact sput_yes p g l w A n x hR hpg (by omega) (by omega) (by omega) hx0 hx1
    · rw [show (thr l.length at_ k && decide (k ≤ 4)) = false by rw [show thr l.length at_ k = false by simpa using ht]; rfl, if_neg (by simp), if_neg (by simp)]
      have KI : Hid (∀ W, W = w → Calls Try.prog 55 #[.pointer (some ⟨p, 0, none⟩), .int .u32 at_, .int .i64 k] W fun e w' => e = .returned (.bool false) ∧ w' = W) := Lib.hid fun W hW => by
        subst hW
        have := there_any p at_ k l.length l.length _ W hcell hlen h0 h1
        rwa [show thr l.length at_ k = false by simpa using ht] at this
      clear ht
      go_enter Try.func44, Try.ntmps44
      go_wp2_with (go_at_call 55; refine (KI.out _ rfl).mono ?_; rintro e w' ⟨rfl, rfl⟩)
      go_ret
      exact ⟨rfl, HN.out⟩
  · rw [show (thr l.length at_ k && decide (k ≤ 4)) = false by simp; omega, if_neg (by simp), if_neg (by simp)]
    have h4' : 4 < k := by omega
    clear h4
    go_enter Try.func44, Try.ntmps44
    go_wp2
    go_ret
    exact ⟨rfl, HN.out⟩
end
end Go.Proofs.Ytomiodlipibloaa.F
