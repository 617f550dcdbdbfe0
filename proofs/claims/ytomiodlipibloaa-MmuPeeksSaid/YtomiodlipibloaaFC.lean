/- The memories: a number got, a number put. -/
import Derived.Test.YtomiodlipibloaaFB
namespace Go.Proofs.Ytomiodlipibloaa.F
set_option linter.unusedVariables false
set_option linter.unusedSimpArgs false
set_option maxHeartbeats 1000000
open Go.RowKit

def getF (l : List Int) (at_ k : Int) : Int × Int := if thr l.length at_ k = true ∧ k ≤ 4 then (num ((l.drop at_.toNat).take k.toNat), 0) else (0, 6)
def Two (kd : IntKind) (p : Int × Int) (e : Ending) : Prop := e = .returned (.tuple #[.int kd p.1, .int .i64 p.2])
theorem or_byte (x c : Int) (h0 : 0 ≤ x) (h1 : x < 16777216) (h2 : 0 ≤ c) (h3 : c < 256) : bits .or .u32 (x * 256) c = c + 256 * x := by
  rw [or_comm _ _ (by omega) (by omega) (by omega) (by omega)]
  obtain ⟨m, hm⟩ := Int.eq_ofNat_of_zero_le (show 0 ≤ x * 256 by omega)
  rw [hm, or_join c h2 8 m (by omega) (by omega) (by decide) (by omega)]
  omega
theorem pow256 {k : Nat} (h : k ≤ 3) : (256 : Int) ^ k ≤ 16777216 := by
  rcases (by omega : k = 0 ∨ k = 1 ∨ k = 2 ∨ k = 3) with rfl | rfl | rfl | rfl <;> decide
theorem sub_step (l : List Int) (a n m : Nat) (hm : m < n) (hl : a + n ≤ l.length) : (l.drop (a + m)).take (n - m) = l.getD (a + m) 0 :: (l.drop (a + (m + 1))).take (n - (m + 1)) := by
  rw [List.drop_eq_getElem_cons (show a + m < l.length by omega), show n - m = (n - (m + 1)) + 1 by omega, List.take_succ_cons]
  congr 1
  simp [List.getD, show a + m < l.length by omega]
section
variable (p g : Nat) (l : List Int) (w : World)
theorem rget_yes (A n : Nat) (hR : Ram 102 w p g l) (hn : n ≤ 4) (hl : A + n ≤ l.length) (hA : A < 4294967296) :
    Calls Try.prog 41 #[.pointer (some ⟨p, 0, none⟩), .int .u32 A, .int .i64 n] w fun e w' => Two .u32 (num ((l.drop A).take n), 0) e ∧ w' = w := by
  have KI : Hid (∀ W, W = w → Calls Try.prog 54 #[.pointer (some ⟨p, 0, none⟩), .int .u32 A, .int .i64 n] W fun e w' => e = .returned (.bool true) ∧ w' = W) := Lib.hid fun W hW => by
    subst hW
    have := in_any p A n l.length l.length _ W hR.cell hR.len (by omega) (by omega)
    rwa [show thr l.length A n = true by simp [thr]; omega] at this
  have h0 := hR.cell
  have hL := hR.len
  have HR := Lib.hid hR
  clear hR
  unfold Two
  go_enter Try.func41, Try.ntmps41
  go_wp2_with (go_at_call 54; refine (KI.out _ rfl).mono ?_; rintro e w' ⟨rfl, rfl⟩)
  go_loop [8, 9] (fun x i => ∃ m : Nat, m ≤ n ∧ i = .int .i64 ((m : Int) - 1) ∧ x = .int .u32 (num ((l.drop (A + m)).take (n - m)))) (fun _ i => (intOf i + 1).toNat)
  case atStart => exact ⟨n, Nat.le_refl _, rfl, by simp [num]⟩
  case round =>
    obtain ⟨m, hm, rfl, rfl⟩ := hrel
    have hb := HR.out.byt
    cases m with
    | zero =>
      go_wp2
      exact bodyPost_ret (v := .tuple #[_, _]) (by simp [results, Try.results41, go_sem]) rfl ⟨rfl, rfl⟩
    | succ m =>
      have hc := HR.out.get (show A + m < l.length by omega)
      have hx := hb.get (show A + m < l.length by omega)
      have hs := sub_step l A n m (by omega) hl
      have hnb := num_bound ((hb.drop (A + (m + 1))).take (n - (m + 1)))
      have hlen : ((l.drop (A + (m + 1))).take (n - (m + 1))).length ≤ 3 := by simp; omega
      have hp := pow256 hlen
      obtain ⟨hx0, hx1⟩ := hx
      obtain ⟨hn0, hn1⟩ := hnb
      have hn2 := Int.lt_of_lt_of_le hn1 hp
      have hy : num ((l.drop (A + m)).take (n - m)) = l.getD (A + m) 0 + 256 * num ((l.drop (A + (m + 1))).take (n - (m + 1))) := by rw [hs]; rfl
      have HY := Lib.hid hy
      clear hs hn1 hp hlen hb hy
      generalize num ((l.drop (A + (m + 1))).take (n - (m + 1))) = y at *
      generalize l.getD (A + m) 0 = cv at *
      have HO := Lib.hid (or_byte y cv hn0 hn2 hx0 hx1)
      have e : ((m + 1 : Nat) : Int) - 1 = m := by omega
      simp only [e]
      clear e
      go_wp2
      refine ⟨⟨m, by omega, rfl, ?_⟩, by simp [intOf]⟩
      rw [HO.out, HY.out]
theorem rget_any (at_ k : Int) (hR : Ram 102 w p g l) (h0 : 0 ≤ at_) (h1 : at_ < 4294967296) :
    Calls Try.prog 41 #[.pointer (some ⟨p, 0, none⟩), .int .u32 at_, .int .i64 k] w fun e w' => Two .u32 (getF l at_ k) e ∧ w' = w := by
  unfold getF
  have hcell := hR.cell
  have hlen := hR.len
  by_cases ht : thr l.length at_ k = true
  · by_cases h4 : k ≤ 4
    · rw [if_pos ⟨ht, h4⟩]
      simp [thr] at ht
      obtain ⟨A, rfl⟩ := Int.eq_ofNat_of_zero_le h0
      obtain ⟨n, rfl⟩ := Int.eq_ofNat_of_zero_le ht.1
      exact rget_yes p g l w A n hR (by omega) (by omega) (by omega)
    · rw [if_neg (fun h => h4 h.2)]
      have KI : Hid (∀ W, W = w → Calls Try.prog 54 #[.pointer (some ⟨p, 0, none⟩), .int .u32 at_, .int .i64 k] W fun e w' => e = .returned (.bool true) ∧ w' = W) := Lib.hid fun W hW => by
        subst hW
        have := in_any p at_ k l.length l.length _ W hcell hlen h0 h1
        rwa [ht] at this
      have h4' : 4 < k := by omega
      clear ht h4
      unfold Two
      go_enter Try.func41, Try.ntmps41
      go_wp2_with (go_at_call 54; refine (KI.out _ rfl).mono ?_; rintro e w' ⟨rfl, rfl⟩)
      exact bodyPost_ret (v := .tuple #[_, _]) (by simp [results, Try.results41, go_sem]) rfl ⟨rfl, rfl⟩
  · rw [if_neg (fun h => ht h.1)]
    have KI : Hid (∀ W, W = w → Calls Try.prog 54 #[.pointer (some ⟨p, 0, none⟩), .int .u32 at_, .int .i64 k] W fun e w' => e = .returned (.bool false) ∧ w' = W) := Lib.hid fun W hW => by
      subst hW
      have := in_any p at_ k l.length l.length _ W hcell hlen h0 h1
      rwa [show thr l.length at_ k = false by simpa using ht] at this
    clear ht
    unfold Two
    go_enter Try.func41, Try.ntmps41
    go_wp2_with (go_at_call 54; refine (KI.out _ rfl).mono ?_; rintro e w' ⟨rfl, rfl⟩)
    exact bodyPost_ret (v := .tuple #[_, _]) (by simp [results, Try.results41, go_sem]) rfl ⟨rfl, rfl⟩
theorem take_snocD (l : List Int) (A k : Nat) (h : A + k < l.length) : (l.drop A).take (k + 1) = (l.drop A).take k ++ [l.getD (A + k) 0] := by
  rw [List.take_succ_eq_append_getElem (by simp; omega)]
  congr 2
  simp [List.getD, h]
theorem sget_yes (A n : Nat) (hR : Ram 51 w p g l) (hn : n ≤ 4) (hl : A + n ≤ l.length) (hA : A < 4294967296) :
    Calls Try.prog 50 #[.pointer (some ⟨p, 0, none⟩), .int .u32 A, .int .i64 n] w fun e w' => Two .u32 (num ((l.drop A).take n), 0) e ∧ w' = w := by
  have KI : Hid (∀ W, W = w → Calls Try.prog 55 #[.pointer (some ⟨p, 0, none⟩), .int .u32 A, .int .i64 n] W fun e w' => e = .returned (.bool true) ∧ w' = W) := Lib.hid fun W hW => by
    subst hW
    have := there_any p A n l.length l.length _ W hR.cell hR.len (by omega) (by omega)
    rwa [show thr l.length A n = true by simp [thr]; omega] at this
  have h0 := hR.cell
  have hL := hR.len
  have HR := Lib.hid hR
  clear hR
  unfold Two
  go_enter Try.func50, Try.ntmps50
  go_wp2_with (go_at_call 55; refine (KI.out _ rfl).mono ?_; rintro e w' ⟨rfl, rfl⟩)
  go_loop [8, 9, 10] (fun x s i => ∃ k : Nat, k ≤ n ∧ i = .int .i64 k ∧ s = .int .u32 (256 ^ k % 4294967296) ∧ x = .int .u32 (num ((l.drop A).take k))) (fun _ _ i => n - (intOf i).toNat)
  case atStart => exact ⟨0, Nat.zero_le _, rfl, rfl, rfl⟩
  case round =>
    obtain ⟨k, hk, rfl, rfl, rfl⟩ := hrel
    have hb := HR.out.byt
    by_cases hlt : k < n
    · have hc := HR.out.get (show A + k < l.length by omega)
      have hx := hb.get (show A + k < l.length by omega)
      have hs : num ((l.drop A).take (k + 1)) = num ((l.drop A).take k) + l.getD (A + k) 0 * 256 ^ k := by
        rw [take_snocD l A k (by omega), num_snoc]
        simp [show min k (l.length - A) = k by omega]
      have hnb := num_bound ((hb.drop A).take k)
      rw [show ((l.drop A).take k).length = k by simp; omega] at hnb
      obtain ⟨hx0, hx1⟩ := hx
      obtain ⟨hn0, hn1⟩ := hnb
      have HS := Lib.hid hs
      clear hs hb
      generalize l.getD (A + k) 0 = cv at *
      generalize num ((l.drop A).take k) = y at *
      rcases (by omega : k = 0 ∨ k = 1 ∨ k = 2 ∨ k = 3) with rfl | rfl | rfl | rfl
      all_goals
        simp at hn1 HS
        try simp only [Nat.add_zero] at hc
        go_wp2
        refine ⟨⟨_, hlt, rfl, rfl, ?_⟩, by simp [intOf]; omega⟩
        rw [HS.out]
        try rfl
    · obtain rfl : k = n := by omega
      go_wp2
      exact bodyPost_ret (v := .tuple #[_, _]) (by simp [results, Try.results50, go_sem]) rfl ⟨rfl, rfl⟩
theorem sget_any (at_ k : Int) (hR : Ram 51 w p g l) (h0 : 0 ≤ at_) (h1 : at_ < 4294967296) (hk0 : 0 ≤ k) :
    Calls Try.prog 50 #[.pointer (some ⟨p, 0, none⟩), .int .u32 at_, .int .i64 k] w fun e w' => Two .u32 (getF l at_ k) e ∧ w' = w := by
  unfold getF
  have hcell := hR.cell
  have hlen := hR.len
  by_cases h4 : k ≤ 4
  · by_cases ht : thr l.length at_ k = true
    · rw [if_pos ⟨ht, h4⟩]
      simp [thr] at ht
      obtain ⟨A, rfl⟩ := Int.eq_ofNat_of_zero_le h0
      obtain ⟨n, rfl⟩ := Int.eq_ofNat_of_zero_le ht.1
      exact sget_yes p g l w A n hR (by omega) (by omega) (by omega)
    · rw [if_neg (fun h => ht h.1)]
      have KI : Hid (∀ W, W = w → Calls Try.prog 55 #[.pointer (some ⟨p, 0, none⟩), .int .u32 at_, .int .i64 k] W fun e w' => e = .returned (.bool false) ∧ w' = W) := Lib.hid fun W hW => by
        subst hW
        have := there_any p at_ k l.length l.length _ W hcell hlen h0 h1
        rwa [show thr l.length at_ k = false by simpa using ht] at this
      clear ht
      unfold Two
      go_enter Try.func50, Try.ntmps50
      go_wp2_with (go_at_call 55; refine (KI.out _ rfl).mono ?_; rintro e w' ⟨rfl, rfl⟩)
      exact bodyPost_ret (v := .tuple #[_, _]) (by simp [results, Try.results50, go_sem]) rfl ⟨rfl, rfl⟩
  · rw [if_neg (fun h => h4 h.2)]
    have h4' : 4 < k := by omega
    clear h4
    unfold Two
    go_enter Try.func50, Try.ntmps50
    go_wp2
    exact bodyPost_ret (v := .tuple #[_, _]) (by simp [results, Try.results50, go_sem]) rfl ⟨rfl, rfl⟩
end
end Go.Proofs.Ytomiodlipibloaa.F
