/- Encode. -/
import Derived.Test.YtoocbodkjldlcaaSpK
import Derived.Test.YtoocbodkjldlcaaSpN
namespace Go.Proofs.Ytoocbodkjldlcaa.Sp
set_option linter.unusedVariables false
set_option linter.unusedSimpArgs false
set_option maxHeartbeats 4000000
open Go.RowKit
section
variable (k r i v m acc n : Int) (w : World)
theorem enc_1 (hm : msk n = 0) : Calls Try.prog 18 #[.agg (Spc.cells ⟨k, r, i, v, m⟩), .agg #[.int .u8 acc, .int .i64 n]] w (Enc w ([], 1)) := by
  unfold Spc.cells
  simp only []
  go_enter Try.func18, Try.ntmps18
  go_wp2_with (go_at_call 24; refine (msk_any _ _).mono ?_; rintro e w' ⟨rfl, rfl⟩; rw [hm])
  exact bodyPost_ret (v := .tuple #[_, _]) (by simp [results, Try.results18, go_sem]) rfl ⟨_, rfl, OwnB.none _ _, ((Upd.refl _ w).alloc _).alloc _⟩
theorem encb_k (hm : (msk n == 0) = false) (hk : (k != 12) = true) (hv : 0 ≤ v) (hv2 : v < 4294967296) : Calls Try.prog 18 #[.agg (Spc.cells ⟨k, r, i, v, m⟩), .agg #[.int .u8 98, .int .i64 n]] w (Enc w ([], 1)) := by
  unfold Spc.cells
  simp only []
  have KX : Hid (∀ W, Calls Try.prog 25 #[.int .u32 v, .int .i64 n] W fun e w' => e = .returned (.int .u32 (ext v n)) ∧ w' = W) := Lib.hid fun W => ext_any v n W hv hv2
  go_enter Try.func18, Try.ntmps18
  go_wp2_with (go_at_call 24; refine (msk_any _ _).mono ?_; rintro e w' ⟨rfl, rfl⟩)
  go_quiet (first | (go_at_call 25; refine Calls.quiet_of_same (KX.out _)))
  go_wp2
  exact bodyPost_ret (v := .tuple #[_, _]) (by simp [results, Try.results18, go_sem]) rfl ⟨_, rfl, OwnB.none _ _, (((Upd.refl _ w).alloc _).alloc _).drewN _⟩
theorem encb_i (hm : (msk n == 0) = false) (hi : 0 ≤ i) (hv : 0 ≤ v) (hv2 : v < 4294967296) : Calls Try.prog 18 #[.agg (Spc.cells ⟨12, r, i, v, m⟩), .agg #[.int .u8 98, .int .i64 n]] w (Enc w ([], 1)) := by
  unfold Spc.cells
  simp only []
  have KX : Hid (∀ W, Calls Try.prog 25 #[.int .u32 v, .int .i64 n] W fun e w' => e = .returned (.int .u32 (ext v n)) ∧ w' = W) := Lib.hid fun W => ext_any v n W hv hv2
  go_enter Try.func18, Try.ntmps18
  go_wp2_with (go_at_call 24; refine (msk_any _ _).mono ?_; rintro e w' ⟨rfl, rfl⟩)
  go_quiet (first | (go_at_call 25; refine Calls.quiet_of_same (KX.out _)))
  go_wp2
  exact bodyPost_ret (v := .tuple #[_, _]) (by simp [results, Try.results18, go_sem]) rfl ⟨_, rfl, OwnB.none _ _, (((Upd.refl _ w).alloc _).alloc _).drewN _⟩
theorem encb_r0 (hm : (msk n == 0) = false) (hi : i < 0) (hr : r < 0) (hv : 0 ≤ v) (hv2 : v < 4294967296) : Calls Try.prog 18 #[.agg (Spc.cells ⟨12, r, i, v, m⟩), .agg #[.int .u8 98, .int .i64 n]] w (Enc w ([], 1)) := by
  unfold Spc.cells
  simp only []
  have KX : Hid (∀ W, Calls Try.prog 25 #[.int .u32 v, .int .i64 n] W fun e w' => e = .returned (.int .u32 (ext v n)) ∧ w' = W) := Lib.hid fun W => ext_any v n W hv hv2
  have hi2 : ¬ 0 ≤ i := by omega
  clear hi
  go_enter Try.func18, Try.ntmps18
  go_wp2_with (go_at_call 24; refine (msk_any _ _).mono ?_; rintro e w' ⟨rfl, rfl⟩)
  go_quiet (first | (go_at_call 25; refine Calls.quiet_of_same (KX.out _)))
  go_wp2
  exact bodyPost_ret (v := .tuple #[_, _]) (by simp [results, Try.results18, go_sem]) rfl ⟨_, rfl, OwnB.none _ _, (((Upd.refl _ w).alloc _).alloc _).drewN _⟩
theorem encb_r1 (hm : (msk n == 0) = false) (hi : i < 0) (hr0 : 0 ≤ r) (hr : 15 < r) (hv : 0 ≤ v) (hv2 : v < 4294967296) : Calls Try.prog 18 #[.agg (Spc.cells ⟨12, r, i, v, m⟩), .agg #[.int .u8 98, .int .i64 n]] w (Enc w ([], 1)) := by
  unfold Spc.cells
  simp only []
  have KX : Hid (∀ W, Calls Try.prog 25 #[.int .u32 v, .int .i64 n] W fun e w' => e = .returned (.int .u32 (ext v n)) ∧ w' = W) := Lib.hid fun W => ext_any v n W hv hv2
  have hi2 : ¬ 0 ≤ i := by omega
  have hr2 : ¬ r < 0 := by omega
  clear hi hr0
  go_enter Try.func18, Try.ntmps18
  go_wp2_with (go_at_call 24; refine (msk_any _ _).mono ?_; rintro e w' ⟨rfl, rfl⟩)
  go_quiet (first | (go_at_call 25; refine Calls.quiet_of_same (KX.out _)))
  go_wp2
  exact bodyPost_ret (v := .tuple #[_, _]) (by simp [results, Try.results18, go_sem]) rfl ⟨_, rfl, OwnB.none _ _, (((Upd.refl _ w).alloc _).alloc _).drewN _⟩
theorem encb_x (hm : (msk n == 0) = false) (hi : i < 0) (hr0 : 0 ≤ r) (hr : r ≤ 15) (hx : (ext v n != v) = true) (hv : 0 ≤ v) (hv2 : v < 4294967296) : Calls Try.prog 18 #[.agg (Spc.cells ⟨12, r, i, v, m⟩), .agg #[.int .u8 98, .int .i64 n]] w (Enc w ([], 1)) := by
  unfold Spc.cells
  simp only []
  have KX : Hid (∀ W, Calls Try.prog 25 #[.int .u32 v, .int .i64 n] W fun e w' => e = .returned (.int .u32 (ext v n)) ∧ w' = W) := Lib.hid fun W => ext_any v n W hv hv2
  have hi2 : ¬ 0 ≤ i := by omega
  have hr2 : ¬ r < 0 := by omega
  have hr3 : ¬ 15 < r := by omega
  go_enter Try.func18, Try.ntmps18
  go_wp2_with (go_at_call 24; refine (msk_any _ _).mono ?_; rintro e w' ⟨rfl, rfl⟩)
  go_quiet (first | (go_at_call 25; refine Calls.quiet_of_same (KX.out _)))
  go_wp2
  exact bodyPost_ret (v := .tuple #[_, _]) (by simp [results, Try.results18, go_sem]) rfl ⟨_, rfl, OwnB.none _ _, (((Upd.refl _ w).alloc _).alloc _).drewN _⟩
theorem encb_ok (n : Nat) (hm : (msk n == 0) = false) (hi : i < 0) (hr0 : 0 ≤ r) (hr : r ≤ 15) (hx : ext v n = v) (hn : n ≤ 4) (hv : 0 ≤ v) (hv2 : v < 4294967296) : Calls Try.prog 18 #[.agg (Spc.cells ⟨12, r, i, v, m⟩), .agg #[.int .u8 98, .int .i64 n]] w (Enc w (putB v n, 0)) := by
  unfold Spc.cells
  simp only []
  have KX0 : Hid (∀ W, Calls Try.prog 25 #[.int .u32 v, .int .i64 n] W fun e w' => e = .returned (.int .u32 (ext v n)) ∧ w' = W) := Lib.hid fun W => ext_any v n W hv hv2
  have KX := KX0.out
  rw [hx] at KX
  have KX := Lib.hid KX
  clear KX0 hx
  have hi2 : ¬ 0 ≤ i := by omega
  have hr2 : ¬ r < 0 := by omega
  have hr3 : ¬ 15 < r := by omega
  clear hi hr0 hr
  go_enter Try.func18, Try.ntmps18
  go_wp2_with (go_at_call 24; refine (msk_any _ _).mono ?_; rintro e w' ⟨rfl, rfl⟩)
  go_quiet (first | (go_at_call 25; refine Calls.quiet_of_same (KX.out _)))
  go_wp2_with fail
  refine (put_any v n _ hv hv2 hn).mono ?_
  rintro e w' ⟨x, rfl, ho, hu⟩
  have HO := Lib.hid (OwnB.low ho (b := w.heap.size) (by show w.heap.size ≤ ((w.alloc _).alloc _).heap.size; rw [World.size_alloc, World.size_alloc]; omega))
  have HU := Lib.hid (((((Upd.refl (fun _ => False) w).alloc _).alloc _).drewN _).then hu)
  clear ho hu
  go_wp2
  exact bodyPost_ret (v := .tuple #[_, _]) (by simp [results, Try.results18, go_sem]) rfl ⟨_, rfl, HO.out, HU.out⟩
end
end Go.Proofs.Ytoocbodkjldlcaa.Sp
