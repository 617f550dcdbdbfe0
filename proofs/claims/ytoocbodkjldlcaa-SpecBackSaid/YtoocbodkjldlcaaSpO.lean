/- Encode, whole; alive. -/
import Derived.Test.YtoocbodkjldlcaaSpL
import Derived.Test.YtoocbodkjldlcaaSpM
import Derived.Test.YtoocbodkjldlcaaSpP
namespace Go.Proofs.Ytoocbodkjldlcaa.Sp
set_option linter.unusedVariables false
set_option linter.unusedSimpArgs false
set_option maxHeartbeats 4000000
set_option maxRecDepth 20000
open Go.RowKit
attribute [local go_sem] Spc.cells badS zeroS
theorem putB_byt (x : Int) (n : Nat) (hx : 0 ≤ x) : Byt (putB x n) := fun y hy => by
  have := List.mem_of_mem_take hy
  simp at this
  omega
theorem code_byt (s : Spc) (n : Nat) (hv : 0 ≤ s.v) (hr0 : 0 ≤ s.r) (hr : s.r ≤ 15) (hi : s.i ≤ 15) : Byt (codeF s n) := by
  have hF : Byt (firstF s n).1 := by
    obtain ⟨k, r, i, v, m⟩ := s
    simp only at hv hr0 hr
    unfold firstF
    simp only
    by_cases h : k = 0
    · rw [if_pos h]; intro y hy; simp at hy; omega
    rw [if_neg h]
    by_cases h5 : 5 ≤ k ∧ k ≤ 9
    · rw [if_pos h5, hd_eq k r (by omega) (by omega) hr0 hr]; intro y hy; simp at hy; omega
    rw [if_neg h5]
    by_cases h10 : k = 10 ∨ k = 11
    · rw [if_pos h10]
      have e1 : hd (16 * k) r = 16 * k + r := hd_eq k r (by omega) (by omega) hr0 hr
      have e2 : hd (16 * k + 32) r = 16 * (k + 2) + r := by rw [show 16 * k + 32 = 16 * (k + 2) by omega, hd_eq (k + 2) r (by omega) (by omega) hr0 hr]
      have e3 : hd (16 * k + 64) r = 16 * (k + 4) + r := by rw [show 16 * k + 64 = 16 * (k + 4) by omega, hd_eq (k + 4) r (by omega) (by omega) hr0 hr]
      rw [e1, e2, e3]
      have hc : ∀ (a : Int) (l : List Int), 0 ≤ a → a < 256 → Byt l → Byt (a :: l) := fun a l h1 h2 hl y hy => by
        rcases List.mem_cons.1 hy with rfl | hy
        · exact ⟨h1, h2⟩
        · exact hl y hy
      simp only
      split
      · exact hc _ _ (by omega) (by omega) (putB_byt _ _ hv)
      split
      · exact hc _ _ (by omega) (by omega) (putB_byt _ _ hv)
      · exact hc _ _ (by omega) (by omega) (putB_byt _ _ hv)
    rw [if_neg h10]
    have hc : ∀ (a : Int) (l : List Int), 0 ≤ a → a < 256 → Byt l → Byt (a :: l) := fun a l h1 h2 hl y hy => by
      rcases List.mem_cons.1 hy with rfl | hy
      · exact ⟨h1, h2⟩
      · exact hl y hy
    split
    · exact hc _ _ (by omega) (by omega) (putB_byt _ _ hv)
    split
    · exact hc _ _ (by omega) (by omega) (putB_byt _ _ hv)
    · intro y hy; simp at hy
  unfold codeF
  split
  · rename_i h0
    rw [ib_eq s.i h0 hi]
    intro y hy
    rcases List.mem_cons.1 hy with rfl | hy
    · omega
    · exact hF y hy
  · exact hF
theorem encode_any (s : Spc) (acc n : Int) (w : World) (hv : 0 ≤ s.v) (hv2 : s.v < 4294967296) : Calls Try.prog 18 #[.agg s.cells, .agg #[.int .u8 acc, .int .i64 n]] w (Enc w (encF s acc n)) := by
  obtain ⟨k, r, i, v, m⟩ := s
  simp only at hv hv2
  unfold encF
  by_cases hm : msk n = 0
  · rw [if_pos hm]; exact enc_1 k r i v m acc n w hm
  rw [if_neg hm]
  have hm' : (msk n == 0) = false := by simpa using hm
  obtain ⟨z, rfl, hz⟩ : ∃ z : Nat, n = z ∧ (z = 1 ∨ z = 2 ∨ z = 4) := by
    rcases msk_cases hm with rfl | rfl | rfl
    · exact ⟨1, rfl, by omega⟩
    · exact ⟨2, rfl, by omega⟩
    · exact ⟨4, rfl, by omega⟩
  by_cases hb : acc = 98
  · subst hb
    rw [if_pos rfl]
    unfold encB
    simp only
    by_cases hk : k = 12
    · subst hk
      by_cases hi : i < 0
      · by_cases hr0 : r < 0
        · rw [if_neg (by omega)]; exact encb_r0 r i v m z w hm' hi hr0 hv hv2
        by_cases hr : 15 < r
        · rw [if_neg (by omega)]; exact encb_r1 r i v m z w hm' hi (by omega) hr hv hv2
        by_cases hx : ext v z = v
        · rw [if_pos ⟨rfl, hi, by omega, by omega, hx⟩, Int.toNat_natCast]
          exact encb_ok r i v m w z hm' hi (by omega) (by omega) hx (by omega) hv hv2
        · rw [if_neg (fun h => hx h.2.2.2.2)]
          exact encb_x r i v m z w hm' hi (by omega) (by omega) (by simpa using hx) hv hv2
      · rw [if_neg (by omega)]; exact encb_i r i v m z w hm' (by omega) hv hv2
    · rw [if_neg (by omega)]; exact encb_k k r i v m z w hm' (by simpa using hk) hv hv2
  rw [if_neg hb]
  simp only [Int.toNat_natCast]
  have := enc_gen k r i v m acc z w hm' (by simpa using hb) hv hv2 (by omega) (by omega) (firstF ⟨k, r, i, v, m⟩ z).1 (firstF ⟨k, r, i, v, m⟩ z).2 rfl (codeF ⟨k, r, i, v, m⟩ z) rfl
    (fun _ h1 h2 h3 => code_byt ⟨k, r, i, v, m⟩ z hv h1 h2 h3)
  exact this
theorem alive_any (w : World) : Calls Try.prog 17 #[] w fun e w' => e = .returned (.bool true) ∧ Upd (fun _ => False) w w' := by
  have hrd : ∀ W : World, RdB (W.alloc (.cells #[.int .u8 66, .int .u8 165, .int .u8 254] 5)) (some ⟨W.heap.size, 0, none⟩) [66, 165, 254] := fun W i hi => by
    refine ⟨W.heap.size, 0, rfl, by rw [World.size_alloc]; omega, ?_⟩
    rw [(Blk.new W _ 5).cell]
    simp only [List.length_cons, List.length_nil] at hi
    match i, hi with
    | 0, _ => rfl
    | 1, _ => rfl
    | 2, _ => rfl
  have hd : decF [66, 165, 254] 114 4 = (⟨10, 5, 2, 4294967294, 3⟩, 0) := by decide +kernel
  have hb : Byt [66, 165, 254] := fun y hy => by simp at hy; omega
  have KD : Hid (∀ W : World, Calls Try.prog 19 #[.slice (some ⟨W.heap.size, 0, none⟩) 3 3, .agg #[.int .u8 114, .int .i64 4]] (W.alloc (.cells #[.int .u8 66, .int .u8 165, .int .u8 254] 5)) (Ans (W.alloc (.cells #[.int .u8 66, .int .u8 165, .int .u8 254] 5)) (⟨10, 5, 2, 4294967294, 3⟩, 0))) := Lib.hid fun W => by
    rw [← hd]; exact decode_any _ [66, 165, 254] 3 114 4 _ (hrd W) hb (by decide)
  clear hrd hd hb
  go_enter Try.func17, Try.ntmps17
  go_wp2_with (go_at_call 19; refine (KD.out _).mono ?_; rintro e w' ⟨rfl, hu⟩; have HU := Lib.hid (((Upd.refl (fun _ => False) w).alloc _).then hu); clear hu)
  go_ret
  exact ⟨rfl, HU.out.alloc _⟩
end Go.Proofs.Ytoocbodkjldlcaa.Sp
