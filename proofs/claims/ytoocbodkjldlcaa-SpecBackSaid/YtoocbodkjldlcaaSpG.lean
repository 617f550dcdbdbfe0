/- Decode. -/
import Derived.Test.YtoocbodkjldlcaaSpF
import Derived.Lib.SlBytesConst
namespace Go.Proofs.Ytoocbodkjldlcaa.Sp
set_option linter.unusedVariables false
set_option linter.unusedSimpArgs false
set_option maxHeartbeats 1000000
open Go.RowKit
attribute [local go_sem] Spc.cells badS zeroS

def accs : List Int := [114, 119, 109, 97, 118, 98]
def decF (l : List Int) (acc n : Int) : Spc × Int :=
  if msk n = 0 then (zeroS, 1) else if accs.contains acc = false then (zeroS, 1)
  else if acc = 98 then valueF 12 0 0 n.toNat l
  else if l.length = 0 then (zeroS, 3)
  else if l.getD 0 0 / 16 = 4 then indexedF l acc n.toNat
  else plainF l acc n.toNat
theorem msk_cases {n : Int} (h : msk n ≠ 0) : n = 1 ∨ n = 2 ∨ n = 4 := by
  unfold msk at h
  by_cases h1 : n = 1
  · exact .inl h1
  by_cases h2 : n = 2
  · exact .inr (.inl h2)
  by_cases h4 : n = 4
  · exact .inr (.inr h4)
  · simp [h1, h2, h4] at h
theorem rdAccs (W : World) : RdB (W.alloc (.cells #[.int .u8 114, .int .u8 119, .int .u8 109, .int .u8 97, .int .u8 118, .int .u8 98] 5 (6, 7))) (some ⟨W.heap.size, 0, none⟩) accs := by
  intro i hi
  refine ⟨W.heap.size, 0, rfl, by rw [World.size_alloc]; omega, ?_⟩
  have : (W.alloc (.cells #[.int .u8 114, .int .u8 119, .int .u8 109, .int .u8 97, .int .u8 118, .int .u8 98] 5 (6, 7))).heap[W.heap.size]? = some (.cells #[.int .u8 114, .int .u8 119, .int .u8 109, .int .u8 97, .int .u8 118, .int .u8 98] 5 (6, 7)) := by
    show (W.heap.push _)[W.heap.size]? = _
    simp
  unfold World.cell?
  simp only [this]
  simp only [accs, List.length_cons, List.length_nil] at hi
  match i, hi with
  | 0, _ => rfl
  | 1, _ => rfl
  | 2, _ => rfl
  | 3, _ => rfl
  | 4, _ => rfl
  | 5, _ => rfl

theorem rdAccs2 (w : World) (A B : Obj) : RdB (((w.alloc A).alloc B).alloc (.cells #[.int .u8 114, .int .u8 119, .int .u8 109, .int .u8 97, .int .u8 118, .int .u8 98] 5 (6, 7))) (some ⟨w.heap.size + 1 + 1, 0, none⟩) accs := by
  have := rdAccs ((w.alloc A).alloc B)
  rw [World.size_alloc, World.size_alloc] at this
  exact this
theorem conv2 (w : World) (A B : Obj) (C : Array Value) (n c : Nat) : (convert 46 46 (.slice (some ⟨w.heap.size + 1 + 1, 0, none⟩) n c)).run Try.prog (((w.alloc A).alloc B).alloc (.cells C 5)) =
    .ok (.slice (some ⟨w.heap.size + 1 + 1, 0, none⟩) n c) (((w.alloc A).alloc B).alloc (.cells C 5 (C.size, C.size + 1))) := by
  have := Lib.run_convert_bytes_const (P := Try.prog) ((w.alloc A).alloc B) 46 5 C n c Try.underlying46 Try.underlying5
  rw [World.size_alloc, World.size_alloc] at this
  exact this
theorem resBlk3x (w : World) (A C : Obj) : Blk (((w.alloc A).alloc (.cells zs43 43)).alloc C) (w.heap.size + 1) zs43 43 := resBlk3 w A C
section
variable (ao : Option Addr) (l : List Int) (c : Nat) (acc : Int) (n : Int) (w : World)
theorem dec_1 (hm : msk n = 0) : Calls Try.prog 19 #[.slice ao l.length c, .agg #[.int .u8 acc, .int .i64 n]] w (Ans w (zeroS, 1)) := by
  go_enter Try.func19, Try.ntmps19
  go_wp2_with (go_at_call 24; refine (msk_any _ _).mono ?_; rintro e w' ⟨rfl, rfl⟩; rw [hm])
  refine bodyPost_ret (v := .tuple #[.agg zeroS.cells, .int .i64 1]) (by simp [results, Try.results19, go_sem, Spc.cells, zeroS]) rfl ⟨rfl, ?_⟩
  exact ((Upd.refl _ w).alloc _).alloc _
theorem dec_2 (hm : (msk n == 0) = false) (ha : accs.contains acc = false) : Calls Try.prog 19 #[.slice ao l.length c, .agg #[.int .u8 acc, .int .i64 n]] w (Ans w (zeroS, 1)) := by
  have kc := conv2
  go_enter Try.func19, Try.ntmps19
  go_wp2_with (first | (go_at_call 24; refine (msk_any _ _).mono ?_; rintro e w' ⟨rfl, rfl⟩) | (go_at_call 28; refine (contains_any _ accs _ _ _ (rdAccs2 _ _ _) (by decide)).mono ?_; rintro e w' ⟨rfl, rfl⟩; rw [ha]))
  refine bodyPost_ret (v := .tuple #[.agg zeroS.cells, .int .i64 1]) (by simp [results, Try.results19, go_sem, Spc.cells, zeroS]) rfl ⟨rfl, ?_⟩
  exact (((Upd.refl _ w).alloc _).alloc _).alloc _
theorem dec_3 (hm : (msk n == 0) = false) (ha : accs.contains acc = true) (h98 : acc = 98) (p : Spc × Int)
    (KP : ∀ W, Hid (Upd (fun _ => False) w W → Calls Try.prog 29 #[.int .i64 12, .int .i64 0, .int .i64 0, .int .i64 n, .slice ao l.length c] W (Ans W p))) :
    Calls Try.prog 19 #[.slice ao l.length c, .agg #[.int .u8 acc, .int .i64 n]] w (Ans w p) := by
  subst h98
  have kc := conv2
  obtain ⟨⟨k, r, i, v, m⟩, e⟩ := p
  go_enter Try.func19, Try.ntmps19
  go_wp2_with (first | (go_at_call 24; refine (msk_any _ _).mono ?_; rintro e w' ⟨rfl, rfl⟩) | (go_at_call 28; refine (contains_any _ accs _ _ _ (rdAccs2 _ _ _) (by decide)).mono ?_; rintro e w' ⟨rfl, rfl⟩; rw [ha]) | (go_at_call 29; refine ((KP _).out ?_).mono ?_; exact ((((Upd.refl _ w).alloc _).alloc _).alloc _); rintro e w' ⟨rfl, hu⟩; obtain ⟨z1, z2, z3⟩ := still hu (resBlk3x _ _ _); simp only [zs43] at z1; have HU := Lib.hid (((((Upd.refl _ w).alloc _).alloc _).alloc _).then hu); clear hu))
  refine bodyPost_ret (v := .tuple #[.agg (Spc.cells ⟨k, r, i, v, m⟩), .int .i64 e]) (by simp [results, Try.results19, go_sem, Spc.cells, z1]) rfl ⟨rfl, ?_⟩
  exact set5 HU.out (by omega) _ _ _ _ _

theorem dec_4 (hm : (msk n == 0) = false) (ha : accs.contains acc = true) (h98 : (acc == 98) = false) (hl : (l.length : Int) = 0) :
    Calls Try.prog 19 #[.slice ao l.length c, .agg #[.int .u8 acc, .int .i64 n]] w (Ans w (zeroS, 3)) := by
  have kc := conv2
  go_enter Try.func19, Try.ntmps19
  go_wp2_with (first | (go_at_call 24; refine (msk_any _ _).mono ?_; rintro e w' ⟨rfl, rfl⟩) | (go_at_call 28; refine (contains_any _ accs _ _ _ (rdAccs2 _ _ _) (by decide)).mono ?_; rintro e w' ⟨rfl, rfl⟩; rw [ha]))
  refine bodyPost_ret (v := .tuple #[.agg zeroS.cells, .int .i64 3]) (by simp [results, Try.results19, go_sem, Spc.cells, zeroS]) rfl ⟨rfl, ?_⟩
  exact (((Upd.refl _ w).alloc _).alloc _).alloc _
theorem dec_5 (hm : (msk n == 0) = false) (ha : accs.contains acc = true) (h98 : (acc == 98) = false) (hl : ((l.length : Int) == 0) = false) (b o : Nat) (hao : ao = some ⟨b, o, none⟩) (hl0 : 0 < (l.length : Int)) (hbl : b < w.heap.size)
    (cv : Int) (hcell : w.cell? ⟨b, o, none⟩ = some (.int .u8 cv)) (h1 : 0 ≤ cv) (h2 : cv < 256) (h4 : cv / 16 = 4) (p : Spc × Int)
    (KP : ∀ W, Hid (Upd (fun _ => False) w W → Calls Try.prog 30 #[.slice ao l.length c, .agg #[.int .u8 acc, .int .i64 n]] W (Ans W p))) :
    Calls Try.prog 19 #[.slice ao l.length c, .agg #[.int .u8 acc, .int .i64 n]] w (Ans w p) := by
  subst hao
  have kc := conv2
  have hb1 : b < w.heap.size + 1 := by omega
  have hb2 : b < w.heap.size + 1 + 1 := by omega
  obtain ⟨⟨k, r, i, v, m⟩, e⟩ := p
  go_enter Try.func19, Try.ntmps19
  go_wp2_with (first | (go_at_call 24; refine (msk_any _ _).mono ?_; rintro e w' ⟨rfl, rfl⟩) | (go_at_call 28; refine (contains_any _ accs _ _ _ (rdAccs2 _ _ _) (by decide)).mono ?_; rintro e w' ⟨rfl, rfl⟩; rw [ha]) | (go_at_call 30; refine ((KP _).out ?_).mono ?_; exact ((((Upd.refl _ w).alloc _).alloc _).alloc _); rintro e w' ⟨rfl, hu⟩; obtain ⟨z1, z2, z3⟩ := still hu (resBlk3x _ _ _); simp only [zs43] at z1; have HU := Lib.hid (((((Upd.refl _ w).alloc _).alloc _).alloc _).then hu); clear hu))
  refine bodyPost_ret (v := .tuple #[.agg (Spc.cells ⟨k, r, i, v, m⟩), .int .i64 e]) (by simp [results, Try.results19, go_sem, Spc.cells, z1]) rfl ⟨rfl, ?_⟩
  exact set5 HU.out (by omega) _ _ _ _ _

theorem dec_6 (hm : (msk n == 0) = false) (ha : accs.contains acc = true) (h98 : (acc == 98) = false) (hl : ((l.length : Int) == 0) = false) (b o : Nat) (hao : ao = some ⟨b, o, none⟩) (hl0 : 0 < (l.length : Int)) (hbl : b < w.heap.size)
    (cv : Int) (hcell : w.cell? ⟨b, o, none⟩ = some (.int .u8 cv)) (h1 : 0 ≤ cv) (h2 : cv < 256) (h4 : (cv / 16 == 4) = false) (p : Spc × Int)
    (KP : ∀ W, Hid (Upd (fun _ => False) w W → Calls Try.prog 31 #[.slice ao l.length c, .agg #[.int .u8 acc, .int .i64 n]] W (Ans W p))) :
    Calls Try.prog 19 #[.slice ao l.length c, .agg #[.int .u8 acc, .int .i64 n]] w (Ans w p) := by
  subst hao
  have kc := conv2
  have hb1 : b < w.heap.size + 1 := by omega
  have hb2 : b < w.heap.size + 1 + 1 := by omega
  obtain ⟨⟨k, r, i, v, m⟩, e⟩ := p
  go_enter Try.func19, Try.ntmps19
  go_wp2_with (first | (go_at_call 24; refine (msk_any _ _).mono ?_; rintro e w' ⟨rfl, rfl⟩) | (go_at_call 28; refine (contains_any _ accs _ _ _ (rdAccs2 _ _ _) (by decide)).mono ?_; rintro e w' ⟨rfl, rfl⟩; rw [ha]) | (go_at_call 31; refine ((KP _).out ?_).mono ?_; exact ((((Upd.refl _ w).alloc _).alloc _).alloc _); rintro e w' ⟨rfl, hu⟩; obtain ⟨z1, z2, z3⟩ := still hu (resBlk3x _ _ _); simp only [zs43] at z1; have HU := Lib.hid (((((Upd.refl _ w).alloc _).alloc _).alloc _).then hu); clear hu))
  refine bodyPost_ret (v := .tuple #[.agg (Spc.cells ⟨k, r, i, v, m⟩), .int .i64 e]) (by simp [results, Try.results19, go_sem, Spc.cells, z1]) rfl ⟨rfl, ?_⟩
  exact set5 HU.out (by omega) _ _ _ _ _

end
theorem decode_any (ao : Option Addr) (l : List Int) (c : Nat) (acc n : Int) (w : World) (h : RdB w ao l) (hb : Byt l) (hc : l.length ≤ c) :
    Calls Try.prog 19 #[.slice ao l.length c, .agg #[.int .u8 acc, .int .i64 n]] w (Ans w (decF l acc n)) := by
  unfold decF
  by_cases hm : msk n = 0
  · rw [if_pos hm]
    exact dec_1 ao l c acc n w hm
  rw [if_neg hm]
  obtain ⟨n', rfl, hn0, hn4⟩ : ∃ n' : Nat, n = n' ∧ 0 < n' ∧ n' ≤ 4 := by
    rcases msk_cases hm with rfl | rfl | rfl
    · exact ⟨1, rfl, by omega, by omega⟩
    · exact ⟨2, rfl, by omega, by omega⟩
    · exact ⟨4, rfl, by omega, by omega⟩
  have hm' : (msk n' == 0) = false := by simpa using hm
  cases ha : accs.contains acc
  · rw [if_pos rfl]
    exact dec_2 ao l c acc n' w hm' ha
  rw [if_neg (by simp)]
  simp only [Int.toNat_natCast]
  by_cases h98 : acc = 98
  · rw [if_pos h98]
    exact dec_3 ao l c acc n' w hm' ha h98 _ (fun W => Lib.hid fun hu => value_any 12 0 0 n' ao l c W (h.upd hu) hb hc (by omega) hn4 hn0)
  rw [if_neg h98]
  have h98' : (acc == 98) = false := by simpa using h98
  by_cases hl : l.length = 0
  · rw [if_pos hl]
    exact dec_4 ao l c acc n' w hm' ha h98' (by omega)
  rw [if_neg hl]
  have h0 : 0 < l.length := by omega
  obtain ⟨b, o, e, hbl, hcell⟩ := h 0 h0
  rw [Nat.add_zero] at hcell
  obtain ⟨h1, h2⟩ := hb (l.getD 0 0) (by simp [List.getD, h0])
  by_cases h4 : l.getD 0 0 / 16 = 4
  · rw [if_pos h4]
    exact dec_5 ao l c acc n' w hm' ha h98' (by rw [beq_eq_false_iff_ne]; omega) b o e (by omega) hbl _ hcell h1 h2 h4 _ (fun W => Lib.hid fun hu => indexed_any ao l c acc n' W (h.upd hu) hb hc h0 hn0 hn4)
  · rw [if_neg h4]
    exact dec_6 ao l c acc n' w hm' ha h98' (by rw [beq_eq_false_iff_ne]; omega) b o e (by omega) hbl _ hcell h1 h2 (by simpa using h4) _ (fun W => Lib.hid fun hu => plain_any ao l c acc n' W (h.upd hu) hb hc h0 hn0 hn4)
end Go.Proofs.Ytoocbodkjldlcaa.Sp
