/- Specifiers with an index: the walk. -/
import Derived.Test.YtoocbodkjldlcaaSpE
import Derived.Deep.Cut
namespace Go.Proofs.Ytoocbodkjldlcaa.Sp
set_option linter.unusedVariables false
set_option linter.unusedSimpArgs false
set_option maxHeartbeats 2000000
open Go.RowKit
attribute [local go_sem] Spc.cells badS zeroS

theorem resBlk2 (w : World) (A : Obj) : Blk ((w.alloc A).alloc (.cells zs43 43)) (w.heap.size + 1) zs43 43 := by
  have := Blk.new (w.alloc A) zs43 43
  rw [World.size_alloc] at this
  exact this
theorem upd2 {w w' : World} {A B : Obj} (hu : Upd (fun _ => False) ((w.alloc A).alloc B) w') : Upd (fun _ => False) w w' := (((Upd.refl _ w).alloc A).alloc B).then hu

theorem cellUpd {W w' : World} {p : Addr} {v : Value} (hu : Upd (fun _ => False) W w') (hb : p.block < W.heap.size) (h : W.cell? p = some v) : w'.cell? p = some v := by
  unfold World.cell? at *
  rw [hu.block p.block hb id]
  exact h
theorem resBlk2d (w : World) (A : Obj) {B : Obj} : Blk ((((w.alloc A).alloc (.cells zs43 43)).drew).alloc B) (w.heap.size + 1) zs43 43 := (resBlk2 w A).drew.alloc B
theorem resBlk4 (w : World) (A : Obj) {B : Obj} : Blk ((((w.alloc A).alloc B).drew).alloc (.cells zs43 43)) (w.heap.size + 2) zs43 43 := by
  have := Blk.new (((w.alloc A).alloc B).drew) zs43 43
  rw [show (((w.alloc A).alloc B).drew).heap.size = ((w.alloc A).alloc B).heap.size from rfl, World.size_alloc, World.size_alloc] at this
  exact this
theorem set5 {w w' : World} {g : Nat} (h : Upd (fun _ => False) w w') (hg : w.heap.size ≤ g) (a b c d e : Value) :
    Upd (fun _ => False) w (((((w'.setCell ⟨g, 0, none⟩ a).setCell ⟨g, 1, none⟩ b).setCell ⟨g, 2, none⟩ c).setCell ⟨g, 3, none⟩ d).setCell ⟨g, 4, none⟩ e) :=
  ((((h.setCell (.inr hg) _).setCell (.inr hg) _).setCell (.inr hg) _).setCell (.inr hg) _).setCell (.inr hg) _
theorem zs5 {w' : World} {g : Nat} (h : Blk w' g zs43 43) (a b c d e : Value) :
    Blk (((((w'.setCell ⟨g, 0, none⟩ a).setCell ⟨g, 1, none⟩ b).setCell ⟨g, 2, none⟩ c).setCell ⟨g, 3, none⟩ d).setCell ⟨g, 4, none⟩ e) g #[a, b, c, d, e] 43 := by
  have := ((((h.set 0 a).set 1 b).set 2 c).set 3 d).set 4 e
  simpa [zs43] using this
theorem far5 {w' : World} {k g : Nat} {cs : Array Value} {T : TypeId} (h : Blk w' k cs T) (hk : k ≠ g) (a b c d e : Value) :
    Blk (((((w'.setCell ⟨g, 0, none⟩ a).setCell ⟨g, 1, none⟩ b).setCell ⟨g, 2, none⟩ c).setCell ⟨g, 3, none⟩ d).setCell ⟨g, 4, none⟩ e) k cs T :=
  ((((h.far (p := ⟨g, 0, none⟩) hk a).far (p := ⟨g, 1, none⟩) hk b).far (p := ⟨g, 2, none⟩) hk c).far (p := ⟨g, 3, none⟩) hk d).far (p := ⟨g, 4, none⟩) hk e
section
variable (l : List Int) (c : Nat) (acc : Int) (n : Nat) (w : World)
theorem indexed_1 (b o : Nat) (cv : Int) (hcell : w.cell? ⟨b, o, none⟩ = some (.int .u8 cv)) (hbl : b < w.heap.size) (hl0 : 0 < (l.length : Int)) (h1 : 0 ≤ cv) (h2 : cv < 256) (hq : cv % 16 = 15) :
    Calls Try.prog 30 #[.slice (some ⟨b, o, none⟩) l.length c, .agg #[.int .u8 acc, .int .i64 n]] w (Ans w (badS 1, 0)) := by
  have hb1 : b < w.heap.size + 1 := by omega
  go_enter Try.func30, Try.ntmps30
  go_wp2_with (go_at_call 36; refine (bad_any _ _).mono ?_; rintro e w' ⟨rfl, hu⟩; obtain ⟨z1, z2, z3⟩ := still hu (resBlk2 _ _); simp only [zs43] at z1; have HU := Lib.hid hu; clear hu)
  refine bodyPost_ret (v := .tuple #[.agg (badS 1).cells, .int .i64 0]) (by simp [results, Try.results30, go_sem, Spc.cells, badS, z1]) rfl ⟨rfl, ?_⟩
  have := upd2 HU.out
  exact ((((this.setCell (.inr (by simp)) _).setCell (.inr (by simp)) _).setCell (.inr (by simp)) _).setCell (.inr (by simp)) _).setCell (.inr (by simp)) _
theorem indexed_2 (b o : Nat) (cv : Int) (hcell : w.cell? ⟨b, o, none⟩ = some (.int .u8 cv)) (hbl : b < w.heap.size) (hl0 : 0 < (l.length : Int)) (hl2 : (l.length : Int) < 2) (h1 : 0 ≤ cv) (h2 : cv < 256) (hq : (cv % 16 == 15) = false) :
    Calls Try.prog 30 #[.slice (some ⟨b, o, none⟩) l.length c, .agg #[.int .u8 acc, .int .i64 n]] w (Ans w (zeroS, 3)) := by
  have hb1 : b < w.heap.size + 1 := by omega
  go_enter Try.func30, Try.ntmps30
  go_wp2
  refine bodyPost_ret (v := .tuple #[.agg zeroS.cells, .int .i64 3]) (by simp [results, Try.results30, go_sem, Spc.cells, zeroS]) rfl ⟨rfl, ?_⟩
  exact ((Upd.refl _ w).alloc _).alloc _
theorem indexed_3 (b o : Nat) (cv dv : Int) (hcell : w.cell? ⟨b, o, none⟩ = some (.int .u8 cv)) (hcell2 : w.cell? ⟨b, o + 1, none⟩ = some (.int .u8 dv)) (hbl : b < w.heap.size) (hl0 : 0 < (l.length : Int)) (hl2 : 2 ≤ (l.length : Int)) (h1 : 0 ≤ cv) (h2 : cv < 256) (h3 : 0 ≤ dv) (h4 : dv < 256) (hq : (cv % 16 == 15) = false)
    (hd : dv / 16 < 6 ∨ dv = 143) :
    Calls Try.prog 30 #[.slice (some ⟨b, o, none⟩) l.length c, .agg #[.int .u8 acc, .int .i64 n]] w (Ans w (badS 2, 0)) := by
  have hb1 : b < w.heap.size + 1 := by omega
  have hl1 : 1 < (l.length : Int) := by omega
  by_cases hd6 : dv / 16 < 6
  · clear hd
    go_enter Try.func30, Try.ntmps30
    go_wp2_with (go_at_call 36; refine (bad_any _ _).mono ?_; rintro e w' ⟨rfl, hu⟩; obtain ⟨z1, z2, z3⟩ := still hu (resBlk2 _ _); simp only [zs43] at z1; have HU := Lib.hid hu; clear hu)
    refine bodyPost_ret (v := .tuple #[.agg (badS 2).cells, .int .i64 0]) (by simp [results, Try.results30, go_sem, Spc.cells, badS, z1]) rfl ⟨rfl, ?_⟩
    have := upd2 HU.out
    exact ((((this.setCell (.inr (by simp)) _).setCell (.inr (by simp)) _).setCell (.inr (by simp)) _).setCell (.inr (by simp)) _).setCell (.inr (by simp)) _
  · obtain rfl : dv = 143 := by omega
    clear hd hd6
    go_enter Try.func30, Try.ntmps30
    go_wp2_with (go_at_call 36; refine (bad_any _ _).mono ?_; rintro e w' ⟨rfl, hu⟩; obtain ⟨z1, z2, z3⟩ := still hu (resBlk2 _ _); simp only [zs43] at z1; have HU := Lib.hid hu; clear hu)
    refine bodyPost_ret (v := .tuple #[.agg (badS 2).cells, .int .i64 0]) (by simp [results, Try.results30, go_sem, Spc.cells, badS, z1]) rfl ⟨rfl, ?_⟩
    have := upd2 HU.out
    exact ((((this.setCell (.inr (by simp)) _).setCell (.inr (by simp)) _).setCell (.inr (by simp)) _).setCell (.inr (by simp)) _).setCell (.inr (by simp)) _
theorem indexed_4 (b o : Nat) (cv dv : Int) (hcell : w.cell? ⟨b, o, none⟩ = some (.int .u8 cv)) (hcell2 : w.cell? ⟨b, o + 1, none⟩ = some (.int .u8 dv)) (hbl : b < w.heap.size) (hl0 : 0 < (l.length : Int)) (hl2 : 2 ≤ (l.length : Int)) (h1 : 0 ≤ cv) (h2 : cv < 256) (h3 : 0 ≤ dv) (h4 : dv < 256) (hq : (cv % 16 == 15) = false)
    (hd : 6 ≤ dv / 16) (hd2 : (dv == 143) = false) (h : RdB w (some ⟨b, o, none⟩) l) (hb : Byt l) (hc : l.length ≤ c) (hn0 : 0 < n) (hn4 : n ≤ 4) (p : Spc × Int) (hp : plainF (l.drop 1) acc n = p) (hpn : 0 ≤ p.1.n ∧ p.1.n < 100) :
    Calls Try.prog 30 #[.slice (some ⟨b, o, none⟩) l.length c, .agg #[.int .u8 acc, .int .i64 n]] w
      (Ans w (if p.2 = 0 then ({ p.1 with n := p.1.n + 1, i := if p.1.k = 14 then p.1.i else cv % 16 }, 0) else p)) := by
  have hb1 : b < w.heap.size + 1 := by omega
  have hl1 : 1 < (l.length : Int) := by omega
  have hc1 : 1 ≤ c := by omega
  have hcl : (l.length : Int) ≤ c := by omega
  have hr : RdB w (some ⟨b, o + 1, none⟩) (l.drop 1) := by
    intro i hi
    simp at hi
    obtain ⟨b', o', e, hb', hc'⟩ := h (i + 1) (by omega)
    cases e
    refine ⟨b, o + 1, rfl, hbl, ?_⟩
    rw [show o + 1 + i = o + (i + 1) by omega, hc']
    simp [List.getD]
  have KP : ∀ W cc, l.length - 1 ≤ cc → Hid (Upd (fun _ => False) w W → Calls Try.prog 31 #[.slice (some ⟨b, o + 1, none⟩) (l.length - 1) cc, .agg #[.int .u8 acc, .int .i64 n]] W (Ans W p)) := by
    intro W cc hcc hu
    have := plain_any _ (l.drop 1) cc acc n W (hr.upd hu) (fun x hx => hb x (List.mem_of_mem_drop hx)) (by simp; omega) (by simp; omega) hn0 hn4
    rw [hp] at this
    simpa using this
  clear hr h hb hp
  generalize hres : (if p.2 = 0 then (({ p.1 with n := p.1.n + 1, i := if p.1.k = 14 then p.1.i else cv % 16 } : Spc), (0 : Int)) else p) = res
  have HR := Lib.hid hres; clear hres
  obtain ⟨⟨k, r, i, v, m⟩, e⟩ := p
  go_enter Try.func30, Try.ntmps30
  go_wp2_with fail
  go_cut [7, 8] from 9 (fun s7 s8 W => ∃ g, s7 = .pointer (some ⟨g, 0, none⟩) ∧ s8 = .int .i64 e ∧ Blk W g #[.int .i64 k, .int .i64 r, .int .i64 i, .int .u32 v, .int .i64 m] 43 ∧
    Blk W (w.heap.size + 1) zs43 43 ∧ Hid (Upd (fun _ => False) w W) ∧ W.cell? ⟨b, o, none⟩ = some (.int .u8 cv) ∧ w.heap.size + 1 < g)
  case first =>
    go_region_with (go_at_call 31; refine ((KP _ _ (by omega)).out ?_).mono ?_; (first | exact (((Upd.refl _ w).alloc _).alloc _).drew | exact (((((Upd.refl _ w).alloc _).alloc _).drew).alloc _)); rintro e w' ⟨rfl, hu⟩; (first | (obtain ⟨z1, z2, z3⟩ := still hu (resBlk2d _ _); obtain ⟨y1, y2, y3⟩ := still hu (resBlk4 _ _); simp only [zs43] at y1; have Y := Lib.hid ((resBlk4 _ _).upd hu id); have Z := Lib.hid ((resBlk2d _ _).upd hu id)) | (obtain ⟨z1, z2, z3⟩ := still hu (resBlk2 _ _).drew; have Z := Lib.hid ((resBlk2 _ _).drew.upd hu id))); simp only [zs43] at z1; (first | have ht := (((((Upd.refl _ w).alloc _).alloc _).drew).alloc _).then hu | have ht := ((((Upd.refl _ w).alloc _).alloc _).drew).then hu); have zc := cellUpd ht hbl hcell; have HU := Lib.hid ht; clear ht hu)
    all_goals go_wp2
    all_goals go_meet
    all_goals first
      | (have YY := Y.out
         refine ⟨w.heap.size + 1 + 1, rfl, rfl, ?_, ?_, Lib.hid (set5 HU.out (by omega) _ _ _ _ _), ?_, by omega⟩
         · exact zs5 Y.out _ _ _ _ _
         · exact far5 Z.out (by omega) _ _ _ _ _
         · go_simp)
      | (refine ⟨_, rfl, rfl, Blk.new _ _ _, Z.out.alloc _, Lib.hid (HU.out.alloc _), ?_, z3⟩
         have hzb : b < w'.heap.size := by omega
         go_simp)
  case rest =>
    obtain ⟨g, rfl, rfl, hg, hz, HU, hcb, hgt⟩ := hcut
    clear KP
    obtain ⟨g1, g2, g3⟩ := still (Upd.refl (fun _ => False) wc) hg
    obtain ⟨z1, z2, z3⟩ := still (Upd.refl (fun _ => False) wc) hz
    simp only [zs43] at z1
    clear hg hz
    have hne : g ≠ w.heap.size + 1 := by omega
    have hnb : b ≠ g := by omega
    obtain ⟨hm1, hm2⟩ := hpn
    have hm1 : 0 ≤ m := hm1
    have hm2 : m < 100 := hm2
    by_cases he : e = 0
    · subst he
      by_cases hk : k = 14
      · subst hk
        go_wp2
        refine bodyPost_ret (v := .tuple #[.agg (Spc.cells ⟨14, r, i, v, m + 1⟩), .int .i64 0]) (by simp [results, Try.results30, go_sem, Spc.cells, g1, z1, hne]) rfl ⟨?_, ?_⟩
        · rw [← HR.out]; rfl
        · exact set5 (HU.out.setCell (.inr (by show w.heap.size ≤ g; omega)) _) (by omega) _ _ _ _ _
      · have hk' : (k != 14) = true := by simpa using hk
        go_wp2
        refine bodyPost_ret (v := .tuple #[.agg (Spc.cells ⟨k, r, cv % 16, v, m + 1⟩), .int .i64 0]) (by simp [results, Try.results30, go_sem, Spc.cells, g1, z1, hne]) rfl ⟨?_, ?_⟩
        · rw [← HR.out]; simp [hk]
        · exact set5 ((HU.out.setCell (.inr (by show w.heap.size ≤ g; omega)) _).setCell (.inr (by show w.heap.size ≤ g; omega)) _) (by omega) _ _ _ _ _
    · have he' : (e == 0) = false := by simpa using he
      go_wp2
      refine bodyPost_ret (v := .tuple #[.agg (Spc.cells ⟨k, r, i, v, m⟩), .int .i64 e]) (by simp [results, Try.results30, go_sem, Spc.cells, g1, z1, hne]) rfl ⟨?_, ?_⟩
      · rw [← HR.out]; simp [he]
      · exact set5 HU.out (by omega) _ _ _ _ _
end
theorem plainF_n (l : List Int) (acc : Int) (n : Nat) (hn : n ≤ 4) (hb : Byt l) : 0 ≤ (plainF l acc n).1.n ∧ (plainF l acc n).1.n < 100 := by
  have hq : (2 ^ ((l.getD 0 0 / 16 - 10) / 2).toNat : Nat) ≤ 8 := by
    have h : l.getD 0 0 < 256 := by
      cases l with
      | nil => simp
      | cons x t => have := (hb x (by simp)).2; simpa using this
    have : ((l.getD 0 0 / 16 - 10) / 2).toNat ≤ 2 := by omega
    exact Nat.le_trans (Nat.pow_le_pow_right (by omega) this) (by omega)
  generalize hX : (2 ^ ((l.getD 0 0 / 16 - 10) / 2).toNat : Nat) = X at *
  unfold plainF valueF
  simp only [hX]
  repeat' split
  all_goals simp [badS, zeroS]
  all_goals omega
theorem indexed_any (ao : Option Addr) (l : List Int) (c : Nat) (acc : Int) (n : Nat) (w : World) (h : RdB w ao l) (hb : Byt l) (hc : l.length ≤ c) (h0 : 0 < l.length) (hn0 : 0 < n) (hn4 : n ≤ 4) :
    Calls Try.prog 30 #[.slice ao l.length c, .agg #[.int .u8 acc, .int .i64 n]] w (Ans w (indexedF l acc n)) := by
  obtain ⟨b, o, rfl, hbl, hcell⟩ := h 0 h0
  rw [Nat.add_zero] at hcell
  have hx := hb (l.getD 0 0) (by simp [List.getD, h0])
  have hl0 : 0 < (l.length : Int) := by omega
  obtain ⟨h1, h2⟩ := hx
  by_cases hq : l.getD 0 0 % 16 = 15
  · rw [show indexedF l acc n = (badS 1, 0) by unfold indexedF; rw [if_pos hq]]
    exact indexed_1 l c acc n w b o _ hcell hbl hl0 h1 h2 hq
  have hq' : (l.getD 0 0 % 16 == 15) = false := by simpa using hq
  by_cases hl2 : l.length < 2
  · rw [show indexedF l acc n = (zeroS, 3) by simp only [indexedF, hq, hl2, if_true, if_false]]
    exact indexed_2 l c acc n w b o _ hcell hbl hl0 (by omega) h1 h2 hq'
  obtain ⟨b', o', e', hbl', hcell2⟩ := h 1 (by omega)
  cases e'
  have hx := hb (l.getD 1 0) (by simp [List.getD, show 1 < l.length by omega])
  obtain ⟨h3, h4⟩ := hx
  by_cases hd : l.getD 1 0 / 16 < 6 ∨ l.getD 1 0 = 143
  · rw [show indexedF l acc n = (badS 2, 0) by simp only [indexedF, hq, hl2, if_true, if_false]; rw [if_pos hd]]
    exact indexed_3 l c acc n w b o _ _ hcell hcell2 hbl hl0 (by omega) h1 h2 h3 h4 hq' hd
  · have := indexed_4 l c acc n w b o _ _ hcell hcell2 hbl hl0 (by omega) h1 h2 h3 h4 hq' (by omega) (by rw [beq_eq_false_iff_ne]; omega) h hb hc hn0 hn4 _ rfl
      (plainF_n _ _ _ hn4 (fun x hx => hb x (List.mem_of_mem_drop hx)))
    rw [show indexedF l acc n = _ by simp only [indexedF, hq, hl2, if_false]; rw [if_neg hd]]
    exact this
end Go.Proofs.Ytoocbodkjldlcaa.Sp
