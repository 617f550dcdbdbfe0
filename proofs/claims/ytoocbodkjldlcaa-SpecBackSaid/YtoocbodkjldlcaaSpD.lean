/- Specifiers without an index. -/
import Derived.Test.YtoocbodkjldlcaaSpC
namespace Go.Proofs.Ytoocbodkjldlcaa.Sp
set_option linter.unusedVariables false
set_option linter.unusedSimpArgs false
open Go.RowKit

/-- A specifier without an index, read off bytes of which there is one. -/
def plainF (l : List Int) (acc : Int) (n : Nat) : Spc × Int :=
  let m := l.getD 0 0 / 16
  let q := l.getD 0 0 % 16
  if m < 4 then (if acc = 114 then (⟨0, 0, -1, l.getD 0 0 % 64, 1⟩, 0) else (badS 1, 0))
  else if m = 4 ∨ (m < 8 ∧ q = 15) ∨ (m = 5 ∧ acc = 97) then (badS 1, 0)
  else if m = 8 ∧ q = 15 then (if acc = 114 then valueF 12 0 1 n l else (badS 1, 0))
  else if m = 9 ∧ q = 15 then valueF 13 0 1 4 l
  else if m < 10 then (⟨m, q, -1, 0, 1⟩, 0)
  else valueF (10 + m % 2) q 1 (2 ^ ((m - 10) / 2).toNat) l

attribute [local go_sem] Spc.cells badS zeroS
def zs43 : Array Value := #[.int .i64 0, .int .i64 0, .int .i64 0, .int .u32 0, .int .i64 0]
theorem resBlk3 (w : World) (A C : Obj) : Blk ((((w.alloc A).alloc (.cells zs43 43)).alloc C).drew) (w.heap.size + 1) zs43 43 := by
  have := (Blk.new (w.alloc A) zs43 43).alloc C
  rw [World.size_alloc] at this
  exact this
/-- Behind a call: a block of before. -/
theorem still {W w' : World} {g : Nat} {cs : Array Value} {T : TypeId} (hu : Upd (fun _ => False) W w') (hb : Blk W g cs T) :
    (∀ i, w'.cell? ⟨g, i, none⟩ = cs[i]?) ∧ (∀ i, w'.frozen? ⟨g, i, none⟩ = false) ∧ g < w'.heap.size :=
  ⟨fun i => (hb.upd hu id).cell i, fun i => (hb.upd hu id).frozen i, (hb.upd hu id).lt⟩
theorem upd3 {w w' : World} {A B C : Obj} (hu : Upd (fun _ => False) ((((w.alloc A).alloc B).alloc C).drew) w') : Upd (fun _ => False) w w' := ((((Upd.refl _ w).alloc A).alloc B).alloc C).drew.then hu

section
variable (ao : Option Addr) (l : List Int) (c : Nat) (acc : Int) (n : Nat) (w : World) (h : RdB w ao l) (hb : Byt l) (hc : l.length ≤ c) (h0 : 0 < l.length) (hn : n = 1 ∨ n = 2 ∨ n = 4)

theorem plain_lit (b o : Nat) (cv : Int) (hcell : w.cell? ⟨b, o, none⟩ = some (.int .u8 cv)) (hbl : b < w.heap.size) (hl0 : 0 < (l.length : Int)) (h1 : 0 ≤ cv) (h2 : cv < 256) (hm : cv / 16 < 4) :
    Calls Try.prog 31 #[.slice (some ⟨b, o, none⟩) l.length c, .agg #[.int .u8 acc, .int .i64 n]] w (Ans w (if acc = 114 then (⟨0, 0, -1, cv % 64, 1⟩, 0) else (badS 1, 0))) := by
  have hb1 : b < w.heap.size + 1 := by omega
  have hb2 : b < w.heap.size + 1 + 1 := by omega
  by_cases ha : acc = 114
  · subst ha
    go_enter Try.func31, Try.ntmps31
    go_wp2_with fail
    go_region
    go_wp2_with fail
    refine bodyPost_ret (v := .tuple #[.agg (Spc.mk 0 0 (-1) (cv % 64) 1).cells, .int .i64 0]) (by simp [results, Try.results31, go_sem, Spc.cells]) rfl ⟨rfl, ?_⟩
    exact ((((Upd.refl _ w).alloc _).alloc _).alloc _).drew
  · have ha' : (acc == 114) = false := by simp [ha]
    have ha2 : (acc != 114) = true := by simp [ha]
    rw [if_neg ha]
    clear ha
    go_enter Try.func31, Try.ntmps31
    go_wp2_with fail
    go_region
    go_wp2_with (go_at_call 36; refine (bad_any _ _).mono ?_; rintro e w' ⟨rfl, hu⟩; obtain ⟨z1, z2, z3⟩ := still hu (resBlk3 _ _ _); simp only [zs43] at z1; have HU := Lib.hid hu; clear hu)
    refine bodyPost_ret (v := .tuple #[.agg (badS 1).cells, .int .i64 0]) (by simp [results, Try.results31, go_sem, Spc.cells, badS, z1]) rfl ⟨rfl, ?_⟩
    have := upd3 HU.out
    exact ((((this.setCell (.inr (by simp)) _).setCell (.inr (by simp)) _).setCell (.inr (by simp)) _).setCell (.inr (by simp)) _).setCell (.inr (by simp)) _
theorem plain_4 (b o : Nat) (cv : Int) (hcell : w.cell? ⟨b, o, none⟩ = some (.int .u8 cv)) (hbl : b < w.heap.size) (hl0 : 0 < (l.length : Int)) (h1 : 0 ≤ cv) (h2 : cv < 256) (hm : cv / 16 = 4) :
    Calls Try.prog 31 #[.slice (some ⟨b, o, none⟩) l.length c, .agg #[.int .u8 acc, .int .i64 n]] w (Ans w (badS 1, 0)) := by
  have hb1 : b < w.heap.size + 1 := by omega
  have hb2 : b < w.heap.size + 1 + 1 := by omega
  ·
    go_enter Try.func31, Try.ntmps31
    go_wp2_with fail
    go_region
    go_wp2_with (go_at_call 36; refine (bad_any _ _).mono ?_; rintro e w' ⟨rfl, hu⟩; obtain ⟨z1, z2, z3⟩ := still hu (resBlk3 _ _ _); simp only [zs43] at z1; have HU := Lib.hid hu; clear hu)
    refine bodyPost_ret (v := .tuple #[.agg (badS 1).cells, .int .i64 0]) (by simp [results, Try.results31, go_sem, Spc.cells, badS, z1]) rfl ⟨rfl, ?_⟩
    have := upd3 HU.out
    exact ((((this.setCell (.inr (by simp)) _).setCell (.inr (by simp)) _).setCell (.inr (by simp)) _).setCell (.inr (by simp)) _).setCell (.inr (by simp)) _
theorem plain_5pc (b o : Nat) (cv : Int) (hcell : w.cell? ⟨b, o, none⟩ = some (.int .u8 cv)) (hbl : b < w.heap.size) (hl0 : 0 < (l.length : Int)) (h1 : 0 ≤ cv) (h2 : cv < 256) (hm : cv / 16 = 5) (hq : cv % 16 = 15) :
    Calls Try.prog 31 #[.slice (some ⟨b, o, none⟩) l.length c, .agg #[.int .u8 acc, .int .i64 n]] w (Ans w (badS 1, 0)) := by
  have hb1 : b < w.heap.size + 1 := by omega
  have hb2 : b < w.heap.size + 1 + 1 := by omega
  ·
    go_enter Try.func31, Try.ntmps31
    go_wp2_with fail
    go_region
    go_wp2_with (go_at_call 36; refine (bad_any _ _).mono ?_; rintro e w' ⟨rfl, hu⟩; obtain ⟨z1, z2, z3⟩ := still hu (resBlk3 _ _ _); simp only [zs43] at z1; have HU := Lib.hid hu; clear hu)
    refine bodyPost_ret (v := .tuple #[.agg (badS 1).cells, .int .i64 0]) (by simp [results, Try.results31, go_sem, Spc.cells, badS, z1]) rfl ⟨rfl, ?_⟩
    have := upd3 HU.out
    exact ((((this.setCell (.inr (by simp)) _).setCell (.inr (by simp)) _).setCell (.inr (by simp)) _).setCell (.inr (by simp)) _).setCell (.inr (by simp)) _
theorem plain_6pc (b o : Nat) (cv : Int) (hcell : w.cell? ⟨b, o, none⟩ = some (.int .u8 cv)) (hbl : b < w.heap.size) (hl0 : 0 < (l.length : Int)) (h1 : 0 ≤ cv) (h2 : cv < 256) (hm : cv / 16 = 6) (hq : cv % 16 = 15) :
    Calls Try.prog 31 #[.slice (some ⟨b, o, none⟩) l.length c, .agg #[.int .u8 acc, .int .i64 n]] w (Ans w (badS 1, 0)) := by
  have hb1 : b < w.heap.size + 1 := by omega
  have hb2 : b < w.heap.size + 1 + 1 := by omega
  ·
    go_enter Try.func31, Try.ntmps31
    go_wp2_with fail
    go_region
    go_wp2_with (go_at_call 36; refine (bad_any _ _).mono ?_; rintro e w' ⟨rfl, hu⟩; obtain ⟨z1, z2, z3⟩ := still hu (resBlk3 _ _ _); simp only [zs43] at z1; have HU := Lib.hid hu; clear hu)
    refine bodyPost_ret (v := .tuple #[.agg (badS 1).cells, .int .i64 0]) (by simp [results, Try.results31, go_sem, Spc.cells, badS, z1]) rfl ⟨rfl, ?_⟩
    have := upd3 HU.out
    exact ((((this.setCell (.inr (by simp)) _).setCell (.inr (by simp)) _).setCell (.inr (by simp)) _).setCell (.inr (by simp)) _).setCell (.inr (by simp)) _
theorem plain_7pc (b o : Nat) (cv : Int) (hcell : w.cell? ⟨b, o, none⟩ = some (.int .u8 cv)) (hbl : b < w.heap.size) (hl0 : 0 < (l.length : Int)) (h1 : 0 ≤ cv) (h2 : cv < 256) (hm : cv / 16 = 7) (hq : cv % 16 = 15) :
    Calls Try.prog 31 #[.slice (some ⟨b, o, none⟩) l.length c, .agg #[.int .u8 acc, .int .i64 n]] w (Ans w (badS 1, 0)) := by
  have hb1 : b < w.heap.size + 1 := by omega
  have hb2 : b < w.heap.size + 1 + 1 := by omega
  ·
    go_enter Try.func31, Try.ntmps31
    go_wp2_with fail
    go_region
    go_wp2_with (go_at_call 36; refine (bad_any _ _).mono ?_; rintro e w' ⟨rfl, hu⟩; obtain ⟨z1, z2, z3⟩ := still hu (resBlk3 _ _ _); simp only [zs43] at z1; have HU := Lib.hid hu; clear hu)
    refine bodyPost_ret (v := .tuple #[.agg (badS 1).cells, .int .i64 0]) (by simp [results, Try.results31, go_sem, Spc.cells, badS, z1]) rfl ⟨rfl, ?_⟩
    have := upd3 HU.out
    exact ((((this.setCell (.inr (by simp)) _).setCell (.inr (by simp)) _).setCell (.inr (by simp)) _).setCell (.inr (by simp)) _).setCell (.inr (by simp)) _
theorem plain_5a (b o : Nat) (cv : Int) (hcell : w.cell? ⟨b, o, none⟩ = some (.int .u8 cv)) (hbl : b < w.heap.size) (hl0 : 0 < (l.length : Int)) (h1 : 0 ≤ cv) (h2 : cv < 256) (hm : cv / 16 = 5) (hq : (cv % 16 == 15) = false) (ha : acc = 97) :
    Calls Try.prog 31 #[.slice (some ⟨b, o, none⟩) l.length c, .agg #[.int .u8 acc, .int .i64 n]] w (Ans w (badS 1, 0)) := by
  have hb1 : b < w.heap.size + 1 := by omega
  have hb2 : b < w.heap.size + 1 + 1 := by omega
  subst ha
  ·
    go_enter Try.func31, Try.ntmps31
    go_wp2_with fail
    go_region
    go_wp2_with (go_at_call 36; refine (bad_any _ _).mono ?_; rintro e w' ⟨rfl, hu⟩; obtain ⟨z1, z2, z3⟩ := still hu (resBlk3 _ _ _); simp only [zs43] at z1; have HU := Lib.hid hu; clear hu)
    refine bodyPost_ret (v := .tuple #[.agg (badS 1).cells, .int .i64 0]) (by simp [results, Try.results31, go_sem, Spc.cells, badS, z1]) rfl ⟨rfl, ?_⟩
    have := upd3 HU.out
    exact ((((this.setCell (.inr (by simp)) _).setCell (.inr (by simp)) _).setCell (.inr (by simp)) _).setCell (.inr (by simp)) _).setCell (.inr (by simp)) _
theorem plain_5 (b o : Nat) (cv : Int) (hcell : w.cell? ⟨b, o, none⟩ = some (.int .u8 cv)) (hbl : b < w.heap.size) (hl0 : 0 < (l.length : Int)) (h1 : 0 ≤ cv) (h2 : cv < 256) (hm : cv / 16 = 5) (hq : (cv % 16 == 15) = false) (ha : (acc == 97) = false) :
    Calls Try.prog 31 #[.slice (some ⟨b, o, none⟩) l.length c, .agg #[.int .u8 acc, .int .i64 n]] w (Ans w (⟨5, cv % 16, -1, 0, 1⟩, 0)) := by
  have hb1 : b < w.heap.size + 1 := by omega
  have hb2 : b < w.heap.size + 1 + 1 := by omega
  ·
    go_enter Try.func31, Try.ntmps31
    go_wp2_with fail
    go_region
    go_wp2_with fail
    refine bodyPost_ret (v := .tuple #[.agg (Spc.mk 5 (cv % 16) (-1) 0 1).cells, .int .i64 0]) (by simp [results, Try.results31, go_sem, Spc.cells]) rfl ⟨rfl, ?_⟩
    exact ((((Upd.refl _ w).alloc _).alloc _).alloc _).drew
theorem plain_6 (b o : Nat) (cv : Int) (hcell : w.cell? ⟨b, o, none⟩ = some (.int .u8 cv)) (hbl : b < w.heap.size) (hl0 : 0 < (l.length : Int)) (h1 : 0 ≤ cv) (h2 : cv < 256) (hm : cv / 16 = 6) (hq : (cv % 16 == 15) = false) :
    Calls Try.prog 31 #[.slice (some ⟨b, o, none⟩) l.length c, .agg #[.int .u8 acc, .int .i64 n]] w (Ans w (⟨6, cv % 16, -1, 0, 1⟩, 0)) := by
  have hb1 : b < w.heap.size + 1 := by omega
  have hb2 : b < w.heap.size + 1 + 1 := by omega
  ·
    go_enter Try.func31, Try.ntmps31
    go_wp2_with fail
    go_region
    go_wp2_with fail
    refine bodyPost_ret (v := .tuple #[.agg (Spc.mk 6 (cv % 16) (-1) 0 1).cells, .int .i64 0]) (by simp [results, Try.results31, go_sem, Spc.cells]) rfl ⟨rfl, ?_⟩
    exact ((((Upd.refl _ w).alloc _).alloc _).alloc _).drew
theorem plain_7 (b o : Nat) (cv : Int) (hcell : w.cell? ⟨b, o, none⟩ = some (.int .u8 cv)) (hbl : b < w.heap.size) (hl0 : 0 < (l.length : Int)) (h1 : 0 ≤ cv) (h2 : cv < 256) (hm : cv / 16 = 7) (hq : (cv % 16 == 15) = false) :
    Calls Try.prog 31 #[.slice (some ⟨b, o, none⟩) l.length c, .agg #[.int .u8 acc, .int .i64 n]] w (Ans w (⟨7, cv % 16, -1, 0, 1⟩, 0)) := by
  have hb1 : b < w.heap.size + 1 := by omega
  have hb2 : b < w.heap.size + 1 + 1 := by omega
  ·
    go_enter Try.func31, Try.ntmps31
    go_wp2_with fail
    go_region
    go_wp2_with fail
    refine bodyPost_ret (v := .tuple #[.agg (Spc.mk 7 (cv % 16) (-1) 0 1).cells, .int .i64 0]) (by simp [results, Try.results31, go_sem, Spc.cells]) rfl ⟨rfl, ?_⟩
    exact ((((Upd.refl _ w).alloc _).alloc _).alloc _).drew
theorem plain_8 (b o : Nat) (cv : Int) (hcell : w.cell? ⟨b, o, none⟩ = some (.int .u8 cv)) (hbl : b < w.heap.size) (hl0 : 0 < (l.length : Int)) (h1 : 0 ≤ cv) (h2 : cv < 256) (hm : cv / 16 = 8) (hq : (cv % 16 == 15) = false) :
    Calls Try.prog 31 #[.slice (some ⟨b, o, none⟩) l.length c, .agg #[.int .u8 acc, .int .i64 n]] w (Ans w (⟨8, cv % 16, -1, 0, 1⟩, 0)) := by
  have hb1 : b < w.heap.size + 1 := by omega
  have hb2 : b < w.heap.size + 1 + 1 := by omega
  ·
    go_enter Try.func31, Try.ntmps31
    go_wp2_with fail
    go_region
    go_wp2_with fail
    refine bodyPost_ret (v := .tuple #[.agg (Spc.mk 8 (cv % 16) (-1) 0 1).cells, .int .i64 0]) (by simp [results, Try.results31, go_sem, Spc.cells]) rfl ⟨rfl, ?_⟩
    exact ((((Upd.refl _ w).alloc _).alloc _).alloc _).drew
theorem plain_9 (b o : Nat) (cv : Int) (hcell : w.cell? ⟨b, o, none⟩ = some (.int .u8 cv)) (hbl : b < w.heap.size) (hl0 : 0 < (l.length : Int)) (h1 : 0 ≤ cv) (h2 : cv < 256) (hm : cv / 16 = 9) (hq : (cv % 16 == 15) = false) :
    Calls Try.prog 31 #[.slice (some ⟨b, o, none⟩) l.length c, .agg #[.int .u8 acc, .int .i64 n]] w (Ans w (⟨9, cv % 16, -1, 0, 1⟩, 0)) := by
  have hb1 : b < w.heap.size + 1 := by omega
  have hb2 : b < w.heap.size + 1 + 1 := by omega
  ·
    go_enter Try.func31, Try.ntmps31
    go_wp2_with fail
    go_region
    go_wp2_with fail
    refine bodyPost_ret (v := .tuple #[.agg (Spc.mk 9 (cv % 16) (-1) 0 1).cells, .int .i64 0]) (by simp [results, Try.results31, go_sem, Spc.cells]) rfl ⟨rfl, ?_⟩
    exact ((((Upd.refl _ w).alloc _).alloc _).alloc _).drew
theorem plain_8b (b o : Nat) (cv : Int) (hcell : w.cell? ⟨b, o, none⟩ = some (.int .u8 cv)) (hbl : b < w.heap.size) (hl0 : 0 < (l.length : Int)) (h1 : 0 ≤ cv) (h2 : cv < 256) (hm : cv / 16 = 8) (hq : cv % 16 = 15) (ha : (acc == 114) = false) (ha2 : (acc != 114) = true) :
    Calls Try.prog 31 #[.slice (some ⟨b, o, none⟩) l.length c, .agg #[.int .u8 acc, .int .i64 n]] w (Ans w (badS 1, 0)) := by
  have hb1 : b < w.heap.size + 1 := by omega
  have hb2 : b < w.heap.size + 1 + 1 := by omega
  ·
    go_enter Try.func31, Try.ntmps31
    go_wp2_with fail
    go_region
    go_wp2_with (go_at_call 36; refine (bad_any _ _).mono ?_; rintro e w' ⟨rfl, hu⟩; obtain ⟨z1, z2, z3⟩ := still hu (resBlk3 _ _ _); simp only [zs43] at z1; have HU := Lib.hid hu; clear hu)
    refine bodyPost_ret (v := .tuple #[.agg (badS 1).cells, .int .i64 0]) (by simp [results, Try.results31, go_sem, Spc.cells, badS, z1]) rfl ⟨rfl, ?_⟩
    have := upd3 HU.out
    exact ((((this.setCell (.inr (by simp)) _).setCell (.inr (by simp)) _).setCell (.inr (by simp)) _).setCell (.inr (by simp)) _).setCell (.inr (by simp)) _
theorem plain_8v (b o : Nat) (cv : Int) (hcell : w.cell? ⟨b, o, none⟩ = some (.int .u8 cv)) (hbl : b < w.heap.size) (hl0 : 0 < (l.length : Int)) (h1 : 0 ≤ cv) (h2 : cv < 256) (h : RdB w (some ⟨b, o, none⟩) l) (hb : Byt l) (hc : l.length ≤ c) (hm : cv / 16 = 8) (hq : cv % 16 = 15) (ha : acc = 114) (hn0 : 0 < n) (hn4 : n ≤ 4) :
    Calls Try.prog 31 #[.slice (some ⟨b, o, none⟩) l.length c, .agg #[.int .u8 acc, .int .i64 n]] w (Ans w (valueF 12 0 1 n l)) := by
  have hb1 : b < w.heap.size + 1 := by omega
  have hb2 : b < w.heap.size + 1 + 1 := by omega
  generalize hv : valueF 12 0 1 n l = p
  obtain ⟨⟨vk, vr, vi, vv, vn⟩, ve⟩ := p
  have HV := Lib.hid hv
  have HR := Lib.hid h
  have HB := Lib.hid hb
  clear hv h hb
  subst ha
  ·
    go_enter Try.func31, Try.ntmps31
    go_wp2_with fail
    go_region
    go_wp2_with (go_at_call 29; refine (value_any _ _ 1 n _ l c _ (RdB.upd HR.out (((((Upd.refl _ w).alloc _).alloc _).alloc _).drew)) HB.out hc (by omega) (by omega) (by omega)).mono ?_; rw [HV.out]; rintro e w' ⟨rfl, hu⟩; obtain ⟨z1, z2, z3⟩ := still hu (resBlk3 _ _ _); simp only [zs43] at z1; have HU := Lib.hid hu; clear hu)
    refine bodyPost_ret (v := .tuple #[.agg (Spc.mk vk vr vi vv vn).cells, .int .i64 ve]) (by simp [results, Try.results31, go_sem, Spc.cells, z1]) rfl ⟨rfl, ?_⟩
    have := upd3 HU.out
    exact ((((this.setCell (.inr (by simp)) _).setCell (.inr (by simp)) _).setCell (.inr (by simp)) _).setCell (.inr (by simp)) _).setCell (.inr (by simp)) _
theorem plain_9v (b o : Nat) (cv : Int) (hcell : w.cell? ⟨b, o, none⟩ = some (.int .u8 cv)) (hbl : b < w.heap.size) (hl0 : 0 < (l.length : Int)) (h1 : 0 ≤ cv) (h2 : cv < 256) (h : RdB w (some ⟨b, o, none⟩) l) (hb : Byt l) (hc : l.length ≤ c) (hm : cv / 16 = 9) (hq : cv % 16 = 15) :
    Calls Try.prog 31 #[.slice (some ⟨b, o, none⟩) l.length c, .agg #[.int .u8 acc, .int .i64 n]] w (Ans w (valueF 13 0 1 4 l)) := by
  have hb1 : b < w.heap.size + 1 := by omega
  have hb2 : b < w.heap.size + 1 + 1 := by omega
  generalize hv : valueF 13 0 1 4 l = p
  obtain ⟨⟨vk, vr, vi, vv, vn⟩, ve⟩ := p
  have HV := Lib.hid hv
  have HR := Lib.hid h
  have HB := Lib.hid hb
  clear hv h hb
  ·
    go_enter Try.func31, Try.ntmps31
    go_wp2_with fail
    go_region
    go_wp2_with (go_at_call 29; refine (value_any _ _ 1 4 _ l c _ (RdB.upd HR.out (((((Upd.refl _ w).alloc _).alloc _).alloc _).drew)) HB.out hc (by omega) (by omega) (by omega)).mono ?_; rw [HV.out]; rintro e w' ⟨rfl, hu⟩; obtain ⟨z1, z2, z3⟩ := still hu (resBlk3 _ _ _); simp only [zs43] at z1; have HU := Lib.hid hu; clear hu)
    refine bodyPost_ret (v := .tuple #[.agg (Spc.mk vk vr vi vv vn).cells, .int .i64 ve]) (by simp [results, Try.results31, go_sem, Spc.cells, z1]) rfl ⟨rfl, ?_⟩
    have := upd3 HU.out
    exact ((((this.setCell (.inr (by simp)) _).setCell (.inr (by simp)) _).setCell (.inr (by simp)) _).setCell (.inr (by simp)) _).setCell (.inr (by simp)) _
theorem plain_10 (b o : Nat) (cv : Int) (hcell : w.cell? ⟨b, o, none⟩ = some (.int .u8 cv)) (hbl : b < w.heap.size) (hl0 : 0 < (l.length : Int)) (h1 : 0 ≤ cv) (h2 : cv < 256) (h : RdB w (some ⟨b, o, none⟩) l) (hb : Byt l) (hc : l.length ≤ c) (hm : cv / 16 = 10) :
    Calls Try.prog 31 #[.slice (some ⟨b, o, none⟩) l.length c, .agg #[.int .u8 acc, .int .i64 n]] w (Ans w (valueF 10 (cv % 16) 1 1 l)) := by
  have hb1 : b < w.heap.size + 1 := by omega
  have hb2 : b < w.heap.size + 1 + 1 := by omega
  generalize hv : valueF 10 (cv % 16) 1 1 l = p
  obtain ⟨⟨vk, vr, vi, vv, vn⟩, ve⟩ := p
  have HV := Lib.hid hv
  have HR := Lib.hid h
  have HB := Lib.hid hb
  clear hv h hb
  have hk : bits BinOp.and IntKind.i64 10 1 = 0 := by decide
  ·
    go_enter Try.func31, Try.ntmps31
    go_wp2_with fail
    go_region
    go_wp2_with (go_at_call 29; refine (value_any _ _ 1 1 _ l c _ (RdB.upd HR.out (((((Upd.refl _ w).alloc _).alloc _).alloc _).drew)) HB.out hc (by omega) (by omega) (by omega)).mono ?_; rw [HV.out]; rintro e w' ⟨rfl, hu⟩; obtain ⟨z1, z2, z3⟩ := still hu (resBlk3 _ _ _); simp only [zs43] at z1; have HU := Lib.hid hu; clear hu)
    refine bodyPost_ret (v := .tuple #[.agg (Spc.mk vk vr vi vv vn).cells, .int .i64 ve]) (by simp [results, Try.results31, go_sem, Spc.cells, z1]) rfl ⟨rfl, ?_⟩
    have := upd3 HU.out
    exact ((((this.setCell (.inr (by simp)) _).setCell (.inr (by simp)) _).setCell (.inr (by simp)) _).setCell (.inr (by simp)) _).setCell (.inr (by simp)) _
theorem plain_11 (b o : Nat) (cv : Int) (hcell : w.cell? ⟨b, o, none⟩ = some (.int .u8 cv)) (hbl : b < w.heap.size) (hl0 : 0 < (l.length : Int)) (h1 : 0 ≤ cv) (h2 : cv < 256) (h : RdB w (some ⟨b, o, none⟩) l) (hb : Byt l) (hc : l.length ≤ c) (hm : cv / 16 = 11) :
    Calls Try.prog 31 #[.slice (some ⟨b, o, none⟩) l.length c, .agg #[.int .u8 acc, .int .i64 n]] w (Ans w (valueF 11 (cv % 16) 1 1 l)) := by
  have hb1 : b < w.heap.size + 1 := by omega
  have hb2 : b < w.heap.size + 1 + 1 := by omega
  generalize hv : valueF 11 (cv % 16) 1 1 l = p
  obtain ⟨⟨vk, vr, vi, vv, vn⟩, ve⟩ := p
  have HV := Lib.hid hv
  have HR := Lib.hid h
  have HB := Lib.hid hb
  clear hv h hb
  have hk : bits BinOp.and IntKind.i64 11 1 = 1 := by decide
  ·
    go_enter Try.func31, Try.ntmps31
    go_wp2_with fail
    go_region
    go_wp2_with (go_at_call 29; refine (value_any _ _ 1 1 _ l c _ (RdB.upd HR.out (((((Upd.refl _ w).alloc _).alloc _).alloc _).drew)) HB.out hc (by omega) (by omega) (by omega)).mono ?_; rw [HV.out]; rintro e w' ⟨rfl, hu⟩; obtain ⟨z1, z2, z3⟩ := still hu (resBlk3 _ _ _); simp only [zs43] at z1; have HU := Lib.hid hu; clear hu)
    refine bodyPost_ret (v := .tuple #[.agg (Spc.mk vk vr vi vv vn).cells, .int .i64 ve]) (by simp [results, Try.results31, go_sem, Spc.cells, z1]) rfl ⟨rfl, ?_⟩
    have := upd3 HU.out
    exact ((((this.setCell (.inr (by simp)) _).setCell (.inr (by simp)) _).setCell (.inr (by simp)) _).setCell (.inr (by simp)) _).setCell (.inr (by simp)) _
theorem plain_12 (b o : Nat) (cv : Int) (hcell : w.cell? ⟨b, o, none⟩ = some (.int .u8 cv)) (hbl : b < w.heap.size) (hl0 : 0 < (l.length : Int)) (h1 : 0 ≤ cv) (h2 : cv < 256) (h : RdB w (some ⟨b, o, none⟩) l) (hb : Byt l) (hc : l.length ≤ c) (hm : cv / 16 = 12) :
    Calls Try.prog 31 #[.slice (some ⟨b, o, none⟩) l.length c, .agg #[.int .u8 acc, .int .i64 n]] w (Ans w (valueF 10 (cv % 16) 1 2 l)) := by
  have hb1 : b < w.heap.size + 1 := by omega
  have hb2 : b < w.heap.size + 1 + 1 := by omega
  generalize hv : valueF 10 (cv % 16) 1 2 l = p
  obtain ⟨⟨vk, vr, vi, vv, vn⟩, ve⟩ := p
  have HV := Lib.hid hv
  have HR := Lib.hid h
  have HB := Lib.hid hb
  clear hv h hb
  have hk : bits BinOp.and IntKind.i64 12 1 = 0 := by decide
  ·
    go_enter Try.func31, Try.ntmps31
    go_wp2_with fail
    go_region
    go_wp2_with (go_at_call 29; refine (value_any _ _ 1 2 _ l c _ (RdB.upd HR.out (((((Upd.refl _ w).alloc _).alloc _).alloc _).drew)) HB.out hc (by omega) (by omega) (by omega)).mono ?_; rw [HV.out]; rintro e w' ⟨rfl, hu⟩; obtain ⟨z1, z2, z3⟩ := still hu (resBlk3 _ _ _); simp only [zs43] at z1; have HU := Lib.hid hu; clear hu)
    refine bodyPost_ret (v := .tuple #[.agg (Spc.mk vk vr vi vv vn).cells, .int .i64 ve]) (by simp [results, Try.results31, go_sem, Spc.cells, z1]) rfl ⟨rfl, ?_⟩
    have := upd3 HU.out
    exact ((((this.setCell (.inr (by simp)) _).setCell (.inr (by simp)) _).setCell (.inr (by simp)) _).setCell (.inr (by simp)) _).setCell (.inr (by simp)) _
theorem plain_13 (b o : Nat) (cv : Int) (hcell : w.cell? ⟨b, o, none⟩ = some (.int .u8 cv)) (hbl : b < w.heap.size) (hl0 : 0 < (l.length : Int)) (h1 : 0 ≤ cv) (h2 : cv < 256) (h : RdB w (some ⟨b, o, none⟩) l) (hb : Byt l) (hc : l.length ≤ c) (hm : cv / 16 = 13) :
    Calls Try.prog 31 #[.slice (some ⟨b, o, none⟩) l.length c, .agg #[.int .u8 acc, .int .i64 n]] w (Ans w (valueF 11 (cv % 16) 1 2 l)) := by
  have hb1 : b < w.heap.size + 1 := by omega
  have hb2 : b < w.heap.size + 1 + 1 := by omega
  generalize hv : valueF 11 (cv % 16) 1 2 l = p
  obtain ⟨⟨vk, vr, vi, vv, vn⟩, ve⟩ := p
  have HV := Lib.hid hv
  have HR := Lib.hid h
  have HB := Lib.hid hb
  clear hv h hb
  have hk : bits BinOp.and IntKind.i64 13 1 = 1 := by decide
  ·
    go_enter Try.func31, Try.ntmps31
    go_wp2_with fail
    go_region
    go_wp2_with (go_at_call 29; refine (value_any _ _ 1 2 _ l c _ (RdB.upd HR.out (((((Upd.refl _ w).alloc _).alloc _).alloc _).drew)) HB.out hc (by omega) (by omega) (by omega)).mono ?_; rw [HV.out]; rintro e w' ⟨rfl, hu⟩; obtain ⟨z1, z2, z3⟩ := still hu (resBlk3 _ _ _); simp only [zs43] at z1; have HU := Lib.hid hu; clear hu)
    refine bodyPost_ret (v := .tuple #[.agg (Spc.mk vk vr vi vv vn).cells, .int .i64 ve]) (by simp [results, Try.results31, go_sem, Spc.cells, z1]) rfl ⟨rfl, ?_⟩
    have := upd3 HU.out
    exact ((((this.setCell (.inr (by simp)) _).setCell (.inr (by simp)) _).setCell (.inr (by simp)) _).setCell (.inr (by simp)) _).setCell (.inr (by simp)) _
theorem plain_14 (b o : Nat) (cv : Int) (hcell : w.cell? ⟨b, o, none⟩ = some (.int .u8 cv)) (hbl : b < w.heap.size) (hl0 : 0 < (l.length : Int)) (h1 : 0 ≤ cv) (h2 : cv < 256) (h : RdB w (some ⟨b, o, none⟩) l) (hb : Byt l) (hc : l.length ≤ c) (hm : cv / 16 = 14) :
    Calls Try.prog 31 #[.slice (some ⟨b, o, none⟩) l.length c, .agg #[.int .u8 acc, .int .i64 n]] w (Ans w (valueF 10 (cv % 16) 1 4 l)) := by
  have hb1 : b < w.heap.size + 1 := by omega
  have hb2 : b < w.heap.size + 1 + 1 := by omega
  generalize hv : valueF 10 (cv % 16) 1 4 l = p
  obtain ⟨⟨vk, vr, vi, vv, vn⟩, ve⟩ := p
  have HV := Lib.hid hv
  have HR := Lib.hid h
  have HB := Lib.hid hb
  clear hv h hb
  have hk : bits BinOp.and IntKind.i64 14 1 = 0 := by decide
  ·
    go_enter Try.func31, Try.ntmps31
    go_wp2_with fail
    go_region
    go_wp2_with (go_at_call 29; refine (value_any _ _ 1 4 _ l c _ (RdB.upd HR.out (((((Upd.refl _ w).alloc _).alloc _).alloc _).drew)) HB.out hc (by omega) (by omega) (by omega)).mono ?_; rw [HV.out]; rintro e w' ⟨rfl, hu⟩; obtain ⟨z1, z2, z3⟩ := still hu (resBlk3 _ _ _); simp only [zs43] at z1; have HU := Lib.hid hu; clear hu)
    refine bodyPost_ret (v := .tuple #[.agg (Spc.mk vk vr vi vv vn).cells, .int .i64 ve]) (by simp [results, Try.results31, go_sem, Spc.cells, z1]) rfl ⟨rfl, ?_⟩
    have := upd3 HU.out
    exact ((((this.setCell (.inr (by simp)) _).setCell (.inr (by simp)) _).setCell (.inr (by simp)) _).setCell (.inr (by simp)) _).setCell (.inr (by simp)) _
theorem plain_15 (b o : Nat) (cv : Int) (hcell : w.cell? ⟨b, o, none⟩ = some (.int .u8 cv)) (hbl : b < w.heap.size) (hl0 : 0 < (l.length : Int)) (h1 : 0 ≤ cv) (h2 : cv < 256) (h : RdB w (some ⟨b, o, none⟩) l) (hb : Byt l) (hc : l.length ≤ c) (hm : cv / 16 = 15) :
    Calls Try.prog 31 #[.slice (some ⟨b, o, none⟩) l.length c, .agg #[.int .u8 acc, .int .i64 n]] w (Ans w (valueF 11 (cv % 16) 1 4 l)) := by
  have hb1 : b < w.heap.size + 1 := by omega
  have hb2 : b < w.heap.size + 1 + 1 := by omega
  generalize hv : valueF 11 (cv % 16) 1 4 l = p
  obtain ⟨⟨vk, vr, vi, vv, vn⟩, ve⟩ := p
  have HV := Lib.hid hv
  have HR := Lib.hid h
  have HB := Lib.hid hb
  clear hv h hb
  have hk : bits BinOp.and IntKind.i64 15 1 = 1 := by decide
  ·
    go_enter Try.func31, Try.ntmps31
    go_wp2_with fail
    go_region
    go_wp2_with (go_at_call 29; refine (value_any _ _ 1 4 _ l c _ (RdB.upd HR.out (((((Upd.refl _ w).alloc _).alloc _).alloc _).drew)) HB.out hc (by omega) (by omega) (by omega)).mono ?_; rw [HV.out]; rintro e w' ⟨rfl, hu⟩; obtain ⟨z1, z2, z3⟩ := still hu (resBlk3 _ _ _); simp only [zs43] at z1; have HU := Lib.hid hu; clear hu)
    refine bodyPost_ret (v := .tuple #[.agg (Spc.mk vk vr vi vv vn).cells, .int .i64 ve]) (by simp [results, Try.results31, go_sem, Spc.cells, z1]) rfl ⟨rfl, ?_⟩
    have := upd3 HU.out
    exact ((((this.setCell (.inr (by simp)) _).setCell (.inr (by simp)) _).setCell (.inr (by simp)) _).setCell (.inr (by simp)) _).setCell (.inr (by simp)) _
end
end Go.Proofs.Ytoocbodkjldlcaa.Sp
