/- Encode: operands that aren't branches'. -/
import Derived.Test.YtoocbodkjldlcaaSpK
import Derived.Test.YtoocbodkjldlcaaSpN
namespace Go.Proofs.Ytoocbodkjldlcaa.Sp
set_option linter.unusedVariables false
set_option linter.unusedSimpArgs false
set_option maxHeartbeats 4000000
set_option maxRecDepth 20000
open Go.RowKit
attribute [local go_sem] Spc.cells badS zeroS
section
variable (k r i v m acc : Int) (n : Nat) (w : World)
theorem BB1 (w : World) (cs : Array Value) (B : Obj) : Blk ((w.alloc (.cells cs 43)).alloc B) w.heap.size cs 43 := (Blk.new w cs 43).alloc B
theorem BB2 (w : World) (A : Obj) (ds : Array Value) : Blk ((w.alloc A).alloc (.cells ds 45)) (w.heap.size + 1) ds 45 := by
  have := Blk.new (w.alloc A) ds 45
  rw [World.size_alloc] at this
  exact this
/-- What Encode has behind the code. -/
structure Mid (w W : World) (x : Value) (l : List Int) (cs ds : Array Value) : Prop where
  own : OwnB W w.heap.size x l
  upd : Upd (fun _ => False) w W
  b1 : Blk W w.heap.size cs 43
  b2 : Blk W (w.heap.size + 1) ds 45
theorem enc_after {w wc w2 : World} {k r i v m acc n : Int} {x : Value} {l : List Int} (hm : Mid w wc x l #[.int .i64 k, .int .i64 r, .int .i64 i, .int .u32 v, .int .i64 m] #[.int .u8 acc, .int .i64 n]) (hu : Upd (fun _ => False) wc w2) :
    (∀ j, w2.cell? ⟨w.heap.size, j, none⟩ = (#[.int .i64 k, .int .i64 r, .int .i64 i, .int .u32 v, .int .i64 m] : Array Value)[j]?) ∧ (∀ j, w2.cell? ⟨w.heap.size + 1, j, none⟩ = (#[.int .u8 acc, .int .i64 n] : Array Value)[j]?) ∧ w.heap.size < w2.heap.size ∧ w.heap.size + 1 < w2.heap.size ∧
    Hid (∀ (o : Obj) (q : Nat), Upd (fun _ => False) w ((w2.alloc o).drewN q)) ∧
    Hid (∀ (o : Obj) (q : Nat), OwnB ((w2.alloc o).drewN q) w.heap.size x l) := by
  have b1 := hm.b1.upd hu id
  have b2 := hm.b2.upd hu id
  have h1 : w.heap.size + 1 < w2.heap.size := b2.lt
  have U := hm.upd.then hu
  have key : ∀ (o : Obj) (q : Nat), Upd (fun z => z = w2.heap.size) w2 ((w2.alloc o).drewN q) := fun o q =>
    ((Upd.refl (fun z => z = w2.heap.size) w2).alloc o).drewN q
  refine ⟨fun j => b1.cell j, fun j => b2.cell j, by omega, h1, fun o q => U.trans (key o q) (fun z hz h => by omega), fun o q => ?_⟩
  have ho := hm.own.upd hu (fun _ _ => id)
  refine ho.upd (key o q) (fun z hz => ?_)
  obtain ⟨_, _, _, _, _, hh⟩ := ho.slice
  have := (hh z hz).2
  omega
theorem enc_gen (hm : (msk n == 0) = false) (hacc : (acc == 98) = false) (hv : 0 ≤ v) (hv2 : v < 4294967296) (hn : n ≤ 4) (hn0 : 0 < n) (fb : List Int) (ok : Bool) (hF : firstF ⟨k, r, i, v, m⟩ n = (fb, ok)) (code : List Int) (hco : codeF ⟨k, r, i, v, m⟩ n = code) (hB : ok = true → 0 ≤ r → r ≤ 15 → i ≤ 15 → Byt code) :
    Calls Try.prog 18 #[.agg (Spc.cells ⟨k, r, i, v, m⟩), .agg #[.int .u8 acc, .int .i64 n]] w (Enc w
      (if ok = false ∨ r < 0 ∨ 15 < r ∨ 15 < i then ([], 1)
        else if (decF code acc n).2 ≠ 0 ∨ (decF code acc n).1.k ≠ k ∨ (k = 12 ∧ ext v n ≠ v) then ([], 1)
        else (code, 0))) := by
  have KF : Hid (∀ W, Calls Try.prog 27 #[.agg (Spc.cells ⟨k, r, i, v, m⟩), .int .i64 n] W (Fst W (fb, ok))) := Lib.hid fun W => by
    rw [← hF]; exact first_any ⟨k, r, i, v, m⟩ n W hv hv2 hn
  have hl : fb.length ≤ 5 := by have := firstF_len ⟨k, r, i, v, m⟩ n hn; rw [hF] at this; exact this
  have HL := Lib.hid hl
  have hco2 : code = if 0 ≤ i then ib i :: fb else fb := by rw [← hco]; unfold codeF; rw [hF]
  have HCO := Lib.hid hco2
  have hcl : code.length ≤ 6 := by rw [hco2]; split; (simp only [List.length_cons]; omega); omega
  have HCL := Lib.hid hcl
  have HB := Lib.hid hB
  clear hF hco hl hco2 hcl hB
  generalize hP : (if ok = false ∨ r < 0 ∨ 15 < r ∨ 15 < i then (([], 1) : List Int × Int)
        else if (decF code acc n).2 ≠ 0 ∨ (decF code acc n).1.k ≠ k ∨ (k = 12 ∧ ext v n ≠ v) then ([], 1)
        else (code, 0)) = P
  have HP := Lib.hid hP
  clear hP
  have KX : Hid (∀ W, Calls Try.prog 25 #[.int .u32 v, .int .i64 n] W fun e w' => e = .returned (.int .u32 (ext v n)) ∧ w' = W) := Lib.hid fun W => ext_any v n W hv hv2
  unfold Spc.cells at *
  simp only [] at *
  go_enter Try.func18, Try.ntmps18
  go_upto_if 59 with (first
    | (go_at_call 24; refine (msk_any _ _).mono ?_; rintro e w' ⟨rfl, rfl⟩)
    | (go_at_call 27; refine (KF.out _).mono ?_; rintro e w' ⟨x, rfl, ho, hu⟩; have HO := Lib.hid ho; have HU := Lib.hid hu; obtain ⟨z1, z2, z3⟩ := still hu (BB1 w _ _); obtain ⟨y1, y2, y3⟩ := still hu (BB2 w _ _); clear ho hu))
  have HO' := Lib.hid (OwnB.low HO.out (b := w.heap.size) (by rw [World.size_alloc, World.size_alloc]; omega))
  have HU' := Lib.hid ((((Upd.refl (fun _ => False) w).alloc _).alloc _).then HU.out)
  have HB1 : Hid (Blk w' w.heap.size #[.int .i64 k, .int .i64 r, .int .i64 i, .int .u32 v, .int .i64 m] 43) := Lib.hid ((BB1 w _ _).upd HU.out id)
  have HB2 : Hid (Blk w' (w.heap.size + 1) #[.int .u8 acc, .int .i64 n] 45) := Lib.hid ((BB2 w _ _).upd HU.out id)
  obtain ⟨xa, xc, rfl, hxc, hxr, hx⟩ := HO'.out.slice
  have HX := Lib.hid hxr
  have HN := Lib.hid (OwnB.nonil HO'.out)
  clear hxc hxr hx HO HU
  go_cut [6] from 10 (fun s6 W => Hid (Mid w W s6 code #[.int .i64 k, .int .i64 r, .int .i64 i, .int .u32 v, .int .i64 m] #[.int .u8 acc, .int .i64 n]))
  case first =>
    by_cases hi : 0 ≤ i
    · have hc3 : code = [ib i] ++ fb := by have := HCO.out; rw [if_pos hi] at this; exact this
      have HC3 := Lib.hid hc3
      have hxl := HL.out
      clear hc3
      go_wp2_with (at_builtin; go_must (refine wpList_appB rfl (.tmp 65) (.tmp 66) rfl _ w'.heap.size [ib i] fb xa xc rfl rfl HN.out ?_ ?_ ?_ ?_ ?_))
      · exact RdB.upd HX.out ((Upd.refl _ w').alloc _)
      · exact blkN w' _ _ (Nat.le_refl _)
      · rw [World.size_alloc]; omega
      · simp only [List.length_cons, List.length_nil]; omega
      · intro v' w1 own1 up1 hv1
        have HM : Hid (Mid w w1 v' code #[.int .i64 k, .int .i64 r, .int .i64 i, .int .u32 v, .int .i64 m] #[.int .u8 acc, .int .i64 n]) := by
          have up2 : Upd (fun q => q = w'.heap.size) w' w1 := (((Upd.refl _ w').alloc _).trans up1 (fun q hq h => by cases h; rfl))
          have hsz : w.heap.size + 1 < w'.heap.size := HB2.out.lt
          refine Lib.hid ⟨?_, ?_, ?_, ?_⟩
          · rw [HC3.out]; exact OwnB.low own1 HU'.out.size
          · exact HU'.out.trans up2 (fun q hq h => by omega)
          · exact HB1.out.upd up2 (by omega)
          · exact HB2.out.upd up2 (by omega)
        clear own1 up1 hv1
        go_wp2
        go_meet
        exact HM
    · have hi2 : ¬ 0 ≤ i := hi
      have hc3 : code = fb := by have := HCO.out; rw [if_neg hi] at this; exact this
      have HM : Hid (Mid w w' (.slice xa fb.length xc) code #[.int .i64 k, .int .i64 r, .int .i64 i, .int .u32 v, .int .i64 m] #[.int .u8 acc, .int .i64 n]) := Lib.hid ⟨hc3 ▸ HO'.out, HU'.out, HB1.out, HB2.out⟩
      clear hi hc3
      go_wp2
      go_meet
      exact HM
  case rest =>
    have HM := Lib.hid hcut.out
    clear hcut
    clear HX HN HB1 HB2 HO' HU' z1 z2 z3 y1 y2 y3 KF HCO
    obtain ⟨xb, xd, rfl, hxc, hxr, hx⟩ := HM.out.own.slice
    have HX := Lib.hid hxr
    have HXC := Lib.hid hxc
    clear hxc hxr hx
    have c1 : ∀ j, wc.cell? ⟨w.heap.size, j, none⟩ = (#[.int .i64 k, .int .i64 r, .int .i64 i, .int .u32 v, .int .i64 m] : Array Value)[j]? := fun j => HM.out.b1.cell j
    have c2 : ∀ j, wc.cell? ⟨w.heap.size + 1, j, none⟩ = (#[.int .u8 acc, .int .i64 n] : Array Value)[j]? := fun j => HM.out.b2.cell j
    have s1 : w.heap.size + 1 < wc.heap.size := HM.out.b2.lt
    have s2 : w.heap.size < wc.heap.size := by omega
    cases ok
    · have hP : P = ([], 1) := by rw [← HP.out, if_pos (.inl rfl)]
      subst hP
      go_wp2
      exact bodyPost_ret (v := .tuple #[_, _]) (by simp [results, Try.results18, go_sem]) rfl ⟨_, rfl, OwnB.none _ _, HM.out.upd⟩
    by_cases hr0 : r < 0
    · have hP : P = ([], 1) := by rw [← HP.out, if_pos (.inr (.inl hr0))]
      subst hP
      go_wp2
      exact bodyPost_ret (v := .tuple #[_, _]) (by simp [results, Try.results18, go_sem]) rfl ⟨_, rfl, OwnB.none _ _, HM.out.upd⟩
    by_cases hr1 : 15 < r
    · have hP : P = ([], 1) := by rw [← HP.out, if_pos (.inr (.inr (.inl hr1)))]
      subst hP
      go_wp2
      exact bodyPost_ret (v := .tuple #[_, _]) (by simp [results, Try.results18, go_sem]) rfl ⟨_, rfl, OwnB.none _ _, HM.out.upd⟩
    by_cases hi1 : 15 < i
    · have hP : P = ([], 1) := by rw [← HP.out, if_pos (.inr (.inr (.inr hi1)))]
      subst hP
      go_wp2
      exact bodyPost_ret (v := .tuple #[_, _]) (by simp [results, Try.results18, go_sem]) rfl ⟨_, rfl, OwnB.none _ _, HM.out.upd⟩
    obtain ⟨⟨⟨pk, pr, pi, pv, pm⟩, pe⟩, hD⟩ : ∃ p, decF code acc n = p := ⟨_, rfl⟩
    have KD : Hid (∀ W, Upd (fun _ => False) wc W → Calls Try.prog 19 #[.slice xb code.length xd, .agg #[.int .u8 acc, .int .i64 n]] W (Ans W (⟨pk, pr, pi, pv, pm⟩, pe))) := Lib.hid fun W hu => by
      rw [← hD]; exact decode_any xb code xd acc n W (HX.out.upd hu) (HB.out rfl (by omega) (by omega) (by omega)) HXC.out
    have hP : P = (if pe ≠ 0 ∨ pk ≠ k ∨ (k = 12 ∧ ext v n ≠ v) then (([], 1) : List Int × Int) else (code, 0)) := by
      rw [← HP.out, if_neg (by simp; omega), hD]
    clear hD HX HB HP HCL hacc hm
    by_cases he : pe ≠ 0
    · rw [if_pos (.inl he)] at hP
      subst hP
      have he' : (pe != 0) = true := by simpa using he
      clear he
      · go_wp2_with (go_at_call 19; refine (KD.out _ (Upd.refl _ _)).mono ?_; rintro e w2 ⟨rfl, hu⟩; obtain ⟨d1, d2, d3, d4, HE, HF⟩ := enc_after HM.out hu; clear hu)
        go_quiet (first | (go_at_call 25; refine Calls.quiet_of_same (KX.out _)))
        go_wp2
        exact bodyPost_ret (v := .tuple #[_, _]) (by simp [results, Try.results18, go_sem]) rfl ⟨_, rfl, OwnB.none _ _, HE.out _ _⟩
    obtain rfl : pe = 0 := by simpa using he
    clear he
    by_cases hk : pk ≠ k
    · rw [if_pos (.inr (.inl hk))] at hP
      subst hP
      have hk' : (pk != k) = true := by simpa using hk
      clear hk
      · go_wp2_with (go_at_call 19; refine (KD.out _ (Upd.refl _ _)).mono ?_; rintro e w2 ⟨rfl, hu⟩; obtain ⟨d1, d2, d3, d4, HE, HF⟩ := enc_after HM.out hu; clear hu)
        go_quiet (first | (go_at_call 25; refine Calls.quiet_of_same (KX.out _)))
        go_wp2
        exact bodyPost_ret (v := .tuple #[_, _]) (by simp [results, Try.results18, go_sem]) rfl ⟨_, rfl, OwnB.none _ _, HE.out _ _⟩
    obtain rfl : pk = k := by simpa using hk
    clear hk
    by_cases h12 : pk = 12
    · subst h12
      by_cases hx : ext v n = v
      · rw [if_neg (by simp [hx])] at hP
        subst hP
        have KY := KX.out
        rw [hx] at KY
        have KX := Lib.hid KY
        clear KY hx
        · go_wp2_with (go_at_call 19; refine (KD.out _ (Upd.refl _ _)).mono ?_; rintro e w2 ⟨rfl, hu⟩; obtain ⟨d1, d2, d3, d4, HE, HF⟩ := enc_after HM.out hu; clear hu)
          go_quiet (first | (go_at_call 25; refine Calls.quiet_of_same (KX.out _)))
          go_wp2
          exact bodyPost_ret (v := .tuple #[_, _]) (by simp [results, Try.results18, go_sem]) rfl ⟨_, rfl, HF.out _ _, HE.out _ _⟩
      · rw [if_pos (.inr (.inr ⟨rfl, hx⟩))] at hP
        subst hP
        have hx' : (ext v n != v) = true := by simpa using hx
        clear hx
        · go_wp2_with (go_at_call 19; refine (KD.out _ (Upd.refl _ _)).mono ?_; rintro e w2 ⟨rfl, hu⟩; obtain ⟨d1, d2, d3, d4, HE, HF⟩ := enc_after HM.out hu; clear hu)
          go_quiet (first | (go_at_call 25; refine Calls.quiet_of_same (KX.out _)))
          go_wp2
          exact bodyPost_ret (v := .tuple #[_, _]) (by simp [results, Try.results18, go_sem]) rfl ⟨_, rfl, OwnB.none _ _, HE.out _ _⟩
    · rw [if_neg (by simp [h12])] at hP
      subst hP
      have h12' : (pk == 12) = false := by simpa using h12
      clear h12
      · go_wp2_with (go_at_call 19; refine (KD.out _ (Upd.refl _ _)).mono ?_; rintro e w2 ⟨rfl, hu⟩; obtain ⟨d1, d2, d3, d4, HE, HF⟩ := enc_after HM.out hu; clear hu)
        go_quiet (first | (go_at_call 25; refine Calls.quiet_of_same (KX.out _)))
        go_wp2
        exact bodyPost_ret (v := .tuple #[_, _]) (by simp [results, Try.results18, go_sem]) rfl ⟨_, rfl, HF.out _ _, HE.out _ _⟩
end
end Go.Proofs.Ytoocbodkjldlcaa.Sp
