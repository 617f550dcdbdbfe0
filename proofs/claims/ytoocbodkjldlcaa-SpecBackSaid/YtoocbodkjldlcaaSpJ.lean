/- The first bytes of a specifier: kind 11; all kinds together. -/
import Derived.Test.YtoocbodkjldlcaaSpI
namespace Go.Proofs.Ytoocbodkjldlcaa.Sp
set_option linter.unusedVariables false
set_option linter.unusedSimpArgs false
set_option maxHeartbeats 4000000
set_option maxRecDepth 20000
open Go.RowKit
section
variable (r i v m : Int) (n : Nat) (w : World) (hv : 0 ≤ v) (hv2 : v < 4294967296)
theorem first_11 (hv : 0 ≤ v) (hv2 : v < 4294967296) : Calls Try.prog 27 #[.agg (Spc.cells ⟨11, r, i, v, m⟩), .int .i64 n] w (Fst w (firstF ⟨11, r, i, v, m⟩ n)) := by
  generalize hF : Fst w (firstF ⟨11, r, i, v, m⟩ n) = F
  have HF := Lib.hid hF
  clear hF
  unfold Spc.cells
  simp only []
  go_enter Try.func27, Try.ntmps27
  go_wp2
  go_loopw [42] (fun s42 W => ∃ j : Nat, j ≤ 2 ∧ s42 = .int .i64 j ∧ Hid (∀ j', j' < j → ext v (sz j') ≠ v) ∧ Hid (Blk W w.heap.size (Spc.cells ⟨11, r, i, v, m⟩) 43) ∧ Hid (Blk W (w.heap.size + 1) szs 3) ∧ Hid (Upd (fun _ => False) w W)) (fun s42 _ => 3 - (intOf s42).toNat)
  case atStart =>
    refine ⟨0, by omega, rfl, Lib.hid (fun j' h => absurd h (by omega)), Lib.hid ?_, Lib.hid ?_, Lib.hid (((Upd.refl _ w).alloc _).alloc _)⟩
    · exact (Blk.new w _ 43).alloc _
    · have := Blk.new (w.alloc (.cells (Spc.cells ⟨11, r, i, v, m⟩) 43)) szs 3
      rw [World.size_alloc] at this
      exact this
  case round =>
    obtain ⟨j, hj, rfl, HN, HB, HA, HU⟩ := hrel
    have hext : ∀ (W : World), Calls Try.prog 25 #[.int .u32 v, .int .i64 (sz j)] W fun e w' => e = .returned (.int .u32 (ext v (sz j))) ∧ w' = W := fun W => ext_any v _ W hv hv2
    have c0 := HB.out.cell 0
    have c3 := HB.out.cell 3
    have a0 := HA.out.cell j
    have hsz : (szs[j]?) = some (.int .i64 (sz j)) := by rcases (by omega : j = 0 ∨ j = 1 ∨ j = 2) with rfl | rfl | rfl <;> rfl
    have hsz4 : sz j ≤ 4 := by unfold sz; split; omega; split <;> omega
    rw [hsz] at a0
    have hsz1 : 1 ≤ sz j := by unfold sz; split; omega; split <;> omega
    have HZ := Lib.hid hsz
    clear hsz
    simp only [Spc.cells, List.getElem?_toArray, List.getElem?_cons_zero, List.getElem?_cons_succ] at c0 c3
    have hlt : w.heap.size + 1 < wr.heap.size := HA.out.lt
    have hlt0 : w.heap.size < wr.heap.size := by omega
    have HX := Lib.hid hext
    have hpl : (putB v (sz j)).length ≤ 4 := by simp [putB]; omega
    clear hext
    by_cases he : ext v (sz j) = v
    · have he' : (ext v (sz j) == v) = true := by simpa using he
      have HE := Lib.hid he
      clear he
      go_wp2_with fail
      go_quiet (first | (go_at_call 25; refine Calls.quiet_of_same (HX.out _)))
      go_wp2_with fail
      generalize hW : World.drewN wr _ = W
      have d0 : W.cell? ⟨w.heap.size, 0, .none⟩ = some (.int .i64 11) := hW ▸ c0
      have d3 : W.cell? ⟨w.heap.size, 3, .none⟩ = some (.int .u32 v) := hW ▸ c3
      have dl : w.heap.size < W.heap.size := hW ▸ hlt0
      have HV : Hid (Upd (fun _ => False) w W) := Lib.hid (hW ▸ HU.out.drewN _)
      clear hW c0 c3 a0 HB HA HU HX hlt hlt0 he' HZ
      go_cut [4, 5] from 9 (fun s4 s5 W => s5 = .bool true ∧ Hid (OwnB W w.heap.size s4 (yy 11 j r :: putB v (sz j))) ∧ Hid (Upd (fun _ => False) w W))
      case first =>
        go_region_law (first
          | (refine step_call rfl 26 #[.int .u32 v, .int .i64 (sz j)] (by go_simp) (put_any v _ _ hv hv2 hsz4) ?_
             rintro x w1 ⟨ho, hu⟩
             have HO := Lib.hid ho
             have HC := Lib.hid hu
             have HT : Hid (Upd (fun _ => False) w w1) := Lib.hid (by first | exact HV.out.drew.then hu | exact (HV.out.drew.alloc _).then hu)
             obtain ⟨xa, xc, rfl, hxc, hxr, hx⟩ := ho.slice
             have HR := Lib.hid hxr
             first | (have e0 := cellUpd hu (by show w.heap.size < W.heap.size; exact dl) d0) | skip
             clear hu ho hxr hx)
          | (refine step_appB rfl (.tmp 65) (.tmp 69) rfl _ w.heap.size [yy 11 j r] (putB v (sz j)) xa xc rfl rfl (OwnB.nonil HO.out) ?_ ?_ ?_ ?_ ?_
             · first | exact HR.out | exact RdB.upd HR.out ((Upd.refl _ _).alloc _)
             · first | exact blkN w1 _ _ HT.out.size | exact OwnB.upd (blkN W.drew _ _ (Nat.le_of_lt dl)) HC.out (fun _ _ h => h)
             · first | exact HT.out.size | exact Nat.le_trans HT.out.size (by rw [World.size_alloc]; omega)
             · simp only [List.length_cons, List.length_nil]; omega
             intro v' w2 own1 up1 hv1
             have HF1 := Lib.hid own1
             have HF2 : Hid (Upd (fun _ => False) w w2) := Lib.hid (by
               first
               | exact HT.out.trans up1 (fun k hk h => by cases h; exact absurd hk (by show ¬ W.heap.size < w.heap.size; omega))
               | exact (HT.out.alloc _).trans up1 (fun k hk h => by cases h; exact absurd hk (by show ¬ w1.heap.size < w.heap.size; have := HT.out.size; omega)))
             clear own1 up1 hv1))
        all_goals go_wp2
        all_goals go_meet
        all_goals exact ⟨rfl, HF1, HF2⟩
      case rest =>
        obtain ⟨rfl, HF1, HF2⟩ := hcut
        clear d0 d3 dl HV
        have hN := HN.out
        have hE := HE.out
        have e : firstF ⟨11, r, i, v, m⟩ n = (yy 11 j r :: putB v (sz j), true) := by
          rcases (by omega : j = 0 ∨ j = 1 ∨ j = 2) with rfl | rfl | rfl
          · have : ext v 1 = v := hE
            simp [firstF, this, sz]; rfl
          · have h1 : ext v 1 ≠ v := hN 0 (by omega)
            have h2 : ext v 2 = v := hE
            simp [firstF, h1, h2, sz]; rfl
          · have h1 : ext v 1 ≠ v := hN 0 (by omega)
            have h2 : ext v 2 ≠ v := hN 1 (by omega)
            simp [firstF, h1, h2, sz]; rfl
        clear hN hE
        go_wp2
        rw [← HF.out, e]
        exact ⟨u4, rfl, HF1.out, HF2.out⟩
    · have hne : (ext v (sz j) == v) = false := by simpa using he
      have hj2 : j < 2 := by
        rcases (by omega : j < 2 ∨ j = 2) with h | rfl
        · exact h
        · exact absurd (show ext v 4 = v by simp [ext]) he
      have HN1 := Lib.hid (show ∀ j', j' < j + 1 → ext v (sz j') ≠ v from fun j' h => by
        rcases (by omega : j' < j ∨ j' = j) with h | rfl
        · exact HN.out j' h
        · exact he)
      clear he
      go_wp2_with fail
      go_quiet (first | (go_at_call 25; refine Calls.quiet_of_same (HX.out _)))
      go_wp2_with fail
      refine ⟨⟨j + 1, by omega, rfl, HN1, Lib.hid (HB.out.drewN _), Lib.hid (HA.out.drewN _), Lib.hid (HU.out.drewN _)⟩, by simp [intOf]; omega⟩
end
theorem first_any (s : Spc) (n : Nat) (w : World) (hv : 0 ≤ s.v) (hv2 : s.v < 4294967296) (hn : n ≤ 4) : Calls Try.prog 27 #[.agg s.cells, .int .i64 n] w (Fst w (firstF s n)) := by
  obtain ⟨k, r, i, v, m⟩ := s
  by_cases h0 : k = 0
  · subst h0; exact first_0 r i v m n w hv hv2
  by_cases h5 : 5 ≤ k ∧ k ≤ 9
  · rw [show firstF ⟨k, r, i, v, m⟩ n = ([hd (16 * k) r], true) by unfold firstF; rw [if_neg h0, if_pos h5]]
    exact first_5 r i v m n w k h5.1 h5.2 hv hv2
  by_cases h10 : k = 10
  · subst h10; exact first_10 r i v m n w hv hv2
  by_cases h11 : k = 11
  · subst h11; exact first_11 r i v m n w hv hv2
  by_cases h12 : k = 12
  · subst h12; exact first_12 r i v m n w hv hv2 hn
  by_cases h13 : k = 13
  · subst h13; exact first_13 r i v m n w hv hv2
  · rw [show firstF ⟨k, r, i, v, m⟩ n = ([], false) by unfold firstF; rw [if_neg h0, if_neg h5, if_neg (show ¬ (k = 10 ∨ k = 11) by omega), if_neg h12, if_neg h13]]
    exact first_bad r i v m n w k (by omega)
end Go.Proofs.Ytoocbodkjldlcaa.Sp
