/- 'alive': what the document tells, held. -/
import Derived.Test.YtoocbodkjldlcaaRg5
namespace Go.Proofs.Ytoocbodkjldlcaa.Rg
set_option linter.unusedVariables false
set_option linter.unusedSimpArgs false
open Go.RowKit

theorem set_ends (g : Nat) (n x : Int) (w : World) {r : List Int} {psl ksp usp : Int} {sv : Value} {l : List (Int × Int)} (h : FB w g r psl ksp usp sv) (ho : w.ownsRow 0 59 2 sv l.length (stepCells l)) (h0 : 0 ≤ n) (h1 : n ≤ 15) :
    Calls Try.prog 21 #[.pointer (some ⟨g, 0, none⟩), .int .i64 n, .int .u32 x, .int .i64 4] w fun e w' => e = .returned (.int .i64 0) ∧
      FileEnds w w' g sv (r.set n.toNat (putB (r.getD n.toNat 0) x 4)) psl ksp usp l := by
  refine (set_yes g n x 4 w h h0 h1 rfl).mono ?_
  rintro e w' ⟨rfl, k, rfl⟩
  have hne := own_ne ho h.blk (by decide)
  have h2 := h.setR n.toNat (by omega) (putB (r.getD n.toNat 0) x 4)
  refine ⟨rfl, sv, ⟨h2.blk.drewN k, h2.len⟩, ?_, ((Upd.refl _ w).setCell (.inl (.inl rfl)) _).drewN k, fun k hk => .inl hk⟩
  exact own_upd ho (((Upd.refl (fun k => k = g) w).setCell (.inl rfl) _).drewN k) (fun k hk he => hne (he ▸ hk))

/-- A file that the call itself has made: everything that it touches lies from block 'b' on. -/
structure Own (b : Nat) (w : World) (g : Nat) (r : List Int) (psl ksp usp : Int) (l : List (Int × Int)) : Prop where
  ex : ∃ sv, FB w g r psl ksp usp sv ∧ w.ownsRow 0 59 2 sv l.length (stepCells l) ∧ b ≤ g ∧ (∀ k, OB sv k → b ≤ k)

theorem Own.ends {b : Nat} {w0 w w' : World} {g : Nat} {r r' : List Int} {psl ksp usp psl' ksp' usp' : Int} {l l' : List (Int × Int)} {sv : Value}
    (hg : b ≤ g) (hsv : ∀ k, OB sv k → b ≤ k) (hb : b ≤ w.heap.size) (he : FileEnds w w' g sv r' psl' ksp' usp' l') (hu : Upd (fun k => b ≤ k) w0 w) : Own b w' g r' psl' ksp' usp' l' ∧ Upd (fun k => b ≤ k) w0 w' := by
  obtain ⟨sv', h1, h2, h3, h4⟩ := he
  refine ⟨⟨sv', h1, h2, hg, fun k hk => ?_⟩, hu.trans h3 ?_⟩
  · rcases h4 k hk with h | h
    · exact hsv k h
    · omega
  · rintro k _ (rfl | h)
    · exact hg
    · exact hsv k h

theorem new_own (w : World) : Calls Try.prog 7 #[] w fun e w' => ∃ g, e = .returned (.pointer (some ⟨g, 0, none⟩)) ∧ Own w.heap.size w' g (List.replicate 16 0) 0 0 0 [] ∧ Upd (fun k => w.heap.size ≤ k) w w' := by
  refine (new_any w).mono ?_
  rintro e w' ⟨rfl, rfl⟩
  exact ⟨_, rfl, ⟨.slice none 0 0, ⟨Blk.new _ _ _, rfl⟩, ⟨rfl, .inl ⟨rfl, rfl⟩⟩, Nat.le_refl _, fun k hk => by cases hk⟩, (Upd.refl _ _).alloc _⟩
theorem step_own {b : Nat} {w0 w : World} {g : Nat} {r : List Int} {psl ksp usp : Int} {l : List (Int × Int)} (n d : Int) (h : Own b w g r psl ksp usp l) (hu : Upd (fun k => b ≤ k) w0 w) (hb : b ≤ w.heap.size) (h0 : 0 ≤ n) (h1 : n ≤ 15)
    (hl : (l.length + 1) * 16 ≤ 140737488355328) :
    Calls Try.prog 9 #[.pointer (some ⟨g, 0, none⟩), .int .i64 n, .int .u32 d] w fun e w' => e = .returned (.int .i64 0) ∧ Own b w' g (r.set n.toNat (IntKind.u32.wrap (r.getD n.toNat 0 + d))) psl ksp usp (l ++ [(n, d)]) ∧ Upd (fun k => b ≤ k) w0 w' := by
  obtain ⟨sv, h1', h2, h3, h4⟩ := h.ex
  exact (step_yes g n d w h1' h2 h0 h1 hl).mono fun e w' ⟨he, hf⟩ => ⟨he, Own.ends (l := l) (r := r) (psl := psl) (ksp := ksp) (usp := usp) h3 h4 hb hf hu⟩
theorem undo_own {b : Nat} {w0 w : World} {g : Nat} {r : List Int} {psl ksp usp : Int} {l : List (Int × Int)} (h : Own b w g r psl ksp usp l) (hu : Upd (fun k => b ≤ k) w0 w) (hb : b ≤ w.heap.size) (hl : ∀ s ∈ l, 0 ≤ s.1 ∧ s.1 ≤ 15) :
    Calls Try.prog 12 #[.pointer (some ⟨g, 0, none⟩)] w fun e w' => e = .returned (.tuple #[]) ∧ Own b w' g (l.foldr back r) psl ksp usp [] ∧ Upd (fun k => b ≤ k) w0 w' := by
  obtain ⟨sv, h1', h2, h3, h4⟩ := h.ex
  exact (undo_any g w h1' h2 hl).mono fun e w' ⟨he, hf⟩ => ⟨he, Own.ends (l := l) (r := r) (psl := psl) (ksp := ksp) (usp := usp) h3 h4 hb hf hu⟩
theorem set_own {b : Nat} {w0 w : World} {g : Nat} {r : List Int} {psl ksp usp : Int} {l : List (Int × Int)} (n x : Int) (h : Own b w g r psl ksp usp l) (hu : Upd (fun k => b ≤ k) w0 w) (hb : b ≤ w.heap.size) (h0 : 0 ≤ n) (h1 : n ≤ 15) :
    Calls Try.prog 21 #[.pointer (some ⟨g, 0, none⟩), .int .i64 n, .int .u32 x, .int .i64 4] w fun e w' => e = .returned (.int .i64 0) ∧ Own b w' g (r.set n.toNat (putB (r.getD n.toNat 0) x 4)) psl ksp usp l ∧ Upd (fun k => b ≤ k) w0 w' := by
  obtain ⟨sv, h1', h2, h3, h4⟩ := h.ex
  exact (set_ends g n x w h1' h2 h0 h1).mono fun e w' ⟨he, hf⟩ => ⟨he, Own.ends (l := l) (r := r) (psl := psl) (ksp := ksp) (usp := usp) h3 h4 hb hf hu⟩
theorem steps_own {b : Nat} {w : World} {g : Nat} {r : List Int} {psl ksp usp : Int} {l : List (Int × Int)} (h : Own b w g r psl ksp usp l) :
    Calls Try.prog 13 #[.pointer (some ⟨g, 0, none⟩)] w fun e w' => e = .returned (.int .i64 l.length) ∧ w = w' := by
  obtain ⟨sv, h1', h2, h3, h4⟩ := h.ex
  obtain ⟨ao, c, rfl⟩ := own_slice h2
  exact steps_any g w _ _ _ h1'.csv
theorem get_own {b : Nat} {w : World} {g : Nat} {r : List Int} {psl ksp usp : Int} {l : List (Int × Int)} (n : Int) (h : Own b w g r psl ksp usp l) (h0 : 0 ≤ n) (h1 : n ≤ 15) :
    Calls Try.prog 22 #[.pointer (some ⟨g, 0, none⟩), .int .i64 n] w fun e w' => e = .returned (.int .u32 (r.getD n.toNat 0)) ∧ w = w' := by
  obtain ⟨sv, h1', h2, h3, h4⟩ := h.ex
  exact get_yes g n _ w h0 h1 (h1'.reg _ (by omega))
theorem Upd.le {S : Nat → Prop} {w w' : World} (h : Upd S w w') : w.heap.size ≤ w'.heap.size := h.size
theorem upd_none {w w' : World} (h : Upd (fun k => w.heap.size ≤ k) w w') : Upd (fun _ => False) w w' := h.mono fun k h1 h2 => by omega

theorem alive_any (w : World) : Calls Try.prog 6 #[] w fun e w' => e = .returned (.bool true) ∧ Upd (fun _ => False) w w' := by
  go_enter Try.func6, Try.ntmps6
  go_wp2_with fail
  refine (new_own _).mono ?_
  rintro e w1 ⟨g, rfl, o1, u1⟩
  go_wp2_with fail
  refine (set_own 3 9 o1 u1 u1.size (by omega) (by omega)).mono ?_
  rintro e w2 ⟨rfl, o2, u2⟩
  clear o1 u1
  go_wp2_with fail
  refine (step_own 3 4 o2 u2 u2.size (by omega) (by omega) (by simp)).mono ?_
  rintro e w3 ⟨rfl, o3, u3⟩
  clear o2 u2
  go_wp2_with fail
  refine (get_own 3 o3 (by omega) (by omega)).mono ?_
  rintro e w4 ⟨rfl, rfl⟩
  rw [show List.getD _ (Int.toNat 3) 0 = (13 : Int) by decide]
  go_wp2_with fail
  refine (undo_own o3 u3 u3.size (by simp)).mono ?_
  rintro e w4 ⟨rfl, o4, u4⟩
  clear o3 u3
  go_wp2_with fail
  refine (get_own 3 o4 (by omega) (by omega)).mono ?_
  rintro e w5 ⟨rfl, rfl⟩
  rw [show List.getD _ (Int.toNat 3) 0 = (9 : Int) by decide]
  go_wp2_with fail
  refine (steps_own o4).mono ?_
  rintro e w5 ⟨rfl, rfl⟩
  go_wp2_with fail
  go_ret
  exact ⟨rfl, upd_none u4⟩
end Go.Proofs.Ytoocbodkjldlcaa.Rg
