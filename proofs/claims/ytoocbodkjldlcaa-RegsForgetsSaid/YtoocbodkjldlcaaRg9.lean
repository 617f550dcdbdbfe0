/- What 'Put', 'Stack' and 'SetStack' do to a file of the call's own; the law on the stacks' ends: its walk. -/
import Derived.Test.YtoocbodkjldlcaaRg7
import Derived.Test.YtoocbodkjldlcaaRg8
namespace Go.Proofs.Ytoocbodkjldlcaa.Rg
set_option linter.unusedVariables false
set_option linter.unusedSimpArgs false
open Go.RowKit

/-- The registers, the status, the stacks' ends. -/
structure St where
  r : List Int
  psl : Int
  ksp : Int
  usp : Int
def St.stack (s : St) (user : Bool) : Int := if user = usr s.psl then s.r.getD 14 0 else if user then s.usp else s.ksp
def St.setStack (s : St) (user : Bool) (x : Int) : St :=
  if user = usr s.psl then { s with r := s.r.set 14 x } else if user then { s with usp := x } else { s with ksp := x }
def St.put (s : St) (x : Int) : St :=
  if usr x = usr s.psl then { s with psl := x } else if usr x then { r := s.r.set 14 s.usp, psl := x, ksp := s.r.getD 14 0, usp := s.usp }
    else { r := s.r.set 14 s.ksp, psl := x, ksp := s.ksp, usp := s.r.getD 14 0 }

/-- A file of the call's own, in a state. -/
def Has (b : Nat) (w : World) (g : Nat) (s : St) (l : List (Int × Int)) : Prop := Own b w g s.r s.psl s.ksp s.usp l ∧ s.r.length = 16

theorem Has.ends {b : Nat} {w0 w w' : World} {g : Nat} {s s' : St} {l : List (Int × Int)} (h : Has b w g s l) (hu : Upd (fun k => b ≤ k) w0 w)
    (hf : ∀ sv, FB w g s.r s.psl s.ksp s.usp sv → FB w' g s'.r s'.psl s'.ksp s'.usp sv) (hg : Upd (fun k => k = g) w w') : Has b w' g s' l ∧ Upd (fun k => b ≤ k) w0 w' := by
  obtain ⟨⟨sv, h1, h2, h3, h4⟩, hl⟩ := h
  have h5 := hf sv h1
  exact ⟨⟨⟨sv, h5, own_upd h2 hg (fun k hk he => own_ne h2 h1.blk (by decide) (he ▸ hk)), h3, h4⟩, h5.len⟩, hu.trans hg (fun k _ he => he ▸ h3)⟩

theorem setStack_has {b : Nat} {w0 w : World} {g : Nat} {s : St} {l : List (Int × Int)} (h : Has b w g s l) (hu : Upd (fun k => b ≤ k) w0 w) (user : Bool) (x : Int) :
    Calls Try.prog 14 #[.pointer (some ⟨g, 0, none⟩), .bool user, .int .u32 x] w fun e w' => e = .returned (.tuple #[]) ∧ Has b w' g (s.setStack user x) l ∧ Upd (fun k => b ≤ k) w0 w' := by
  obtain ⟨sv, h1, h2, h3, h4⟩ := h.1.ex
  refine (setStack_any g user x w h1).mono ?_
  rintro e w' ⟨rfl, rfl⟩
  refine ⟨rfl, h.ends hu (fun sv hf => ?_) (Upd.set1 _ _ _ _)⟩
  unfold St.setStack
  by_cases c1 : user = usr s.psl
  · simp only [if_pos c1]; exact hf.setR 14 (by omega) x
  · simp only [if_neg c1]
    cases user
    · exact hf.setKsp x
    · exact hf.setUsp x
theorem stack_has {b : Nat} {w : World} {g : Nat} {s : St} {l : List (Int × Int)} (h : Has b w g s l) (user : Bool) (x : Int) (hx : s.stack user = x) :
    Calls Try.prog 16 #[.pointer (some ⟨g, 0, none⟩), .bool user] w fun e w' => e = .returned (.int .u32 x) ∧ w = w' := by
  obtain ⟨sv, h1, h2, h3, h4⟩ := h.1.ex
  rw [← hx]
  exact stack_any g user w h1
theorem put_has {b : Nat} {w0 w : World} {g : Nat} {s : St} {l : List (Int × Int)} (h : Has b w g s l) (hu : Upd (fun k => b ≤ k) w0 w) (x : Int) :
    Calls Try.prog 15 #[.pointer (some ⟨g, 0, none⟩), .int .u32 x] w fun e w' => e = .returned (.tuple #[]) ∧ Has b w' g (s.put x) l ∧ Upd (fun k => b ≤ k) w0 w' ∧ Upd (fun k => k = g) w w' := by
  obtain ⟨sv, h1, h2, h3, h4⟩ := h.1.ex
  refine (put_any g x w h1).mono ?_
  rintro e w' ⟨rfl, ha⟩
  have key : ∀ sv, FB w g s.r s.psl s.ksp s.usp sv → FB (putW w g (s.r.getD 14 0) s.psl s.ksp s.usp x) g (s.put x).r (s.put x).psl (s.put x).ksp (s.put x).usp sv := by
    intro sv hf
    unfold putW St.put
    by_cases c1 : usr x = usr s.psl
    · simp only [if_pos c1]; exact hf.setPsl x
    · simp only [if_neg c1]
      cases usr x
      · exact ((hf.setUsp _).setR 14 (by omega) _).setPsl x
      · exact ((hf.setKsp _).setR 14 (by omega) _).setPsl x
  have up : Upd (fun k => k = g) w (putW w g (s.r.getD 14 0) s.psl s.ksp s.usp x) := by
    unfold putW
    by_cases c1 : usr x = usr s.psl
    · simp only [if_pos c1]; exact Upd.set1 _ _ _ _
    · simp only [if_neg c1]
      cases usr x
      · exact ((Upd.set1 _ _ _ _).set2 _ _).set2 _ _
      · exact ((Upd.set1 _ _ _ _).set2 _ _).set2 _ _
  obtain ⟨q1, q2⟩ := h.ends (s' := s.put x) hu (fun sv hf => ⟨Blk.same (key sv hf).blk ha, (key sv hf).len⟩) (up.same ha)
  exact ⟨rfl, q1, q2, up.same ha⟩
theorem load_has {b : Nat} {w0 w : World} {g : Nat} {s : St} {l : List (Int × Int)} (h : Has b w g s l) (hu : Upd (fun k => b ≤ k) w0 w) (s' : St) (rest : List Value) (hr : s'.r.length = 16) :
    Calls Try.prog 8 #[.pointer (some ⟨g, 0, none⟩), .agg (stateCells s'.r s'.psl s'.ksp s'.usp rest).toArray] w fun e w' => e = .returned (.tuple #[]) ∧ Has b w' g s' [] ∧ Upd (fun k => b ≤ k) w0 w' := by
  obtain ⟨sv, h1, h2, h3, h4⟩ := h.1.ex
  refine (load_any g w h1 s'.r s'.psl s'.ksp s'.usp rest hr).mono ?_
  rintro e w' ⟨rfl, hf, hg⟩
  exact ⟨rfl, ⟨⟨_, hf, ⟨rfl, .inl ⟨rfl, rfl⟩⟩, h3, fun k hk => by cases hk⟩, hr⟩, hu.trans hg (fun k _ he => he ▸ h3)⟩
theorem save_has {b : Nat} {w0 w : World} {g : Nat} {s : St} {l : List (Int × Int)} (h : Has b w g s l) (hu : Upd (fun k => b ≤ k) w0 w) (s' : St) (rest : List Value) (hr : s'.r.length = 16) (hrest : Rest rest) :
    Calls Try.prog 11 #[.pointer (some ⟨g, 0, none⟩), .agg (stateCells s'.r s'.psl s'.ksp s'.usp rest).toArray] w fun e w' => e = .returned (.agg (stateCells s.r s.psl s.ksp s.usp rest).toArray) ∧ Has b w' g s l ∧ Upd (fun k => b ≤ k) w0 w' ∧ Upd (fun _ => False) w w' := by
  obtain ⟨sv, h1, h2, h3, h4⟩ := h.1.ex
  have hl : rest.length = 7 := by obtain ⟨_, _, _, _, _, _, _, rfl⟩ := hrest.ex; rfl
  have ho : ∀ v ∈ rest, v.oneCell' = true := by
    obtain ⟨_, _, _, _, _, _, _, rfl⟩ := hrest.ex
    simp [Value.oneCell']
  refine (save_any g w h1 s'.r s'.psl s'.ksp s'.usp rest hr hl ho).mono ?_
  rintro e w' ⟨rfl, hg⟩
  obtain ⟨hh, hv⟩ := h.ends (s' := s) hu (fun sv hf => ⟨hf.blk.upd hg id, hf.len⟩) (hg.mono fun _ _ => False.elim)
  exact ⟨rfl, hh, hv, hg⟩
end Go.Proofs.Ytoocbodkjldlcaa.Rg
