/- Byte rows that a call makes; put. -/
import Derived.Test.YtoocbodkjldlcaaSpG
import Derived.Laws.AppendOwnNone
namespace Go.Proofs.Ytoocbodkjldlcaa
set_option linter.unusedVariables false
set_option linter.unusedSimpArgs false
open Go.RowKit
section
variable {P : Program} {ops : Array Oper} {rest : List Oper} {o : Oper} {a : Act} {Q : Exit → Act → World → Prop}
def byteCells (l : List Int) : List Value := l.map (Value.int .u8)
/-- A row of bytes of a call's own. -/
def OwnB (w : World) (b : Nat) (v : Value) (l : List Int) : Prop := w.ownsRow b 5 1 v l.length (byteCells l)
theorem OwnB.slice {w : World} {b : Nat} {v : Value} {l : List Int} (h : OwnB w b v l) : ∃ ao c, v = .slice ao l.length c ∧ l.length ≤ c ∧ Sp.RdB w ao l ∧ (∀ k, OB v k → b ≤ k ∧ k < w.heap.size) := by
  obtain ⟨h1, h | ⟨g, cap, cur, rfl, hb, hg, hn, hc, hs, ht⟩⟩ := h
  · obtain ⟨rfl, h0⟩ := h
    have : l = [] := List.length_eq_zero_iff.1 h0
    subst this
    exact ⟨none, 0, rfl, Nat.le_refl _, fun i hi => by simp at hi, fun k hk => by cases hk⟩
  · have hlt : g < w.heap.size := (Array.getElem?_eq_some_iff.1 hg).1
    refine ⟨_, cap, rfl, hn, fun i hi => ⟨g, 0, rfl, hlt, ?_⟩, fun k hk => by cases hk; exact ⟨hb, hlt⟩⟩
    have hi' : i < cur.size := by omega
    have h3 : cur.toList[i]? = (byteCells l)[i]? := by rw [← ht, List.getElem?_take_of_lt (by omega)]
    simp only [World.cell?, hg]
    simp only [Nat.zero_add]
    rw [← Array.getElem?_toList, h3]
    simp [byteCells, List.getD, hi]
theorem OwnB.upd {w w' : World} {b : Nat} {v : Value} {l : List Int} (h : OwnB w b v l) {S : Nat → Prop} (hu : Upd S w w') (hs : ∀ k, OB v k → ¬ S k) : OwnB w' b v l := own_upd h hu hs
theorem OwnB.drew {w : World} {b : Nat} {v : Value} {l : List Int} (h : OwnB w b v l) : OwnB w.drew b v l := h
theorem info5 : (Try.prog.info? 5).map (fun i => (i.zero, i.size, i.bytes)) = some (some (.int .u8 0), 1, 1) := by kernel_rfl
theorem wpList_appB {w : World} (hgd : o.guard = none) (s x : Operand)
    (ho : o.op = .call { callee := .builtin .append, args := #[s, x], argTypes := #[46, 46] })
    (v : Value) (b : Nat) (l ys : List Int) (sao : Option Addr) (c : Nat) (hs : a.eval s = v) (hx : a.eval x = .slice sao ys.length c) (hn : sao = none → c = 0)
    (hy : Sp.RdB w sao ys) (HO : OwnB w b v l) (hb : b ≤ w.heap.size) (hl : l.length + ys.length ≤ 100000)
    (h : ∀ v' w1, OwnB w1 b v' (l ++ ys) → Upd (OB v) w w1 → (∀ k, OB v' k → OB v k ∨ w.heap.size ≤ k) → wpList Try.prog ops Q rest (a.put o.dst v') w1) :
    wpList Try.prog ops Q (o :: rest) a w := by
  obtain ⟨i0, hi, hzz⟩ := Option.map_eq_some_iff.1 info5
  simp only [Prod.mk.injEq] at hzz
  obtain ⟨hz0, hz1, hz2⟩ := hzz
  cases sao with
  | none =>
    have hy0 : ys = [] := by
      rcases ys with _ | ⟨y, t⟩
      · rfl
      · obtain ⟨_, _, e, _⟩ := hy 0 (by simp)
        cases e
    subst hy0
    rw [hn rfl] at hx
    refine wpList_append_own_none hgd s x 46 ho b 5 i0 1 Try.underlying46 hi v l.length _ hs HO hx (h v w ?_ (Upd.refl _ w) (fun k hk => .inl hk))
    rw [List.append_nil]; exact HO
  | some ad =>
    refine wpList_append_own_at w hgd s x 46 ho b 5 i0 (.int .u8 0) 1 1 Try.underlying46 hi hz0 hz1 hz2 rfl (by decide) v l.length _ hs HO ad ys.length c (byteCells ys) hx (by simp [byteCells]) ?_ ?_
      (by simp only [maxLen]; omega) (by omega) hb ?_
    · intro j u hj
      have hjl : j < ys.length := by
        rcases Nat.lt_or_ge j ys.length with h' | h'
        · exact h'
        · simp [byteCells, h'] at hj
      obtain ⟨b', o', e, _, hc⟩ := hy j hjl
      cases e
      simp only [Addr.add, Option.isSome_none]
      simp [byteCells, hjl] at hj
      rw [← hj]
      have hc' : w.cell? ⟨b', o' + j, none⟩ = some (Value.int IntKind.u8 ys[j]) := by simpa [List.getD, hjl] using hc
      split
      · rename_i h0
        subst h0
        exact hc'
      · exact hc'
    · intro u hu
      simp only [byteCells, List.mem_map] at hu
      obtain ⟨_, _, rfl⟩ := hu
      rfl
    · intro v' w1 hown hg hnil hat
      refine h v' w1 ?_ ((Upd.refl (OB v) w).grown hg (fun k hk => .inl hk)) ?_
      · unfold OwnB
        rw [List.length_append]
        simpa [byteCells] using hown
      · intro k hk
        rcases hat with hat | hat
        · left; rw [OB, ← hat]; exact hk
        · right; rw [OB, hat] at hk; cases hk; exact Nat.le_refl _
end

namespace Sp
set_option linter.unusedVariables false
set_option linter.unusedSimpArgs false
theorem rd1 (w : World) (y : Int) : RdB (w.alloc (.cells #[.int .u8 y] 5)) (some ⟨w.heap.size, 0, none⟩) [y] := by
  intro i hi
  simp at hi
  subst hi
  refine ⟨w.heap.size, 0, rfl, by rw [World.size_alloc]; omega, ?_⟩
  exact (Blk.new w _ 5).cell 0
def putB (x : Int) (n : Nat) : List Int := [x % 256, x / 256 % 256, x / 65536 % 256, x / 16777216 % 256].take n
theorem put_any (x : Int) (n : Nat) (w : World) (h0 : 0 ≤ x) (h1 : x < 4294967296) (hn : n ≤ 4) :
    Calls Try.prog 26 #[.int .u32 x, .int .i64 n] w fun e w' => ∃ v, e = .returned v ∧ OwnB w' w.heap.size v (putB x n) ∧ Upd (fun _ => False) w w' := by
  go_enter Try.func26, Try.ntmps26
  go_wp2
  go_loopw [5, 8] (fun s5 s8 W => ∃ k : Nat, k ≤ n ∧ s8 = .int .i64 k ∧ Hid (OwnB W w.heap.size s5 (putB x k)) ∧ Hid (Upd (fun _ => False) w W)) (fun _ s8 _ => n - (intOf s8).toNat)
  case atStart => exact ⟨0, Nat.zero_le _, rfl, Lib.hid ⟨rfl, .inl ⟨rfl, rfl⟩⟩, Lib.hid (Upd.refl _ w)⟩
  case round =>
    obtain ⟨k, hk, rfl, HO, HU⟩ := hrel
    by_cases hlt : k < n
    · have hb : w.heap.size ≤ wr.heap.size := HU.out.size
      have hsz : (putB x k).length ≤ 4 := by simp [putB]; omega
      obtain ⟨y, hy⟩ : ∃ y, y = [x % 256, x / 256 % 256, x / 65536 % 256, x / 16777216 % 256].getD k 0 := ⟨_, rfl⟩
      have hq : putB x (k + 1) = putB x k ++ [y] := by
        rcases (by omega : k = 0 ∨ k = 1 ∨ k = 2 ∨ k = 3) with rfl | rfl | rfl | rfl <;> subst hy <;> rfl
      have HQ := Lib.hid hq
      have HS := Lib.hid hsz
      clear hq hsz
      rcases (by omega : k = 0 ∨ k = 1 ∨ k = 2 ∨ k = 3) with rfl | rfl | rfl | rfl
      all_goals
        simp at hy
        try rw [show x / 16777216 % 256 = x / 16777216 by omega] at hy
        go_wp2_with (at_builtin; go_must (refine wpList_appB rfl (.tmp 11) (.tmp 17) rfl _ w.heap.size (putB x _) [y] (some ⟨wr.heap.size, 0, none⟩) 1 rfl (by rw [hy]; rfl) (fun h => by cases h) ?_ (OwnB.upd HO.out ((Upd.refl (fun _ => False) wr).alloc _) (fun _ _ h => h)) ?_ ?_ ?_))
        · rw [← hy]; exact rd1 wr y
        · rw [World.size_alloc]; omega
        · have := HS.out
          simp only [List.length_cons, List.length_nil]
          omega
        · intro v' w1 own1 up1 hv1
          have HO1 := Lib.hid own1
          have HU1 : Hid (Upd (fun _ => False) w w1) := Lib.hid ((HU.out.alloc _).trans up1 (fun k hk h => by
            obtain ⟨_, _, _, _, _, hh⟩ := HO.out.slice
            have := (hh k h).1
            omega))
          rw [← hy, ← HQ.out] at HO1
          go_wp2
          exact ⟨⟨_, hlt, rfl, HO1, HU1⟩, by simp [intOf]; omega⟩
    · obtain rfl : k = n := by omega
      go_wp2
      exact bodyPost_ret (v := u5) (by simp [results, Try.results26, go_sem]) rfl ⟨_, rfl, HO.out, HU.out⟩
end Sp
end Go.Proofs.Ytoocbodkjldlcaa
