/- Specifiers: what is in a row of bytes; a specifier that can't be; one with a number. -/
import Derived.Test.YtoocbodkjldlcaaSpB
namespace Go.Proofs.Ytoocbodkjldlcaa.Sp
set_option linter.unusedVariables false
set_option linter.unusedSimpArgs false
open Go.RowKit

theorem index_any (ao : Option Addr) (l : List Int) (c : Nat) (v : Int) (w : World) (h : RdB w ao l) (hl : l.length ≤ 100) :
    Calls Try.prog 34 #[.slice ao l.length c, .int .u8 v] w fun e w' => (∃ i : Int, e = .returned (.int .i64 i) ∧ (decide (0 ≤ i) = l.contains v)) ∧ w' = w := by
  go_enter Try.func34, Try.ntmps34
  go_wp2
  go_loop [8] (fun i => ∃ k : Nat, k ≤ l.length ∧ i = .int .i64 k ∧ Hid (∀ j, j < k → l.getD j 0 ≠ v)) (fun i => l.length - (intOf i).toNat)
  case atStart => exact ⟨0, Nat.zero_le _, rfl, Lib.hid (fun j hj => by omega)⟩
  case round =>
    obtain ⟨k, hk, rfl, HK⟩ := hrel
    by_cases hlt : k < l.length
    · obtain ⟨b, o, rfl, hbl, hc⟩ := h k hlt
      have hx : l.getD k 0 = l[k] := by simp [List.getD, hlt]
      have HX := Lib.hid hx
      clear h hx
      generalize hcv : l.getD k 0 = cv at *
      have HC := Lib.hid hcv
      clear hcv
      by_cases he : v = cv
      · have he' : (v == cv) = true := by simp [he]
        have HE := Lib.hid he
        clear he
        go_wp2
        go_ret
        refine ⟨⟨_, rfl, ?_⟩, rfl⟩
        rw [HE.out, HX.out]
        simp
      · have he' : (v == cv) = false := by simp [he]
        have HE := Lib.hid he
        clear he
        go_wp2
        refine ⟨⟨k + 1, hlt, by go_num, Lib.hid (fun j hj => ?_)⟩, by simp [intOf]; omega⟩
        by_cases hjk : j = k
        · subst hjk; rw [HC.out]; exact fun h => HE.out h.symm
        · exact HK.out j (by omega)
    · obtain rfl : k = l.length := by omega
      go_wp2
      go_ret
      refine ⟨⟨_, rfl, ?_⟩, rfl⟩
      refine ⟨fun h => by omega, fun hm => ?_⟩
      exfalso
      obtain ⟨j, hj, rfl⟩ := List.getElem_of_mem hm
      exact HK.out j hj (by simp [List.getD, hj])
theorem contains_any (ao : Option Addr) (l : List Int) (c : Nat) (v : Int) (w : World) (h : RdB w ao l) (hl : l.length ≤ 100) :
    Calls Try.prog 28 #[.slice ao l.length c, .int .u8 v] w fun e w' => e = .returned (.bool (l.contains v)) ∧ w' = w := by
  have H := Lib.hid h
  clear h
  go_enter Try.func28, Try.ntmps28
  go_wp2_with (go_at_call 34; refine (index_any _ _ _ _ _ H.out hl).mono ?_; rintro e w' ⟨⟨i, rfl, hi⟩, rfl⟩; have HI := Lib.hid hi; clear hi)
  go_ret
  exact ⟨by rw [← HI.out]; rfl, rfl⟩

/-- A specifier. -/
structure Spc where
  k : Int
  r : Int
  i : Int
  v : Int
  n : Int
  deriving DecidableEq
def Spc.cells (s : Spc) : Array Value := #[.int .i64 s.k, .int .i64 s.r, .int .i64 s.i, .int .u32 s.v, .int .i64 s.n]
def badS (n : Int) : Spc := ⟨14, 0, -1, 0, n⟩
def zeroS : Spc := ⟨0, 0, 0, 0, 0⟩
/-- What is answered: the specifier, and the number of the error. -/
def Ans (w : World) (p : Spc × Int) (e : Ending) (w' : World) : Prop := e = .returned (.tuple #[.agg p.1.cells, .int .i64 p.2]) ∧ Upd (fun _ => False) w w'

theorem bad_any (n : Int) (w : World) : Calls Try.prog 36 #[.int .i64 n] w (Ans w (badS n, 0)) := by
  go_enter Try.func36, Try.ntmps36
  go_wp2
  refine bodyPost_ret (v := .tuple #[.agg (badS n).cells, .int .i64 0]) (by simp [results, Try.results36, go_sem, badS, Spc.cells]) rfl ⟨rfl, ?_⟩
  exact (Upd.refl _ w).alloc _

/-- A specifier with a number of 'n' bytes behind 'a'. -/
def valueF (k r : Int) (a n : Nat) (l : List Int) : Spc × Int :=
  if l.length < a + n then (zeroS, 3) else (⟨k, r, -1, ext (num ((l.drop a).take n)) n, a + n⟩, 0)
theorem RdB.cut {w : World} {ao : Option Addr} {l : List Int} (h : RdB w ao l) (a n : Nat) (han : a + n ≤ l.length) : RdB w (ao.map (·.add a)) ((l.drop a).take n) := fun i hi => by
  have hin : i < n := by simp at hi; omega
  obtain ⟨b, o, rfl, hb, hc⟩ := h (a + i) (by omega)
  refine ⟨b, o + a, ?_, hb, ?_⟩
  · simp only [Option.map_some]; congr 1; unfold Addr.add; split <;> simp_all
  · rw [Nat.add_assoc, hc]
    simp [List.getD, List.getElem?_take_of_lt hin]

theorem value_no (k r : Int) (a n : Nat) (ao : Option Addr) (l : List Int) (c : Nat) (w : World) (ha : a ≤ 1) (hn : n ≤ 4) (hl : l.length < a + n) :
    Calls Try.prog 29 #[.int .i64 k, .int .i64 r, .int .i64 a, .int .i64 n, .slice ao l.length c] w (Ans w (zeroS, 3)) := by
  go_enter Try.func29, Try.ntmps29
  go_wp2
  refine bodyPost_ret (v := .tuple #[.agg zeroS.cells, .int .i64 3]) (by simp [results, Try.results29, go_sem, zeroS, Spc.cells]) rfl ⟨rfl, ?_⟩
  exact (Upd.refl _ w).alloc _
theorem value_yes (k r : Int) (a n : Nat) (ao : Option Addr) (l : List Int) (c : Nat) (w : World) (h : RdB w ao l) (hb : Byt l) (hc : l.length ≤ c) (ha : a ≤ 1) (hn : n ≤ 4) (hn0 : 0 < n) (hl : a + n ≤ l.length) :
    Calls Try.prog 29 #[.int .i64 k, .int .i64 r, .int .i64 a, .int .i64 n, .slice ao l.length c] w (Ans w (⟨k, r, -1, ext (num ((l.drop a).take n)) n, a + n⟩, 0)) := by
  have hln : ((l.drop a).take n).length = n := by simp; omega
  have hbb : Byt ((l.drop a).take n) := fun x hx => hb x (List.mem_of_mem_drop (List.mem_of_mem_take hx))
  have hnb := num_bound hbb
  rw [hln] at hnb
  have hn2 : num ((l.drop a).take n) < 4294967296 := by
    rcases (by omega : n = 1 ∨ n = 2 ∨ n = 3 ∨ n = 4) with rfl | rfl | rfl | rfl <;> simp at hnb ⊢ <;> omega
  have hn3 := hnb.1
  have hca : a + n ≤ c := by omega
  have hr : RdB w (if a = 0 then ao else ao.map (fun x => ⟨x.block, x.off + 1, none⟩)) ((l.drop a).take n) := by
    intro i hi
    have hin : i < n := by omega
    obtain ⟨b, o, rfl, hb, hc⟩ := h (a + i) (by omega)
    refine ⟨b, o + a, ?_, hb, ?_⟩
    · rcases (by omega : a = 0 ∨ a = 1) with rfl | rfl <;> rfl
    · rw [Nat.add_assoc, hc]
      simp [List.getD, List.getElem?_take_of_lt hin]
  have KN : ∀ cc, Hid (∀ W, Upd (fun _ => False) w W → Calls Try.prog 35 #[.slice (if a = 0 then ao else ao.map (fun x => ⟨x.block, x.off + 1, none⟩)) n cc] W fun e w' => e = .returned (.int .u32 (num ((l.drop a).take n))) ∧ w' = W) := by
    intro cc W hu
    have := number_any _ _ cc W (hr.upd hu) hbb (by omega)
    rwa [hln] at this
  have KE : Hid (∀ W, Calls Try.prog 25 #[.int .u32 (num ((l.drop a).take n)), .int .i64 n] W fun e w' => e = .returned (.int .u32 (ext (num ((l.drop a).take n)) n)) ∧ w' = W) := fun W => ext_any _ _ W hn3 hn2
  clear hr hbb hln hnb h hb
  generalize ext (num ((l.drop a).take n)) n = res at *
  generalize num ((l.drop a).take n) = sub at *
  rcases (by omega : a = 0 ∨ a = 1) with rfl | rfl
  all_goals
    go_enter Try.func29, Try.ntmps29
    go_wp2_with (first
      | (go_at_call 35; refine ((KN _).out _ ((Upd.refl _ w).alloc _)).mono ?_; rintro e w' ⟨rfl, rfl⟩)
      | (go_at_call 25; refine (KE.out _).mono ?_; rintro e w' ⟨rfl, rfl⟩))
  · refine bodyPost_ret (v := .tuple #[.agg (Spc.mk k r (-1) res (0 + n)).cells, .int .i64 0]) (by simp [results, Try.results29, go_sem, Spc.cells]) rfl ⟨rfl, (Upd.refl _ w).alloc _⟩
  · refine bodyPost_ret (v := .tuple #[.agg (Spc.mk k r (-1) res (1 + n)).cells, .int .i64 0]) (by simp [results, Try.results29, go_sem, Spc.cells]) rfl ⟨rfl, (Upd.refl _ w).alloc _⟩
theorem value_any (k r : Int) (a n : Nat) (ao : Option Addr) (l : List Int) (c : Nat) (w : World) (h : RdB w ao l) (hb : Byt l) (hc : l.length ≤ c) (ha : a ≤ 1) (hn : n ≤ 4) (hn0 : 0 < n) :
    Calls Try.prog 29 #[.int .i64 k, .int .i64 r, .int .i64 a, .int .i64 n, .slice ao l.length c] w (Ans w (valueF k r a n l)) := by
  unfold valueF
  split
  · exact value_no k r a n ao l c w ha hn (by assumption)
  · exact value_yes k r a n ao l c w h hb hc ha hn hn0 (by omega)
end Go.Proofs.Ytoocbodkjldlcaa.Sp
