/- Rows of bytes; the memories' small functions. -/
import Derived.Test.YtomiodlipibloaaFA
namespace Go.Proofs.Ytomiodlipibloaa.F
set_option linter.unusedVariables false
set_option linter.unusedSimpArgs false
open Go.RowKit

def Byt (l : List Int) : Prop := ∀ x ∈ l, 0 ≤ x ∧ x < 256
/-- The number that bytes are, the lowest first. -/
def num : List Int → Int
  | [] => 0
  | c :: l => c + 256 * num l
theorem num_bound : ∀ {l : List Int}, Byt l → 0 ≤ num l ∧ num l < 256 ^ l.length
  | [], _ => by simp [num]
  | c :: l, h => by
    have h1 := num_bound (l := l) (fun x hx => h x (by simp [hx]))
    have h2 := h c (by simp)
    simp only [num, List.length_cons, Int.pow_succ]
    omega
theorem num_snoc : ∀ (l : List Int) (c : Int), num (l ++ [c]) = num l + c * 256 ^ l.length
  | [], c => by simp [num]
  | d :: l, c => by
    simp only [List.cons_append, num, num_snoc l c, List.length_cons, Int.pow_succ]
    rw [Int.mul_add, ← Int.add_assoc]
    congr 1
    rw [Int.mul_comm 256, Int.mul_assoc]
theorem Byt.take {l : List Int} (h : Byt l) (n : Nat) : Byt (l.take n) := fun x hx => h x (List.mem_of_mem_take hx)
theorem Byt.drop {l : List Int} (h : Byt l) (n : Nat) : Byt (l.drop n) := fun x hx => h x (List.mem_of_mem_drop hx)
theorem Byt.get {l : List Int} (h : Byt l) {i : Nat} (hi : i < l.length) : 0 ≤ l.getD i 0 ∧ l.getD i 0 < 256 := h _ (by simp [List.getD, hi])
/-- Bytes written over others. -/
def wrt (l : List Int) (a : Nat) : List Int → List Int
  | [] => l
  | b :: bs => wrt (l.set a b) (a + 1) bs
theorem wrt_len : ∀ (bs l : List Int) (a : Nat), (wrt l a bs).length = l.length
  | [], _, _ => rfl
  | b :: bs, l, a => by rw [wrt, wrt_len bs, List.length_set]
theorem wrt_snoc : ∀ (bs l : List Int) (a : Nat) (c : Int), wrt l a (bs ++ [c]) = (wrt l a bs).set (a + bs.length) c
  | [], _, _, _ => rfl
  | b :: bs, l, a, c => by rw [List.cons_append, wrt, wrt, wrt_snoc bs, List.length_cons, show a + 1 + bs.length = a + (bs.length + 1) by omega]
theorem wrt_get : ∀ (bs l : List Int) (a i : Nat), a + bs.length ≤ l.length → (wrt l a bs).getD i 0 = if a ≤ i ∧ i < a + bs.length then bs.getD (i - a) 0 else l.getD i 0
  | [], l, a, i, _ => by rw [if_neg (by simp), wrt]
  | b :: bs, l, a, i, h => by
    simp only [List.length_cons] at h
    rw [wrt, wrt_get bs _ _ _ (by rw [List.length_set]; omega)]
    by_cases h1 : a + 1 ≤ i ∧ i < a + 1 + bs.length
    · rw [if_pos h1, if_pos (by simp; omega), show i - a = i - (a + 1) + 1 by omega, List.getD_cons_succ]
    · rw [if_neg h1]
      by_cases h2 : i = a
      · subst h2
        rw [if_pos (by simp), Nat.sub_self, List.getD_cons_zero]
        simp [List.getD, List.getElem?_set, show i < l.length by omega]
      · rw [if_neg (by simp; omega)]
        simp [List.getD, List.getElem?_set, show ¬ a = i by omega]
theorem Byt.set {l : List Int} (h : Byt l) (a : Nat) {c : Int} (h0 : 0 ≤ c) (h1 : c < 256) : Byt (l.set a c) := fun x hx => by
  rcases List.mem_or_eq_of_mem_set hx with hx | rfl
  · exact h x hx
  · exact ⟨h0, h1⟩
theorem Byt.wrt : ∀ {bs l : List Int} (a : Nat), Byt l → Byt bs → Byt (wrt l a bs)
  | [], _, _, h, _ => h
  | b :: bs, l, a, h, hb => Byt.wrt (a + 1) (h.set a (hb b (by simp)).1 (hb b (by simp)).2) (fun x hx => hb x (by simp [hx]))
/-- A number's lowest bytes. -/
def putB (x : Int) (n : Nat) : List Int := [x % 256, x / 256 % 256, x / 65536 % 256, x / 16777216 % 256].take n
theorem putB_len (v : Int) (z : Nat) (hz : z ≤ 4) : (putB v z).length = z := by simp [putB]; omega
theorem putB_byt (x : Int) (n : Nat) : Byt (putB x n) := fun y hy => by
  have := List.mem_of_mem_take hy
  simp at this
  omega

def bc (l : List Int) : List Value := l.map (Value.int .u8)
theorem bc_len (l : List Int) : (bc l).length = l.length := by simp [bc]
theorem bc_get (l : List Int) (i : Nat) (h : i < l.length) : (bc l).toArray[i]? = some (.int .u8 (l.getD i 0)) := by simp [bc, List.getD, h]
theorem bc_set (l : List Int) (i : Nat) (c : Int) : (bc l).toArray.setIfInBounds i (.int .u8 c) = (bc (l.set i c)).toArray := by simp [bc, List.map_set]

/-- A memory: its block, its bytes' block, its bytes. -/
structure Ram (T : TypeId) (w : World) (p g : Nat) (l : List Int) : Prop where
  head : Blk w p #[.slice (some ⟨g, 0, none⟩) l.length l.length] T
  row : Blk w g (bc l).toArray 5
  byt : Byt l
  len : l.length ≤ 16777216
theorem Ram.cell {T : TypeId} {w : World} {p g : Nat} {l : List Int} (h : Ram T w p g l) : w.cell? ⟨p, 0, none⟩ = some (.slice (some ⟨g, 0, none⟩) l.length l.length) := h.head.cell 0
theorem Ram.get {T : TypeId} {w : World} {p g : Nat} {l : List Int} (h : Ram T w p g l) {i : Nat} (hi : i < l.length) : w.cell? ⟨g, i, none⟩ = some (.int .u8 (l.getD i 0)) := by rw [h.row.cell, bc_get l i hi]
theorem Ram.upd {T : TypeId} {w w' : World} {p g : Nat} {l : List Int} (h : Ram T w p g l) {S : Nat → Prop} (hu : Upd S w w') (hp : ¬ S p) (hg : ¬ S g) : Ram T w' p g l := ⟨h.head.upd hu hp, h.row.upd hu hg, h.byt, h.len⟩
theorem Ram.set {T : TypeId} {w : World} {p g : Nat} {l : List Int} (h : Ram T w p g l) (hpg : p ≠ g) (i : Nat) {c : Int} (h0 : 0 ≤ c) (h1 : c < 256) : Ram T (w.setCell ⟨g, i, none⟩ (.int .u8 c)) p g (l.set i c) :=
  ⟨by rw [List.length_set]; exact h.head.far hpg _, by rw [← bc_set]; exact h.row.set i _, h.byt.set i h0 h1, by rw [List.length_set]; exact h.len⟩

def thr (n at_ k : Int) : Bool := decide (0 ≤ k ∧ k ≤ n ∧ at_ ≤ n - k)
section
variable (p : Nat) (x at_ k : Int) (L c : Nat) (a : Option Addr) (w : World)
theorem in_any (hc : w.cell? ⟨p, 0, none⟩ = some (.slice a L c)) (hL : L ≤ 16777216) (h0 : 0 ≤ at_) (h1 : at_ < 4294967296) :
    Calls Try.prog 54 #[.pointer (some ⟨p, 0, none⟩), .int .u32 at_, .int .i64 k] w fun e w' => e = .returned (.bool (thr L at_ k)) ∧ w' = w := by
  have hL' : (L : Int) ≤ 16777216 := by omega
  unfold thr
  by_cases hk : 0 ≤ k
  · by_cases hkl : k ≤ L
    · go_enter Try.func54, Try.ntmps54
      go_wp2
      go_ret
      exact ⟨rb (by rw [Bool.eq_iff_iff]; simp; omega), rfl⟩
    · have hkl' : (L : Int) < k := by omega
      rw [decide_eq_false (by omega)]
      have hkl2 : decide (k ≤ (L : Int)) = false := by simpa using hkl'
      clear hkl
      go_enter Try.func54, Try.ntmps54
      go_wp2
      go_ret
      exact ⟨rfl, rfl⟩
  · rw [decide_eq_false (by omega)]
    go_enter Try.func54, Try.ntmps54
    go_wp2
    go_ret
    exact ⟨rfl, rfl⟩
theorem there_any (hc : w.cell? ⟨p, 0, none⟩ = some (.slice a L c)) (hL : L ≤ 16777216) (h0 : 0 ≤ at_) (h1 : at_ < 4294967296) :
    Calls Try.prog 55 #[.pointer (some ⟨p, 0, none⟩), .int .u32 at_, .int .i64 k] w fun e w' => e = .returned (.bool (thr L at_ k)) ∧ w' = w := by
  have hL' : (L : Int) ≤ 16777216 := by omega
  unfold thr
  by_cases hk : 0 ≤ k
  · by_cases hkl : k ≤ L
    · go_enter Try.func55, Try.ntmps55
      go_wp2
      go_ret
      exact ⟨rb (by rw [Bool.eq_iff_iff]; simp; omega), rfl⟩
    · have hkl' : (L : Int) < k := by omega
      rw [decide_eq_false (by omega)]
      have hkl2 : decide (k ≤ (L : Int)) = false := by simpa using hkl'
      clear hkl
      go_enter Try.func55, Try.ntmps55
      go_wp2
      go_ret
      exact ⟨rfl, rfl⟩
  · rw [decide_eq_false (by omega)]
    go_enter Try.func55, Try.ntmps55
    go_wp2
    go_ret
    exact ⟨rfl, rfl⟩
theorem rsize_any (hc : w.cell? ⟨p, 0, none⟩ = some (.slice a L c)) : Calls Try.prog 82 #[.pointer (some ⟨p, 0, none⟩)] w fun e w' => e = .returned (.int .i64 L) ∧ w' = w := by
  go_enter Try.func82, Try.ntmps82
  go_wp2
  go_ret
  exact ⟨rfl, rfl⟩
end
end Go.Proofs.Ytomiodlipibloaa.F
