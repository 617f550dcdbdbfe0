/- Small lemmas on the model's worlds: which blocks a call may have changed, and what blocks of known cells read as. -/
import Derived.Test.YtomiodlipibloaaChecked
import Derived.WalkKit
import Derived.StillTailTactics
import Derived.Deep.QuietTactic
import Derived.BigQuiet
import Derived.BigRegion
import Derived.OneCell
import Derived.KernelRfl
import Derived.Lib.Hide
import Derived.Maps.AppendAt
import Derived.Deep.RegionWith
import Derived.Deep.RegionLaw
import Derived.WalkSmall
import Derived.Laws.IdiomCopy
import Derived.Deep.DeepMust
import Derived.Deep.AppendLies
import Derived.Deep.RegionHeld3
import Derived.Deep.Cut
import Derived.Laws.AppendOwnNone
import Derived.Laws.BitsAllLaws
import Derived.Lib.SlBytesConst
namespace Go.Proofs.Ytomiodlipibloaa
set_option linter.unusedVariables false
set_option linter.unusedSimpArgs false
open Go.RowKit

/-- 'w'' differs from 'w' in blocks of 'S' alone, and by new blocks. -/
structure Upd (S : Nat → Prop) (w w' : World) : Prop where
  os : w'.os = w.os
  tape : w'.tape = w.tape
  output : w'.output = w.output
  size : w.heap.size ≤ w'.heap.size
  block : ∀ k, k < w.heap.size → ¬ S k → w'.heap[k]? = w.heap[k]?

def Blk (w : World) (g : Nat) (cs : Array Value) (T : TypeId) : Prop := w.heap[g]? = some (.cells cs T (0, 0))

theorem Upd.refl (S : Nat → Prop) (w : World) : Upd S w w := ⟨rfl, rfl, rfl, Nat.le_refl _, fun _ _ _ => rfl⟩
theorem Upd.mono {S S' : Nat → Prop} {w w' : World} (h : Upd S w w') (hs : ∀ k, k < w.heap.size → S k → S' k) : Upd S' w w' :=
  ⟨h.os, h.tape, h.output, h.size, fun k hk hn => h.block k hk fun hS => hn (hs k hk hS)⟩
theorem Upd.trans {S S' : Nat → Prop} {w w1 w2 : World} (h : Upd S w w1) (k : Upd S' w1 w2) (hs : ∀ i, i < w.heap.size → S' i → S i) : Upd S w w2 :=
  ⟨k.os.trans h.os, k.tape.trans h.tape, k.output.trans h.output, Nat.le_trans h.size k.size,
   fun i hi hn => (k.block i (Nat.lt_of_lt_of_le hi h.size) fun hS => hn (hs i hi hS)).trans (h.block i hi hn)⟩
theorem Upd.then {S : Nat → Prop} {w w1 w2 : World} (h : Upd S w w1) (k : Upd S w1 w2) : Upd S w w2 := h.trans k fun _ _ h => h
theorem Upd.drew {S : Nat → Prop} {w w' : World} (h : Upd S w w') : Upd S w w'.drew := ⟨h.os, h.tape, h.output, h.size, h.block⟩
theorem Upd.drewN {S : Nat → Prop} {w w' : World} (h : Upd S w w') (n : Nat) : Upd S w (w'.drewN n) := ⟨h.os, h.tape, h.output, h.size, h.block⟩
theorem Upd.alloc {S : Nat → Prop} {w w' : World} (h : Upd S w w') (o : Obj) : Upd S w (w'.alloc o) :=
  h.trans (S' := S) ⟨rfl, rfl, rfl, by simp, fun k hk _ => Below.heap_alloc _ _ _ hk⟩ fun _ _ h => h
theorem Upd.setCell {S : Nat → Prop} {w w' : World} (h : Upd S w w') {p : Addr} (hp : S p.block ∨ w.heap.size ≤ p.block) (u : Value) : Upd S w (w'.setCell p u) :=
  ⟨h.os, h.tape, h.output, by simpa using h.size, fun k hk hn => by
    rw [Below.heap_setCell _ _ _ _ (by rintro rfl; rcases hp with hp | hp; exact hn hp; omega)]; exact h.block k hk hn⟩
theorem Upd.grown {S : Nat → Prop} {w w' w2 : World} {row : Option Nat} (h : Upd S w w') (hg : w'.grownBy w2 row) (hr : ∀ k, row = some k → S k ∨ w.heap.size ≤ k) : Upd S w w2 :=
  ⟨hg.os.trans h.os, hg.tape.trans h.tape, hg.output.trans h.output, Nat.le_trans h.size hg.size, fun k hk hn =>
    (hg.block k (Nat.lt_of_lt_of_le hk h.size) fun e => by rcases hr k e.symm with h | h; exact hn h; omega).trans (h.block k hk hn)⟩
theorem Upd.below {w w' : World} (h : Upd (fun _ => False) w w') : Below w.heap.size w w' := ⟨h.os, h.tape, h.output, h.size, fun k hk => h.block k hk id⟩
theorem Upd.of_below {w w' : World} (h : Below w.heap.size w w') (S : Nat → Prop) : Upd S w w' := ⟨h.os, h.tape, h.output, h.size, fun k hk _ => h.block k hk⟩

/-- The same but for the count of draws. -/
structure Same (w' w : World) : Prop where
  heap : w'.heap = w.heap
  os : w'.os = w.os
  tape : w'.tape = w.tape
  output : w'.output = w.output
theorem Upd.same {S : Nat → Prop} {w0 w w' : World} (h : Upd S w0 w) (k : Same w' w) : Upd S w0 w' :=
  ⟨k.os.trans h.os, k.tape.trans h.tape, k.output.trans h.output, by rw [k.heap]; exact h.size, fun i hi hn => by rw [k.heap]; exact h.block i hi hn⟩
theorem Blk.same {w w' : World} {g : Nat} {cs : Array Value} {T : TypeId} (h : Blk w g cs T) (k : Same w' w) : Blk w' g cs T := by unfold Blk; rw [k.heap]; exact h
theorem Upd.set1 (w : World) (g i : Nat) (u : Value) : Upd (fun k => k = g) w (w.setCell ⟨g, i, none⟩ u) := (Upd.refl (fun k => k = g) w).setCell (p := ⟨g, i, none⟩) (.inl rfl) u
theorem Upd.set2 {w w' : World} {g : Nat} (h : Upd (fun k => k = g) w w') (i : Nat) (u : Value) : Upd (fun k => k = g) w (w'.setCell ⟨g, i, none⟩ u) := h.setCell (p := ⟨g, i, none⟩) (.inl rfl) u

theorem Blk.lt {w : World} {g : Nat} {cs : Array Value} {T : TypeId} (h : Blk w g cs T) : g < w.heap.size := (Array.getElem?_eq_some_iff.1 h).1
theorem Blk.cell {w : World} {g : Nat} {cs : Array Value} {T : TypeId} (h : Blk w g cs T) (i : Nat) : w.cell? ⟨g, i, none⟩ = cs[i]? := by simp [World.cell?, show w.heap[g]? = _ from h]
theorem Blk.frozen {w : World} {g : Nat} {cs : Array Value} {T : TypeId} (h : Blk w g cs T) (i : Nat) : w.frozen? ⟨g, i, none⟩ = false := by simp [World.frozen?, show w.heap[g]? = _ from h]
theorem Blk.upd {S : Nat → Prop} {w w' : World} {g : Nat} {cs : Array Value} {T : TypeId} (h : Blk w g cs T) (hu : Upd S w w') (hg : ¬ S g) : Blk w' g cs T := (hu.block g h.lt hg).trans h
theorem Blk.alloc {w : World} {g : Nat} {cs : Array Value} {T : TypeId} (h : Blk w g cs T) (o : Obj) : Blk (w.alloc o) g cs T := (Below.heap_alloc w o g h.lt).trans h
theorem Blk.drew {w : World} {g : Nat} {cs : Array Value} {T : TypeId} (h : Blk w g cs T) : Blk w.drew g cs T := h
theorem Blk.drewN {w : World} {g : Nat} {cs : Array Value} {T : TypeId} (h : Blk w g cs T) (n : Nat) : Blk (w.drewN n) g cs T := h
theorem Blk.new (w : World) (cs : Array Value) (T : TypeId) : Blk (w.alloc (.cells cs T)) w.heap.size cs T := by
  show (w.heap.push _)[w.heap.size]? = _
  simp
theorem Blk.set {w : World} {g : Nat} {cs : Array Value} {T : TypeId} (h : Blk w g cs T) (i : Nat) (u : Value) : Blk (w.setCell ⟨g, i, none⟩ u) g (cs.setIfInBounds i u) T := by
  simp only [Blk, World.setCell, Array.getElem?_modify, if_true]
  rw [show w.heap[g]? = _ from h]; rfl
theorem Blk.far {w : World} {g : Nat} {cs : Array Value} {T : TypeId} (h : Blk w g cs T) {p : Addr} (hp : g ≠ p.block) (u : Value) : Blk (w.setCell p u) g cs T :=
  (Below.heap_setCell w p u g hp).trans h


theorem Blk.setCells {g : Nat} {T : TypeId} (c : List Value) : ∀ (vs old a : List Value) (w : World), Blk w g (a ++ (old ++ c)).toArray T → old.length = vs.length → Blk (w.setCells g a.length vs) g (a ++ (vs ++ c)).toArray T
  | [], old, a, w, h, hl => by
    obtain rfl : old = [] := List.length_eq_zero_iff.1 hl
    exact h
  | v :: vs, [], a, w, h, hl => by cases hl
  | v :: vs, x :: old, a, w, h, hl => by
    have h1 := h.set a.length v
    rw [List.setIfInBounds_toArray, List.set_append_right _ _ (Nat.le_refl _), Nat.sub_self, List.cons_append, List.set_cons_zero] at h1
    have h2 := Blk.setCells c vs old (a ++ [v]) (w.setCell ⟨g, a.length, none⟩ v) (by simpa using h1) (by simpa using hl)
    simpa [World.setCells] using h2
theorem Upd.setCells {S : Nat → Prop} {w : World} {g : Nat} (hg : S g ∨ w.heap.size ≤ g) : ∀ (vs : List Value) (o : Nat) (w' : World), Upd S w w' → Upd S w (w'.setCells g o vs)
  | [], _, _, h => h
  | v :: vs, o, _, h => Upd.setCells hg vs (o + 1) _ (h.setCell (p := ⟨g, o, none⟩) hg v)
theorem Blk.there {w : World} {g : Nat} {cs : Array Value} {T : TypeId} (h : Blk w g cs T) (o n : Nat) (hn : o + n ≤ cs.size) : ∀ j, j < n → (w.cell? ⟨g, o + j, none⟩).isSome = true ∧ w.frozen? ⟨g, o + j, none⟩ = false := fun j hj => by
  rw [h.cell, h.frozen, Array.getElem?_eq_getElem (by omega)]
  exact ⟨rfl, rfl⟩

/-- The block that a slice value of the call's own lies in. -/
def OB (v : Value) (k : Nat) : Prop := v.ownBlock = some k
theorem not_OB_nil (k : Nat) : ¬ OB (.slice none 0 0) k := fun h => by cases h

theorem own_upd {w w' : World} {b : Nat} {e : TypeId} {size n : Nat} {v : Value} {xs : List Value} {S : Nat → Prop} (h : w.ownsRow b e size v n xs) (hu : Upd S w w') (hs : ∀ k, OB v k → ¬ S k) : w'.ownsRow b e size v n xs := by
  obtain ⟨h1, h2⟩ := h
  refine ⟨h1, ?_⟩
  rcases h2 with h2 | ⟨g, cap, cur, rfl, hg, hh, r⟩
  · exact .inl h2
  · exact .inr ⟨g, cap, cur, rfl, hg, (hu.block g (Array.getElem?_eq_some_iff.1 hh).1 (hs g rfl)).trans hh, r⟩
theorem own_lt {w : World} {b : Nat} {e : TypeId} {size n : Nat} {v : Value} {xs : List Value} (h : w.ownsRow b e size v n xs) (k : Nat) (hk : OB v k) : k < w.heap.size := by
  rcases h.2 with ⟨rfl, _⟩ | ⟨g, cap, cur, rfl, hg, hh, r⟩
  · cases hk
  · cases hk; exact (Array.getElem?_eq_some_iff.1 hh).1
theorem own_ne {w : World} {b : Nat} {e : TypeId} {size n : Nat} {v : Value} {xs : List Value} (h : w.ownsRow b e size v n xs) {g : Nat} {cs : Array Value} {T : TypeId} (hb : Blk w g cs T) (hT : T ≠ e) : ¬ OB v g := by
  intro hk
  rcases h.2 with ⟨rfl, _⟩ | ⟨g', cap, cur, rfl, hg, hh, r⟩
  · cases hk
  · have hk' : g' = g := by simpa [OB, Value.ownBlock] using hk
    subst hk'
    rw [show w.heap[g']? = _ from hb] at hh
    simp at hh
    exact hT hh.2
theorem own_slice {w : World} {b : Nat} {e : TypeId} {size n : Nat} {v : Value} {xs : List Value} (h : w.ownsRow b e size v n xs) : ∃ ao c, v = .slice ao n c := by
  rcases h.2 with ⟨rfl, rfl⟩ | ⟨g, cap, cur, rfl, _⟩
  · exact ⟨_, _, rfl⟩
  · exact ⟨_, _, rfl⟩
theorem own_max {w : World} {b : Nat} {e : TypeId} {size n : Nat} {v : Value} {xs : List Value} (h : w.ownsRow b e size v n xs) : n ≤ 9223372036854775807 := by
  rcases h.2 with ⟨_, h⟩ | ⟨g, cap, cur, rfl, _, _, h1, h2, _⟩
  · omega
  · unfold maxLen at h2; omega
theorem own_cap {w : World} {b : Nat} {e : TypeId} {size n m c : Nat} {ao : Option Addr} {xs : List Value} (h : w.ownsRow b e size (.slice ao m c) n xs) : m ≤ c ∧ c ≤ 9223372036854775807 := by
  rcases h.2 with ⟨h, _⟩ | ⟨g, cap, cur, h, _, _, h1, h2, _⟩
  · cases h; omega
  · cases h; unfold maxLen at h2; omega
/-- The row cut to its first elements. -/
theorem own_take {w : World} {b : Nat} {e : TypeId} {size n c : Nat} {ao : Option Addr} {xs : List Value} (h : w.ownsRow b e size (.slice ao n c) n xs) (m : Nat) (hm : m ≤ n) : w.ownsRow b e size (.slice ao m c) m (xs.take (m * size)) := by
  refine ⟨by rw [List.length_take, h.1]; exact Nat.min_eq_left (Nat.mul_le_mul_right _ hm), ?_⟩
  rcases h.2 with ⟨h', h0⟩ | ⟨g, cap, cur, hv, h1, h2, h3, h4, h5, h6⟩
  · obtain rfl : m = 0 := by omega
    subst h0
    exact .inl ⟨h', rfl⟩
  · cases hv
    refine .inr ⟨g, c, cur, rfl, h1, h2, by omega, h4, h5, ?_⟩
    rw [← h6, List.take_take, Nat.min_eq_left (Nat.mul_le_mul_right _ hm)]
theorem own_some {w : World} {b : Nat} {e : TypeId} {size n : Nat} {v : Value} {xs : List Value} (h : w.ownsRow b e size v (n + 1) xs) : ∃ g c, v = .slice (some ⟨g, 0, none⟩) (n + 1) c := by
  rcases h.2 with ⟨_, h⟩ | ⟨g, cap, cur, rfl, _⟩
  · omega
  · exact ⟨_, _, rfl⟩
theorem own_alloc {w : World} {b : Nat} {e : TypeId} {size n : Nat} {v : Value} {xs : List Value} (h : w.ownsRow b e size v n xs) (o : Obj) : (w.alloc o).ownsRow b e size v n xs :=
  own_upd h ((Upd.refl (fun _ => False) w).alloc o) (fun _ _ => id)
theorem own_far {w : World} {b : Nat} {e : TypeId} {size n : Nat} {v : Value} {xs : List Value} (h : w.ownsRow b e size v n xs) {p : Addr} (hp : ¬ OB v p.block) (u : Value) : (w.setCell p u).ownsRow b e size v n xs :=
  own_upd h ((Upd.refl (fun k => k = p.block) w).setCell (.inl rfl) u) (fun _ hk he => hp (he ▸ hk))
/-- A cell of an owned row. -/
theorem own_cell {w : World} {b : Nat} {e : TypeId} {size n g c : Nat} {xs : List Value} (h : w.ownsRow b e size (.slice (some ⟨g, 0, none⟩) n c) n xs) (i : Nat) (hi : i < n * size) : w.cell? ⟨g, i, none⟩ = xs[i]? := by
  rcases h.2 with ⟨h, _⟩ | ⟨g', cap, cur, hv, hg, hh, hnc, hcm, hcs, ht⟩
  · cases h
  · cases hv
    rw [← ht, List.getElem?_take_of_lt hi]
    simp [World.cell?, hh]

section
variable {P : Program} {ops : Array Oper} {rest : List Oper} {o : Oper} {a : Act} {Q : Exit → Act → World → Prop}
/-- 'append(v, x)': the one new element lies in a block of its own. -/
theorem wpList_app1 {w : World} (hgd : o.guard = none) (s x : Operand) (t e : TypeId) (z : Value) (size bytes : Nat)
    (ho : o.op = .call { callee := .builtin .append, args := #[s, x], argTypes := #[t, t] })
    (ht : P.underlying t = some (.slice e)) (hinfo : (P.info? e).map (fun i => (i.zero, i.size, i.bytes)) = some (some z, size, bytes)) (hz : z.cells.size = size) (hs0 : 0 < size) (hb0 : 0 < bytes)
    (v : Value) (n : Nat) (xs ys : List Value) (b : Nat) (hs : a.eval s = v) (hx : a.eval x = .slice (some ⟨b, 0, none⟩) 1 1) (hys : ys.length = size) (h1 : ∀ u ∈ ys, u.oneCell' = true)
    (hnew : Blk w b ys.toArray e) (HO : w.ownsRow 0 e size v n xs) (hl : (n + 1) * bytes ≤ 140737488355328)
    (h : ∀ g c w1, w1.ownsRow 0 e size (.slice (some ⟨g, 0, none⟩) (n + 1) c) (n + 1) (xs ++ ys) → Upd (OB v) w w1 → (OB v g ∨ w.heap.size ≤ g) → wpList P ops Q rest (a.put o.dst (.slice (some ⟨g, 0, none⟩) (n + 1) c)) w1) :
    wpList P ops Q (o :: rest) a w := by
  obtain ⟨i0, hi, hzz⟩ := Option.map_eq_some_iff.1 hinfo
  simp only [Prod.mk.injEq] at hzz
  obtain ⟨hz0, hz1, hz2⟩ := hzz
  have hlen : n + 1 ≤ 140737488355328 := Nat.le_trans (Nat.le_mul_of_pos_right _ hb0) hl
  refine wpList_append_own_at w hgd s x t ho 0 e i0 z size bytes ht hi hz0 hz1 hz2 hz hs0 v n xs hs HO ⟨b, 0, none⟩ 1 1 ys hx (by rw [hys]; simp)
    (by simpa using World.news_of_block hnew) h1 (by simp only [maxLen]; omega) hl (Nat.zero_le _) ?_
  intro v1 w1 hown hg _ hat
  obtain ⟨g, c, rfl⟩ := own_some hown
  refine h g c w1 hown ((Upd.refl (OB v) w).grown hg (fun k hk => .inl hk)) ?_
  rcases hat with hat | hat
  · exact .inl hat.symm
  · cases hat; exact .inr (Nat.le_refl _)
end

end Go.Proofs.Ytomiodlipibloaa
