/- A memory behind tables that a call made for itself; what the document tells of it. -/
import Derived.Test.YtomiodlipibloaaFQ
namespace Go.Proofs.Ytomiodlipibloaa.F
set_option linter.unusedVariables false
set_option linter.unusedSimpArgs false
set_option maxHeartbeats 2000000
set_option maxRecDepth 20000
open Go.RowKit
/-- A memory behind tables that was made behind 'w'. -/
structure Lives (w W : World) (m p g t : Nat) (v : Value) (l : List Int) (s : Ents) (T : Tab) : Prop where
  mm : Mmu W m p g t v l s T
  up : Upd (fun _ => False) w W
  ge : w.heap.size ≤ m ∧ w.heap.size ≤ p ∧ w.heap.size ≤ g ∧ w.heap.size ≤ t
  fr : Fr w.heap.size v
section
variable {w W W' : World} {m p g t : Nat} {v : Value} {l : List Int} {s : Ents} {T : Tab}
theorem Lives.next (h : Lives w W m p g t v l s T) (hu : Upd (fun _ => False) W W') : Lives w W' m p g t v l s T := ⟨h.mm.upd hu, h.up.then hu, h.ge, h.fr⟩
theorem Lives.put (h : Lives w W m p g t v l s T) {s' : Ents} {T' : Tab} (hp : MPut W m p g t v l s' T' W') : ∃ v', Lives w W' m p g t v' l s' T' := by
  obtain ⟨v', hm, hu, hf⟩ := hp
  refine ⟨v', hm, h.up.trans hu (fun i hi hS => ?_), h.ge, fun k hk => ?_⟩
  · rcases hS with e | e
    · have := h.ge.2.2.2; omega
    · have := h.fr i e; omega
  · rcases hf k hk with e | e
    · exact h.fr k e
    · have := h.up.size; omega
theorem Lives.set (h : Lives w W m p g t v l s T) {T' : Tab} (hm : Mmu W' m p g t nilv l [] T') (hu : Upd (fun k => k = m ∨ k = t) W W') : Lives w W' m p g t nilv l [] T' := by
  refine ⟨hm, h.up.trans hu (fun i hi hS => ?_), h.ge, fun k hk => by cases hk⟩
  have := h.ge
  rcases hS with e | e <;> omega
theorem Lives.ram (h : Lives w W m p g t v l s T) {l' : List Int} (hp : Put 102 W p g l' W') : Lives w W' m p g t v l' s T := by
  obtain ⟨hr, hu⟩ := hp
  have hb := h.mm.ram.row
  refine ⟨⟨h.mm.head.upd hu (Blk.neT h.mm.head hb (by decide)), hr, h.mm.tlb.upd hu (Blk.neT h.mm.tlb.head hb (by decide)) (fun k hk e => own_ne h.mm.tlb.row hb (by decide) (e ▸ hk)), h.mm.tab⟩, h.up.trans hu (fun i hi hS => ?_), h.ge, h.fr⟩
  have := h.ge; omega
end
/-- A memory that was made behind 'w'. -/
structure LivesR (Ty : TypeId) (w W : World) (p g : Nat) (l : List Int) : Prop where
  ram : Ram Ty W p g l
  up : Upd (fun _ => False) w W
  ge : w.heap.size ≤ p ∧ w.heap.size ≤ g
section
variable {Ty : TypeId} {w W W' : World} {m p g t : Nat} {v : Value} {l : List Int} {s : Ents} {T : Tab}
theorem LivesR.next (h : LivesR Ty w W p g l) (hu : Upd (fun _ => False) W W') : LivesR Ty w W' p g l := ⟨h.ram.keep hu, h.up.then hu, h.ge⟩
theorem LivesR.put (h : LivesR Ty w W p g l) {l' : List Int} (hp : Put Ty W p g l' W') : LivesR Ty w W' p g l' := by
  obtain ⟨hr, hu⟩ := hp
  refine ⟨hr, h.up.trans hu (fun i hi hS => ?_), h.ge⟩
  have := h.ge; omega
theorem LivesR.mmu (h : LivesR 102 w W p g l) (hm : Mmu W' m p g t nilv l [] T) (h1 : W.heap.size ≤ m) (h2 : W.heap.size ≤ t) (hu : Upd (fun _ => False) W W') : Lives w W' m p g t nilv l [] T := by
  have := h.up.size
  exact ⟨hm, h.up.then hu, ⟨by omega, h.ge.1, h.ge.2, by omega⟩, fun k hk => by cases hk⟩
theorem Ram.ne (h : Ram 102 w p g l) : p ≠ g := Blk.neT h.head h.row (by decide)
theorem Ram.ne' (h : Ram 51 w p g l) : p ≠ g := Blk.neT h.head h.row (by decide)
end
def L05 : List Int := putF (putF (List.replicate 1024 0) 512 2550136832 4) 3 77 1
def T05 : Tab := ⟨512, 1, 0, 0, 1⟩
theorem T05_fit : T05.Fit := ⟨⟨by decide, by decide⟩, ⟨by decide, by decide⟩, ⟨by decide, by decide⟩, ⟨by decide, by decide⟩, ⟨by decide, by decide⟩⟩
theorem told1 : num (loadF L05 (getnF L05 [] T05 3 1 true).1) = 77 ∧ (getnF L05 [] T05 3 1 true).2.1 = nof := by decide +kernel
theorem told2 : (pcs L05 T05 false true true 1 512 1 (getnF L05 [] T05 3 1 true).2.2).2.1 = ⟨2, 512, 5⟩ := by decide +kernel
theorem al_K1 (w : World) : Calls Try.prog 14 #[.int .i64 1024] w fun e w' => ∃ p g, e = .returned (.pointer (some ⟨p, 0, none⟩)) ∧ LivesR 102 w w' p g (List.replicate 1024 0) := (new_any w 1024 (by decide)).mono fun e w' ⟨he, hr, hu⟩ => ⟨_, _, he, hr, hu, by omega, Nat.le_refl _⟩
theorem al_K2 (w : World) : ∀ W p g, LivesR 102 w W p g (List.replicate 1024 0) → Calls Try.prog 39 #[.pointer (some ⟨p, 0, none⟩), .int .u32 512, .int .u32 2550136832, .int .i64 4] W fun e w' => (∃ x, e = .returned (.int .i64 x)) ∧ LivesR 102 w w' p g (putF (List.replicate 1024 0) 512 2550136832 4) :=
  fun W p g h => (rput_any p g _ W 512 2550136832 4 h.ram h.ram.ne (by decide) (by decide) (by decide) (by decide)).mono fun e w' h2 => ⟨⟨_, h2.1⟩, h.put h2.2⟩
theorem al_K3 (w : World) : ∀ W p g, LivesR 102 w W p g (putF (List.replicate 1024 0) 512 2550136832 4) → Calls Try.prog 39 #[.pointer (some ⟨p, 0, none⟩), .int .u32 3, .int .u32 77, .int .i64 1] W fun e w' => (∃ x, e = .returned (.int .i64 x)) ∧ LivesR 102 w w' p g L05 :=
  fun W p g h => (rput_any p g _ W 3 77 1 h.ram h.ram.ne (by decide) (by decide) (by decide) (by decide)).mono fun e w' h2 => ⟨⟨_, h2.1⟩, h.put h2.2⟩
theorem al_K4 (w : World) : ∀ W p g, LivesR 102 w W p g L05 → Calls Try.prog 18 #[.pointer (some ⟨p, 0, none⟩)] W fun e w' => ∃ m t, e = .returned (.pointer (some ⟨m, 0, none⟩)) ∧ Lives w w' m p g t nilv L05 [] T0 :=
  fun W p g h => (mnew_fn p g L05 W h.ram).mono fun e w' ⟨m, t, he, hm, h1, h2, hu⟩ => ⟨m, t, he, h.mmu hm h1 h2 hu⟩
theorem al_K5 (w : World) : ∀ W m p g t v s, Lives w W m p g t v L05 s T0 → Calls Try.prog 20 #[.pointer (some ⟨m, 0, none⟩), .agg #[.int .u32 512, .int .u32 1, .int .u32 0, .int .u32 0, .int .u32 1]] W fun e w' => e = .returned (.tuple #[]) ∧ Lives w w' m p g t nilv L05 [] T05 :=
  fun W m p g t v s h => (mset_fn m p g t v L05 s T0 W T05 h.mm T05_fit).mono fun e w' ⟨he, hm, hu⟩ => ⟨he, h.set hm hu⟩
theorem al_K6 (w : World) : ∀ W m p g t v, Lives w W m p g t v L05 [] T05 → Calls Try.prog 29 #[.pointer (some ⟨m, 0, none⟩), .int .u32 3, .int .i64 1, .bool true] W fun e w' => e = .returned (.tuple #[.int .u32 77, .agg #[.int .i64 0, .int .u32 0, .int .u32 0]]) ∧ ∃ v', Lives w w' m p g t v' L05 (getnF L05 [] T05 3 1 true).2.2 T05 :=
  fun W m p g t v h => (get_fn m p g t v L05 [] T05 3 true W 1 h.mm (by decide) (by decide) (by decide) (by decide)).mono fun e w' ⟨he, hp⟩ => ⟨by rw [he, told1.1, told1.2]; rfl, h.put hp⟩
theorem MPut.blk {W W' : World} {m p g t q : Nat} {v : Value} {l : List Int} {s s' : Ents} {T T' : Tab} (h : Mmu W m p g t v l s T) (hp : MPut W m p g t v l s' T' W') {cs : Array Value} {Ty : TypeId} (hb : Blk W q cs Ty) (h1 : Ty ≠ 132) (h2 : Ty ≠ 136) : Blk W' q cs Ty := by
  obtain ⟨v', _, hu, _⟩ := hp
  exact hb.upd hu (tf_ne h.tlb hb h1 h2)
theorem al_K7 (w : World) : ∀ W m p g t v, Lives w W m p g t v L05 (getnF L05 [] T05 3 1 true).2.2 T05 → Calls Try.prog 35 #[.pointer (some ⟨m, 0, none⟩), .int .u32 512, .int .i64 1, .bool false, .bool true] W fun e w' => e = .returned (.agg #[.int .i64 2, .int .u32 512, .int .u32 5]) ∧ Upd (fun _ => False) w w' ∧ ∀ q cs, Blk W q cs 47 → Blk w' q cs 47 :=
  fun W m p g t v h => (probe_fn m p g t v L05 _ T05 512 false true W 1 h.mm (by decide) (by decide) (by decide)).mono fun e w' ⟨he, hp⟩ => ⟨by rw [he, show (pcs L05 T05 false true true (1 : Int).toNat 512 (1 : Int).toNat (getnF L05 [] T05 3 1 true).2.2).2.1 = _ from told2]; rfl, (h.put hp).choose_spec.up, fun q cs hb => MPut.blk h.mm hp hb (by decide) (by decide)⟩
theorem alive05 (w : World) : Calls Try.prog 28 #[] w fun e w' => e = .returned (.bool true) ∧ Upd (fun _ => False) w w' := by
  have K1 := Lib.hid (al_K1 w)
  have K2 := Lib.hid (al_K2 w)
  have K3 := Lib.hid (al_K3 w)
  have K4 := Lib.hid (al_K4 w)
  have K5 := Lib.hid (al_K5 w)
  have K6 := Lib.hid (al_K6 w)
  have K7 := Lib.hid (al_K7 w)
  generalize (getnF L05 [] T05 3 1 true).2.2 = s6 at *
  generalize L05 = lc at *
  generalize putF (List.replicate 1024 0) 512 2550136832 4 = lb at *
  generalize List.replicate 1024 (0 : Int) = la at *
  generalize T05 = tb at *
  generalize T0 = ta at *
  go_enter Try.func28, Try.ntmps28
  go_wp2_with fail
  refine (K1.out).mono ?_; rintro e w1 ⟨p, g, rfl, hr⟩; have HR1 := Lib.hid hr; clear hr
  go_wp2_with fail
  refine (K2.out _ _ _ HR1.out).mono ?_; rintro e w2 ⟨⟨x2, rfl⟩, hr⟩; have HR2 := Lib.hid hr; clear hr
  go_wp2_with fail
  refine (K3.out _ _ _ HR2.out).mono ?_; rintro e w3 ⟨⟨x3, rfl⟩, hr⟩; have HR3 := Lib.hid hr; clear hr
  go_wp2_with fail
  refine (K4.out _ _ _ HR3.out).mono ?_; rintro e w4 ⟨m, t, rfl, hm⟩; have HM4 := Lib.hid hm; clear hm
  go_wp2_with fail
  refine (K5.out _ _ _ _ _ _ _ HM4.out).mono ?_; rintro e w5 ⟨rfl, hm⟩; have HM5 := Lib.hid hm; clear hm
  go_wp2_with fail
  refine (K6.out _ _ _ _ _ _ HM5.out).mono ?_; rintro e w6 ⟨rfl, v6, hm⟩
  have HM6 := Lib.hid (hm.next ((Upd.refl (fun _ => False) _).alloc (.cells #[.int .i64 0, .int .u32 0, .int .u32 0] 47))); have HB6 := Lib.hid (Blk.new w6 #[.int .i64 0, .int .u32 0, .int .u32 0] 47); clear hm
  go_wp2_with fail
  refine (K7.out _ _ _ _ _ _ HM6.out).mono ?_; rintro e w7 ⟨rfl, hu, hb⟩; have HU7 := Lib.hid hu; have hb := hb _ _ HB6.out; have c1 := hb.cell; have c2 := hb.lt; clear hu hb
  go_wp2
  go_ret
  exact ⟨rfl, HU7.out.alloc _⟩
end Go.Proofs.Ytomiodlipibloaa.F
