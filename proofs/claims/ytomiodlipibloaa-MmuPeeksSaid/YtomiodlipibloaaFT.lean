/- The steps that the laws of the memory behind tables have in common. -/
import Derived.Test.YtomiodlipibloaaFS
namespace Go.Proofs.Ytomiodlipibloaa.F
set_option linter.unusedVariables false
set_option linter.unusedSimpArgs false
set_option maxHeartbeats 2000000
set_option maxRecDepth 20000
open Go.RowKit
theorem load_all (b : List Int) (n : Nat) (hn : n = b.length) : ldF (List.replicate n 0) b 0 = b := by
  subst hn
  unfold ldF
  rw [if_pos (by simp [thr])]
  rw [show (0 : Int).toNat = 0 from rfl, wrt_splice b _ 0 (by simp)]
  simp
section
variable (w : World)
theorem st_new (n : Nat) (hn : n ≤ 100000) (W : World) (hu : Upd (fun _ => False) w W) : Calls Try.prog 14 #[.int .i64 n] W fun e w' => ∃ p g, e = .returned (.pointer (some ⟨p, 0, none⟩)) ∧ LivesR 102 w w' p g (List.replicate n 0) :=
  (new_any W n hn).mono fun e w' ⟨he, hr, hu'⟩ => ⟨_, _, he, hr, hu.then hu', by have := hu.size; omega, hu.size⟩
theorem st_load (ao : Option Addr) (b : List Int) (c : Nat) (hb : RdB w ao b) (hbb : Byt b) (hl : b.length ≤ 100000) (W : World) (p g : Nat) (h : LivesR 102 w W p g (List.replicate b.length 0)) :
    Calls Try.prog 16 #[.pointer (some ⟨p, 0, none⟩), .int .u32 0, .slice ao b.length c] W fun e w' => (∃ x, e = .returned (.int .i64 x)) ∧ LivesR 102 w w' p g b :=
  (rload_any p g _ b ao c W 0 h.ram h.ram.ne (by decide) (by decide) (hb.upd h.up) hbb hl).mono fun e w' h2 => ⟨⟨_, h2.1⟩, by have := h.put h2.2; rwa [load_all b _ rfl] at this⟩
theorem st_mmu (l : List Int) (W : World) (p g : Nat) (h : LivesR 102 w W p g l) : Calls Try.prog 18 #[.pointer (some ⟨p, 0, none⟩)] W fun e w' => ∃ m t, e = .returned (.pointer (some ⟨m, 0, none⟩)) ∧ Lives w w' m p g t nilv l [] T0 :=
  (mnew_fn p g l W h.ram).mono fun e w' ⟨m, t, he, hm, h1, h2, hu⟩ => ⟨m, t, he, h.mmu hm h1 h2 hu⟩
theorem st_set (l : List Int) (T T' : Tab) (hT : T'.Fit) (W : World) (m p g t : Nat) (v : Value) (s : Ents) (h : Lives w W m p g t v l s T) : Calls Try.prog 20 #[.pointer (some ⟨m, 0, none⟩), .agg T'.cells] W fun e w' => e = .returned (.tuple #[]) ∧ Lives w w' m p g t nilv l [] T' :=
  (mset_fn m p g t v l s T W T' h.mm hT).mono fun e w' ⟨he, hm, hu⟩ => ⟨he, h.set hm hu⟩
/-- Results' places stay. -/
def Stay (W W' : World) : Prop := ∀ q cs Ty, Ty ≠ 132 → Ty ≠ 136 → Blk W q cs Ty → Blk W' q cs Ty
theorem Stay.of {W W' : World} (h : Upd (fun _ => False) W W') : Stay W W' := fun q cs Ty _ _ hb => hb.upd h id
theorem Stay.own {W W' : World} (h : Stay W W') {b : Nat} {v : Value} {l : List Int} (ho : OwnB W b v l) : OwnB W' b v l :=
  ⟨ho.1, ho.2.imp id (fun ⟨g, cap, cur, e, hb, hg, r⟩ => ⟨g, cap, cur, e, hb, h g cur 5 (by decide) (by decide) hg, r⟩)⟩
theorem Stay.mput {W W' : World} {m p g t : Nat} {v : Value} {l : List Int} {s s' : Ents} {T T' : Tab} (h : Mmu W m p g t v l s T) (hp : MPut W m p g t v l s' T' W') : Stay W W' := fun q cs Ty h1 h2 hb => MPut.blk h hp hb h1 h2
theorem ownB_row {w : World} {b : Nat} {v : Value} {l : List Int} (h : OwnB w b v l) : ∃ ao c, v = .slice ao l.length c ∧ RdB w ao l ∧ (ao = none → c = 0) := by
  obtain ⟨ao, c, rfl, _, hr, _⟩ := OwnB.slice h
  exact ⟨ao, c, rfl, hr, OwnB.nonil h⟩
section
variable (l : List Int) (s : Ents) (T : Tab) (va : Int) (user write : Bool)
theorem st_peek (h0 : 0 ≤ va) (h1 : va < 4294967296) (W : World) (m p g t : Nat) (v : Value) (h : Lives w W m p g t v l s T) : Calls Try.prog 32 #[.pointer (some ⟨m, 0, none⟩), .int .u32 va, .bool user] W fun e w' =>
    e = .returned (.tuple #[.int .u8 (peekF l s T va user).1, .agg (peekF l s T va user).2.cells]) ∧ Stay W w' ∧ ∃ v', Lives w w' m p g t v' l s T :=
  (peek_fn m p g t v l s T va user W h.mm h0 h1).mono fun e w' ⟨he, hp⟩ => ⟨he, Stay.mput h.mm hp, h.put hp⟩
theorem st_buffered (W : World) (m p g t : Nat) (v : Value) (h : Lives w W m p g t v l s T) : Calls Try.prog 33 #[.pointer (some ⟨m, 0, none⟩)] W fun e w' =>
    ∃ x, e = .returned x ∧ OwnU w' x (pgs s) ∧ Fr W.heap.size x ∧ Upd (fun _ => False) W w' ∧ Stay W w' ∧ Lives w w' m p g t v l s T :=
  (buffered_fn m p g t v l s T W h.mm).mono fun e w' ⟨x, he, ho, hf, hu⟩ => ⟨x, he, ho, hf, hu, Stay.of hu, h.next hu⟩
theorem st_mload (n : Int) (h0 : 0 ≤ va) (h1 : va < 4294967296) (hn : n ≤ 1024) (W : World) (m p g t : Nat) (v : Value) (h : Lives w W m p g t v l s T) : Calls Try.prog 34 #[.pointer (some ⟨m, 0, none⟩), .int .u32 va, .int .i64 n, .bool user] W fun e w' =>
    ∃ x, e = .returned (.tuple #[x, .agg (pcs l T user false true n.toNat va n.toNat s).2.1.cells]) ∧ OwnB w' W.heap.size x (loadF l (pcs l T user false true n.toNat va n.toNat s).1) ∧ Stay W w' ∧ ∃ v', Lives w w' m p g t v' l (pcs l T user false true n.toNat va n.toNat s).2.2 T :=
  (load_fn m p g t v l s T va user W n h.mm h0 h1 hn).mono fun e w' ⟨x, he, ho, hp⟩ => ⟨x, he, ho, Stay.mput h.mm hp, h.put hp⟩
theorem st_get (n : Int) (h0 : 0 ≤ va) (h1 : va < 4294967296) (hn0 : -9223372036854775808 ≤ n) (hn1 : n < 9223372036854775808) (W : World) (m p g t : Nat) (v : Value) (h : Lives w W m p g t v l s T) : Calls Try.prog 29 #[.pointer (some ⟨m, 0, none⟩), .int .u32 va, .int .i64 n, .bool user] W fun e w' =>
    e = .returned (.tuple #[.int .u32 (num (loadF l (getnF l s T va n user).1)), .agg (getnF l s T va n user).2.1.cells]) ∧ Stay W w' ∧ ∃ v', Lives w w' m p g t v' l (getnF l s T va n user).2.2 T :=
  (get_fn m p g t v l s T va user W n h.mm h0 h1 hn0 hn1).mono fun e w' ⟨he, hp⟩ => ⟨he, Stay.mput h.mm hp, h.put hp⟩
theorem st_probe (n : Int) (h0 : 0 ≤ va) (h1 : va < 4294967296) (hn : n ≤ 1024) (W : World) (m p g t : Nat) (v : Value) (h : Lives w W m p g t v l s T) : Calls Try.prog 35 #[.pointer (some ⟨m, 0, none⟩), .int .u32 va, .int .i64 n, .bool user, .bool write] W fun e w' =>
    e = .returned (.agg (pcs l T user write true n.toNat va n.toNat s).2.1.cells) ∧ Stay W w' ∧ (∀ b, Upd (fun _ => False) w b → True) ∧ ∃ v', Lives w w' m p g t v' l (pcs l T user write true n.toNat va n.toNat s).2.2 T :=
  (probe_fn m p g t v l s T va user write W n h.mm h0 h1 hn).mono fun e w' ⟨he, hp⟩ => ⟨he, Stay.mput h.mm hp, fun _ _ => trivial, h.put hp⟩
end
end
end Go.Proofs.Ytomiodlipibloaa.F
