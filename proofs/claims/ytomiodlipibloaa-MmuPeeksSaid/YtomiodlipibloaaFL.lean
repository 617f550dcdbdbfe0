/- The memory behind page tables: what is answered; where an entry lies, and why not. -/
import Derived.Test.YtomiodlipibloaaFK
namespace Go.Proofs.Ytomiodlipibloaa.F
set_option linter.unusedVariables false
set_option linter.unusedSimpArgs false
set_option maxHeartbeats 1000000
set_option maxRecDepth 20000
open Go.RowKit
/-- The tables' registers. -/
structure Tab where
  a : Int
  b : Int
  c : Int
  d : Int
  e : Int
def U32 (x : Int) : Prop := 0 ≤ x ∧ x < 4294967296
structure Tab.Fit (T : Tab) : Prop where
  a : U32 T.a
  b : U32 T.b
  c : U32 T.c
  d : U32 T.d
  e : U32 T.e
def Tab.cells (T : Tab) : Array Value := #[.int .u32 T.a, .int .u32 T.b, .int .u32 T.c, .int .u32 T.d, .int .u32 T.e]
/-- Why an access isn't made. -/
structure Flt where
  k : Int
  va : Int
  info : Int
  deriving DecidableEq
def Flt.cells (f : Flt) : Array Value := #[.int .i64 f.k, .int .u32 f.va, .int .u32 f.info]
def nof : Flt := ⟨0, 0, 0⟩
def fltF (k va info : Int) (write : Bool) : Flt := ⟨k, va, if write then info + 4 else info⟩
def atP (T : Tab) (va : Int) : Int := ((if 2147483648 ≤ va then T.c else T.a) + 4 * (va / 512 % 2097152)) % 4294967296
def okP' (T : Tab) (va : Int) : Bool := !bitF va 30 && decide (va / 512 % 2097152 < (if 2147483648 ≤ va then T.d else T.b))
def chkF (s : Ents) (x va : Int) (is user write keep : Bool) : Int × Flt × Ents :=
  if mayF x user write = false then (0, fltF 2 va 0 write, s)
  else if bitF x 31 = false then (0, fltF 3 va 0 write, s)
  else (x, nof, if is = false ∧ keep = true then putE s (va / 512) x else s)
def entryF (l : List Int) (s : Ents) (T : Tab) (va : Int) (user write keep : Bool) : Int × Flt × Ents :=
  if (getE s (va / 512)).2 = true then chkF s (getE s (va / 512)).1 va true user write keep
  else if okP' T va = false then (0, fltF 2 va 1 write, s)
  else if (getF l (atP T va) 4).2 ≠ 0 then (0, fltF 1 va 0 write, s)
  else chkF s (getF l (atP T va) 4).1 va false user write keep
def finF (l : List Int) (pa va n : Int) (write : Bool) (s : Ents) : Int × Flt × Ents := if pa + n > l.length then (0, fltF 1 va 0 write, s) else (pa, nof, s)
def findF (l : List Int) (s : Ents) (T : Tab) (va n : Int) (user write keep : Bool) : Int × Flt × Ents :=
  if T.e = 0 then finF l va va n write s
  else if (entryF l s T va user write keep).2.1.k ≠ 0 then (0, (entryF l s T va user write keep).2.1, (entryF l s T va user write keep).2.2)
  else finF l (placeF (entryF l s T va user write keep).1 va) va n write (entryF l s T va user write keep).2.2

/-- The program's memory behind tables. -/
structure Mmu (w : World) (m p g t : Nat) (v : Value) (l : List Int) (s : Ents) (T : Tab) : Prop where
  head : Blk w m #[.pointer (some ⟨p, 0, none⟩), .pointer (some ⟨t, 0, none⟩), .int .u32 T.a, .int .u32 T.b, .int .u32 T.c, .int .u32 T.d, .int .u32 T.e] 107
  ram : Ram 102 w p g l
  tlb : Tlb w t v s
  tab : T.Fit
theorem Blk.neT {w : World} {g g' : Nat} {cs cs' : Array Value} {T T' : TypeId} (h : Blk w g cs T) (h' : Blk w g' cs' T') (hT : T ≠ T') : g ≠ g' := by
  rintro rfl
  have e := Option.some.inj ((show w.heap[g]? = _ from h).symm.trans h')
  simp at e
  exact hT e.2
/-- What a change of the buffer may touch. -/
def TF (t : Nat) (v : Value) (k : Nat) : Prop := k = t ∨ OB v k
theorem Mmu.keep {w w' : World} {m p g t : Nat} {v : Value} {l : List Int} {s : Ents} {T : Tab} (h : Mmu w m p g t v l s T) {S : Nat → Prop} (hu : Upd S w w') (hs : ∀ k, k < w.heap.size → S k → TF t v k) {v' : Value} {s' : Ents} (ht : Tlb w' t v' s') : Mmu w' m p g t v' l s' T := by
  have key : ∀ {q : Nat} {cs : Array Value} {Ty : TypeId}, Blk w q cs Ty → Ty ≠ 132 → Ty ≠ 136 → ¬ S q := fun hb h1 h2 hS => by
    rcases hs _ hb.lt hS with e | e
    · exact Blk.neT hb h.tlb.head h1 e
    · exact own_ne h.tlb.row hb h2 e
  exact ⟨h.head.upd hu (key h.head (by decide) (by decide)), h.ram.upd hu (key h.ram.head (by decide) (by decide)) (key h.ram.row (by decide) (by decide)), ht, h.tab⟩
theorem Mmu.upd {w w' : World} {m p g t : Nat} {v : Value} {l : List Int} {s : Ents} {T : Tab} (h : Mmu w m p g t v l s T) (hu : Upd (fun _ => False) w w') : Mmu w' m p g t v l s T :=
  ⟨h.head.upd hu id, h.ram.upd hu id id, h.tlb.upd hu id (fun _ _ => id), h.tab⟩
/-- What is left, where at most the buffer was changed. -/
def MPut (w : World) (m p g t : Nat) (v : Value) (l : List Int) (s' : Ents) (T : Tab) (w' : World) : Prop := ∃ v', Mmu w' m p g t v' l s' T ∧ Upd (TF t v) w w' ∧ (∀ k, OB v' k → OB v k ∨ w.heap.size ≤ k)
theorem MPut.same {w w' : World} {m p g t : Nat} {v : Value} {l : List Int} {s : Ents} {T : Tab} (h : Mmu w m p g t v l s T) (hu : Upd (fun _ => False) w w') : MPut w m p g t v l s T w' := ⟨v, h.upd hu, hu.mono (fun _ _ h => h.elim), fun _ h => .inl h⟩
theorem MPut.then {w w1 w' : World} {m p g t : Nat} {v : Value} {l : List Int} {s1 : Ents} {T : Tab} (h : MPut w m p g t v l s1 T w1) (hu : Upd (fun _ => False) w1 w') : MPut w m p g t v l s1 T w' := by
  obtain ⟨v', h1, h2, h3⟩ := h
  exact ⟨v', h1.upd hu, h2.trans hu (fun _ _ h => h.elim), h3⟩
theorem MPut.pre {w w1 w' : World} {m p g t : Nat} {v : Value} {l : List Int} {s1 : Ents} {T : Tab} (hu : Upd (fun _ => False) w w1) (h : MPut w1 m p g t v l s1 T w') : MPut w m p g t v l s1 T w' := by
  obtain ⟨v', h1, h2, h3⟩ := h
  exact ⟨v', h1, (hu.mono (fun _ _ h => h.elim)).trans h2 (fun _ _ h => h), fun k hk => (h3 k hk).imp id (fun h => Nat.le_trans hu.size h)⟩
theorem MPut.trans {w w1 w' : World} {m p g t : Nat} {v v1 : Value} {l : List Int} {s1 s2 : Ents} {T : Tab} (h : Upd (TF t v) w w1) (hf : ∀ k, OB v1 k → OB v k ∨ w.heap.size ≤ k) (h' : MPut w1 m p g t v1 l s2 T w') : MPut w m p g t v l s2 T w' := by
  obtain ⟨v', h1, h2, h3⟩ := h'
  refine ⟨v', h1, h.trans h2 (fun i hi hS => ?_), fun k hk => ?_⟩
  · rcases hS with e | e
    · exact .inl e
    · rcases hf i e with e | e
      · exact .inr e
      · omega
  · rcases h3 k hk with e | e
    · exact hf k e
    · right; have := h.size; omega
/-- Behind a call: a block of before. -/
theorem still {W w' : World} {g : Nat} {cs : Array Value} {T : TypeId} {S : Nat → Prop} (hu : Upd S W w') (hb : Blk W g cs T) (hs : ¬ S g) :
    (∀ i, w'.cell? ⟨g, i, none⟩ = cs[i]?) ∧ (∀ i, w'.frozen? ⟨g, i, none⟩ = false) ∧ g < w'.heap.size :=
  ⟨fun i => (hb.upd hu hs).cell i, fun i => (hb.upd hu hs).frozen i, (hb.upd hu hs).lt⟩
theorem set3 {w w' : World} {g : Nat} (h : Upd (fun _ => False) w w') (hg : w.heap.size ≤ g) (a b c : Value) : Upd (fun _ => False) w (((w'.setCell ⟨g, 0, none⟩ a).setCell ⟨g, 1, none⟩ b).setCell ⟨g, 2, none⟩ c) :=
  ((h.setCell (.inr hg) _).setCell (.inr hg) _).setCell (.inr hg) _
def zf : Array Value := #[.int .i64 0, .int .u32 0, .int .u32 0]
theorem bR (w : World) (A : Obj) : Blk ((w.alloc A).alloc (.cells zf 47)) (w.heap.size + 1) zf 47 := by
  have := Blk.new (w.alloc A) zf 47
  rw [World.size_alloc] at this
  exact this
theorem bA (w : World) (cs : Array Value) (T : TypeId) (B : Obj) : Blk ((w.alloc (.cells cs T)).alloc B) w.heap.size cs T := (Blk.new w cs T).alloc B
section
variable (va info k : Int) (user write : Bool) (w : World)
theorem or4 (x : Int) (h : x = 0 ∨ x = 1) : bits BinOp.or IntKind.u32 x 4 = x + 4 := by rcases h with rfl | rfl <;> decide
theorem fault_any (hi : info = 0 ∨ info = 1) : Calls Try.prog 83 #[.agg #[.int .u32 va, .bool user, .bool write], .int .i64 k, .int .u32 info] w fun e w' => e = .returned (.agg (fltF k va info write).cells) ∧ Upd (fun _ => False) w w' := by
  unfold fltF Flt.cells
  have h4 := or4 info hi
  cases write
  · simp only [Bool.false_eq_true, if_false]
    go_enter Try.func83, Try.ntmps83
    go_wp2
    exact bodyPost_ret (v := .agg #[_, _, _]) (by simp [results, Try.results83, go_sem]) rfl ⟨rfl, ((Upd.refl _ w).alloc _).alloc _⟩
  · simp only [if_true]
    have H4 := Lib.hid h4
    clear h4
    go_enter Try.func83, Try.ntmps83
    go_wp2
    exact bodyPost_ret (v := .agg #[.int .i64 k, .int .u32 va, .int .u32 (bits BinOp.or IntKind.u32 info 4)]) (by simp [results, Try.results83, go_sem]) rfl ⟨by rw [H4.out], ((Upd.refl _ w).alloc _).alloc _⟩
theorem faultR_any (hi : info = 0 ∨ info = 1) : Calls Try.prog 59 #[.int .i64 k, .int .u32 va, .int .u32 info, .bool write] w fun e w' => e = .returned (.agg (fltF k va info write).cells) ∧ Upd (fun _ => False) w w' := by
  unfold fltF Flt.cells
  have h0 : 0 ≤ info := by omega
  have h1 : info ≤ 1 := by omega
  cases write
  · simp only [Bool.false_eq_true, if_false]
    go_enter Try.func59, Try.ntmps59
    go_wp2
    exact bodyPost_ret (v := .agg #[_, _, _]) (by simp [results, Try.results59, go_sem]) rfl ⟨rfl, (Upd.refl _ w).alloc _⟩
  · simp only [if_true]
    go_enter Try.func59, Try.ntmps59
    go_wp2
    exact bodyPost_ret (v := .agg #[_, _, _]) (by simp [results, Try.results59, go_sem]) rfl ⟨rfl, (Upd.refl _ w).alloc _⟩
/-- An entry's place, and why there is none. -/
def placeP (T : Tab) (va : Int) (write : Bool) : Int × Flt := if okP' T va = true then (atP T va, nof) else (0, fltF 2 va 1 write)
theorem place_fn (m p t : Nat) (T : Tab) (hM : Blk w m #[.pointer (some ⟨p, 0, none⟩), .pointer (some ⟨t, 0, none⟩), .int .u32 T.a, .int .u32 T.b, .int .u32 T.c, .int .u32 T.d, .int .u32 T.e] 107) (hT : T.Fit) (h0 : 0 ≤ va) (h1 : va < 4294967296) :
    Calls Try.prog 87 #[.pointer (some ⟨m, 0, none⟩), .agg #[.int .u32 va, .bool user, .bool write]] w fun e w' => e = .returned (.tuple #[.int .u32 (placeP T va write).1, .agg (placeP T va write).2.cells]) ∧ Upd (fun _ => False) w w' := by
  have ep : bits BinOp.and IntKind.u32 (va / 512) 2097151 = va / 512 % 2097152 := and_mask (va / 512) (by omega) (by omega) 21 (by decide)
  have eb : bits BinOp.and IntKind.u32 (va / 1073741824) 1 = va / 1073741824 % 2 := and_mask (va / 1073741824) (by omega) (by omega) 1 (by decide)
  have hc := fun j => hM.cell j
  have hl := hM.lt
  have KF : Hid (∀ W, Calls Try.prog 83 #[.agg #[.int .u32 va, .bool user, .bool write], .int .i64 2, .int .u32 1] W fun e w' => e = .returned (.agg (fltF 2 va 1 write).cells) ∧ Upd (fun _ => False) W w') := Lib.hid fun W => fault_any va 1 2 user write W (.inr rfl)
  obtain ⟨a, b, c, d, e⟩ := T
  obtain ⟨⟨ha0, ha1⟩, ⟨hb0, hb1⟩, ⟨hc0, hc1⟩, ⟨hd0, hd1⟩, ⟨he0, he1⟩⟩ := hT
  simp only at *
  unfold placeP okP' atP
  simp only
  clear hM
  generalize fltF 2 va 1 write = f at *
  obtain ⟨fk, fv, fi⟩ := f
  simp only [Flt.cells, nof] at *
  by_cases h31 : 2147483648 ≤ va
  · simp only [if_pos h31]
    have h31' : va / 2147483648 = 1 := by omega
    clear h31
    by_cases h30 : va / 1073741824 % 2 = 1
    · have hb : bitF va 30 = true := by unfold bitF; simpa using h30
      rw [hb]
      simp only [Bool.not_true, Bool.false_and, Bool.false_eq_true, if_false]
      go_enter Try.func87, Try.ntmps87
      go_wp2_with fail
      go_quiet (fail)
      go_wp2_with fail
      go_quiet (fail)
      go_wp2_with (go_at_call 83; refine (KF.out _).mono ?_; rintro e w' ⟨rfl, hu⟩; obtain ⟨z1, z2, z3⟩ := still hu ((bR w _).drewN _) id; simp only [zf] at z1; have HU := Lib.hid (((((Upd.refl (fun _ => False) w).alloc _).alloc _).drewN _).then hu); clear hu)
      exact bodyPost_ret (v := .tuple #[_, _]) (by simp [results, Try.results87, go_sem, z1]) rfl ⟨rfl, set3 HU.out (by omega) _ _ _⟩
    · have hb : bitF va 30 = false := by unfold bitF; simpa using h30
      have h30' : va / 1073741824 % 2 = 0 := by omega
      rw [hb]
      simp only [Bool.not_false, Bool.true_and]
      clear h30
      by_cases hlt : va / 512 % 2097152 < d
      · rw [if_pos (by simpa using hlt)]
        go_enter Try.func87, Try.ntmps87
        go_wp2_with fail
        go_quiet (fail)
        go_wp2_with fail
        go_quiet (fail)
        go_wp2
        exact bodyPost_ret (v := .tuple #[_, _]) (by simp [results, Try.results87, go_sem]) rfl ⟨rfl, set3 ((((Upd.refl (fun _ => False) w).alloc _).alloc _).drewN _) (by omega) _ _ _⟩
      · rw [if_neg (by simpa using hlt)]
        have hge : d ≤ va / 512 % 2097152 := by omega
        clear hlt
        go_enter Try.func87, Try.ntmps87
        go_wp2_with fail
        go_quiet (fail)
        go_wp2_with fail
        go_quiet (fail)
        go_wp2_with (go_at_call 83; refine (KF.out _).mono ?_; rintro e w' ⟨rfl, hu⟩; obtain ⟨z1, z2, z3⟩ := still hu ((bR w _).drewN _) id; simp only [zf] at z1; have HU := Lib.hid (((((Upd.refl (fun _ => False) w).alloc _).alloc _).drewN _).then hu); clear hu)
        exact bodyPost_ret (v := .tuple #[_, _]) (by simp [results, Try.results87, go_sem, z1]) rfl ⟨rfl, set3 HU.out (by omega) _ _ _⟩
  
  · simp only [if_neg h31]
    have h31' : va / 2147483648 = 0 := by omega
    clear h31
    by_cases h30 : va / 1073741824 % 2 = 1
    · have hb : bitF va 30 = true := by unfold bitF; simpa using h30
      rw [hb]
      simp only [Bool.not_true, Bool.false_and, Bool.false_eq_true, if_false]
      go_enter Try.func87, Try.ntmps87
      go_wp2_with fail
      go_quiet (fail)
      go_wp2_with fail
      skip
      go_wp2_with (go_at_call 83; refine (KF.out _).mono ?_; rintro e w' ⟨rfl, hu⟩; obtain ⟨z1, z2, z3⟩ := still hu ((bR w _).drewN _) id; simp only [zf] at z1; have HU := Lib.hid (((((Upd.refl (fun _ => False) w).alloc _).alloc _).drewN _).then hu); clear hu)
      exact bodyPost_ret (v := .tuple #[_, _]) (by simp [results, Try.results87, go_sem, z1]) rfl ⟨rfl, set3 HU.out (by omega) _ _ _⟩
    · have hb : bitF va 30 = false := by unfold bitF; simpa using h30
      have h30' : va / 1073741824 % 2 = 0 := by omega
      rw [hb]
      simp only [Bool.not_false, Bool.true_and]
      clear h30
      by_cases hlt : va / 512 % 2097152 < b
      · rw [if_pos (by simpa using hlt)]
        go_enter Try.func87, Try.ntmps87
        go_wp2_with fail
        go_quiet (fail)
        go_wp2_with fail
        skip
        go_wp2
        exact bodyPost_ret (v := .tuple #[_, _]) (by simp [results, Try.results87, go_sem]) rfl ⟨rfl, set3 ((((Upd.refl (fun _ => False) w).alloc _).alloc _).drewN _) (by omega) _ _ _⟩
      · rw [if_neg (by simpa using hlt)]
        have hge : b ≤ va / 512 % 2097152 := by omega
        clear hlt
        go_enter Try.func87, Try.ntmps87
        go_wp2_with fail
        go_quiet (fail)
        go_wp2_with fail
        skip
        go_wp2_with (go_at_call 83; refine (KF.out _).mono ?_; rintro e w' ⟨rfl, hu⟩; obtain ⟨z1, z2, z3⟩ := still hu ((bR w _).drewN _) id; simp only [zf] at z1; have HU := Lib.hid (((((Upd.refl (fun _ => False) w).alloc _).alloc _).drewN _).then hu); clear hu)
        exact bodyPost_ret (v := .tuple #[_, _]) (by simp [results, Try.results87, go_sem, z1]) rfl ⟨rfl, set3 HU.out (by omega) _ _ _⟩
end
end Go.Proofs.Ytomiodlipibloaa.F
