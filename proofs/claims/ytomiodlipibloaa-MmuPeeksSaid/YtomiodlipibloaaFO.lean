/- Where bytes lie, page by page. -/
import Derived.Test.YtomiodlipibloaaFN
namespace Go.Proofs.Ytomiodlipibloaa.F
set_option linter.unusedVariables false
set_option linter.unusedSimpArgs false
set_option maxHeartbeats 2000000
set_option maxRecDepth 20000
open Go.RowKit
/-- What a call over the memory has by it: the memory, its result's place. -/
structure EnvQ (w W : World) (r m p g t : Nat) (v : Value) (l : List Int) (s : Ents) (T : Tab) (v' : Value) : Prop where
  mm : Mmu W m p g t v' l s T
  rs : Blk W r zf 47
  ge : w.heap.size ≤ r
  up : Upd (TF t v) w W
  fr : ∀ k, OB v' k → OB v k ∨ w.heap.size ≤ k
section
variable {w W W' : World} {r m p g t : Nat} {v v' : Value} {l : List Int} {s : Ents} {T : Tab}
theorem EnvQ.start (h : Mmu w m p g t v l s T) : EnvQ w (w.alloc (.cells zf 47)) w.heap.size m p g t v l s T v :=
  ⟨h.upd ((Upd.refl _ w).alloc _), Blk.new w zf 47, Nat.le_refl _, (Upd.refl _ w).alloc _, fun _ h => .inl h⟩
theorem EnvQ.next (h : EnvQ w W r m p g t v l s T v') (hu : Upd (fun _ => False) W W') : EnvQ w W' r m p g t v l s T v' :=
  ⟨h.mm.upd hu, h.rs.upd hu id, h.ge, h.up.trans hu (fun _ _ h => h.elim), h.fr⟩
theorem EnvQ.facts (h : EnvQ w W r m p g t v l s T v') : (∀ j, W.cell? ⟨m, j, none⟩ = (mc p t T)[j]?) ∧ (∀ j, W.cell? ⟨r, j, none⟩ = zf[j]?) ∧ (∀ j, W.frozen? ⟨r, j, none⟩ = false) ∧ m < W.heap.size ∧ r < W.heap.size :=
  ⟨h.mm.head.cell, h.rs.cell, h.rs.frozen, h.mm.head.lt, h.rs.lt⟩
theorem EnvQ.put (h : EnvQ w W r m p g t v l s T v') {s' : Ents} (hp : MPut W m p g t v' l s' T W') : ∃ v2, EnvQ w W' r m p g t v l s' T v2 := by
  obtain ⟨v2, hm, hu, hf⟩ := hp
  refine ⟨v2, hm, h.rs.upd hu (tf_ne h.mm.tlb h.rs (by decide) (by decide)), h.ge, h.up.trans hu (fun i hi hS => ?_), fun k hk => ?_⟩
  · rcases hS with e | e
    · exact .inl e
    · rcases h.fr i e with e | e
      · exact .inr e
      · omega
  · rcases hf k hk with e | e
    · exact h.fr k e
    · right; have := h.up.size; omega
/-- A block of no concern to the memory is written. -/
theorem EnvQ.far (h : EnvQ w W r m p g t v l s T v') {q : Nat} {cs : Array Value} {Ty : TypeId} (hq : Blk W q cs Ty) (hqw : w.heap.size ≤ q) (hu : Upd (fun k => k = q) W W') (h0 : Ty ≠ 47 ∨ q ≠ r) (h1 : Ty ≠ 107) (h2 : Ty ≠ 102) (h3 : Ty ≠ 5) (h4 : Ty ≠ 132) (h5 : Ty ≠ 136) : EnvQ w W' r m p g t v l s T v' :=
  ⟨h.mm.far hq hu h1 h2 h3 h4 h5, h.rs.upd hu (fun e => h0.elim (fun h0 => Blk.neT hq h.rs h0 e.symm) (fun h0 => h0 e.symm)), h.ge, h.up.trans hu (fun i hi e => by omega), h.fr⟩
theorem EnvQ.end_ (h : EnvQ w W r m p g t v l s T v') (a b c : Value) : MPut w m p g t v l s T (((W.setCell ⟨r, 0, none⟩ a).setCell ⟨r, 1, none⟩ b).setCell ⟨r, 2, none⟩ c) :=
  ⟨v', h.mm.far h.rs (set3q (Upd.refl _ W) a b c) (by decide) (by decide) (by decide) (by decide) (by decide),
    ((h.up.setCell (.inr h.ge) _).setCell (.inr h.ge) _).setCell (.inr h.ge) _, h.fr⟩
end
/-- Bytes of one page: their address, where they lie, how many they are. -/
abbrev Pc := Int × Int × Nat
def pcells (user write : Bool) : List Pc → List Value
  | [] => []
  | x :: r => .int .u32 x.1 :: .bool user :: .bool write :: .int .u32 x.2.1 :: .int .i64 (x.2.2 : Int) :: pcells user write r
theorem pcells_len (user write : Bool) : ∀ d : List Pc, (pcells user write d).length = d.length * 5
  | [] => rfl
  | x :: r => by simp only [pcells, List.length_cons, pcells_len user write r]; omega
theorem pcells_app (user write : Bool) : ∀ d e : List Pc, pcells user write (d ++ e) = pcells user write d ++ pcells user write e
  | [], _ => rfl
  | x :: r, e => by simp only [List.cons_append, pcells, pcells_app user write r e]
def OwnPc (w : World) (user write : Bool) (x : Value) (d : List Pc) : Prop := w.ownsRow 0 123 5 x d.length (pcells user write d)
theorem own_blk {w : World} {b : Nat} {e : TypeId} {size n : Nat} {v : Value} {xs : List Value} (h : w.ownsRow b e size v n xs) (k : Nat) (hk : OB v k) : ∃ cur, Blk w k cur e := by
  rcases h.2 with ⟨rfl, _⟩ | ⟨g', cap, cur, rfl, _, hh, _⟩
  · cases hk
  · have hk' : g' = k := by simpa [OB, Value.ownBlock] using hk
    subst hk'
    exact ⟨cur, hh⟩
theorem own_tf {W : World} {t n sz : Nat} {v x : Value} {s : Ents} {e : TypeId} {xs : List Value} (hT : Tlb W t v s) (ho : W.ownsRow 0 e sz x n xs) (h1 : e ≠ 132) (h2 : e ≠ 136) : ∀ k, OB x k → ¬ TF t v k := fun k hk => by
  obtain ⟨cur, hb⟩ := own_blk ho k hk
  exact tf_ne hT hb h1 h2
theorem OwnPc.updS {w w' : World} {user write : Bool} {x : Value} {d : List Pc} (h : OwnPc w user write x d) {S : Nat → Prop} (hu : Upd S w w') (hs : ∀ k, OB x k → ¬ S k) : OwnPc w' user write x d := own_upd h hu hs
theorem OwnPc.far {w w' : World} {user write : Bool} {x : Value} {d : List Pc} (h : OwnPc w user write x d) {q : Nat} {cs : Array Value} {Ty : TypeId} (hq : Blk w q cs Ty) (hu : Upd (fun k => k = q) w w') (hT : Ty ≠ 123) : OwnPc w' user write x d := h.updS hu (fun k hk e => own_ne h hq hT (e ▸ hk))
theorem OwnPc.upd3 {w W : World} {user write : Bool} {x : Value} {d : List Pc} {r m p g t : Nat} {v v' : Value} {l : List Int} {s : Ents} {T : Tab} (h : OwnPc W user write x d) (he : EnvQ w W r m p g t v l s T v') (a b c : Value) : OwnPc (((W.setCell ⟨r, 0, none⟩ a).setCell ⟨r, 1, none⟩ b).setCell ⟨r, 2, none⟩ c) user write x d := h.far he.rs (set3q (Upd.refl _ W) a b c) (by decide)
theorem Mmu.own {W W' : World} {m p g t n sz : Nat} {v x : Value} {l : List Int} {s : Ents} {T : Tab} {e : TypeId} {xs : List Value} (h : Mmu W m p g t v l s T) (ho : W.ownsRow 0 e sz x n xs) (hu : Upd (OB x) W W') (h1 : 107 ≠ e) (h2 : 102 ≠ e) (h3 : 5 ≠ e) (h4 : 132 ≠ e) (h5 : 136 ≠ e) : Mmu W' m p g t v l s T :=
  ⟨h.head.upd hu (own_ne ho h.head h1), h.ram.upd hu (own_ne ho h.ram.head h2) (own_ne ho h.ram.row h3), h.tlb.upd hu (own_ne ho h.tlb.head h4) (fun k hk => by
    obtain ⟨cur, hb⟩ := own_blk h.tlb.row k hk
    exact own_ne ho hb h5), h.tab⟩
theorem EnvQ.own {w W W' : World} {r m p g t n sz : Nat} {v v' x : Value} {l : List Int} {s : Ents} {T : Tab} {e : TypeId} {xs : List Value} (h : EnvQ w W r m p g t v l s T v') (ho : W.ownsRow 0 e sz x n xs) (hf : Fr w.heap.size x) (hu : Upd (OB x) W W') (h0 : 47 ≠ e) (h1 : 107 ≠ e) (h2 : 102 ≠ e) (h3 : 5 ≠ e) (h4 : 132 ≠ e) (h5 : 136 ≠ e) : EnvQ w W' r m p g t v l s T v' :=
  ⟨h.mm.own ho hu h1 h2 h3 h4 h5, h.rs.upd hu (own_ne ho h.rs h0), h.ge, h.up.trans hu (fun i hi hS => by have := hf i hS; omega), h.fr⟩
theorem info123 : (Try.prog.info? 123).map (fun i => (i.zero, i.size, i.bytes)) = some (some (.agg #[.int .u32 0, .bool false, .bool false, .int .u32 0, .int .i64 0]), 5, 24) := by kernel_rfl
def kF (va : Int) (n : Nat) : Nat := min n (512 - va % 512).toNat
def pcs (l : List Int) (T : Tab) (user write keep : Bool) : Nat → Int → Nat → Ents → List Pc × Flt × Ents
  | 0, _, _, s => ([], nof, s)
  | f + 1, va, n, s =>
    if n = 0 then ([], nof, s)
    else if (findF l s T va (kF va n) user write keep).2.1.k ≠ 0 then ([], (findF l s T va (kF va n) user write keep).2.1, (findF l s T va (kF va n) user write keep).2.2)
    else
      let q := pcs l T user write keep f ((va + kF va n) % 4294967296) (n - kF va n) (findF l s T va (kF va n) user write keep).2.2
      if q.2.1.k ≠ 0 then ([], q.2.1, q.2.2) else ((va, (findF l s T va (kF va n) user write keep).1, kF va n) :: q.1, nof, q.2.2)
def glue (d : List Pc) (q : List Pc × Flt × Ents) : List Pc × Flt × Ents := if q.2.1.k ≠ 0 then ([], q.2.1, q.2.2) else (d ++ q.1, nof, q.2.2)
theorem kF_pos {va : Int} {n : Nat} (hn : n ≠ 0) : 1 ≤ kF va n ∧ kF va n ≤ n ∧ kF va n ≤ 512 := by unfold kF; omega
theorem glue_stop (l : List Int) (T : Tab) (user write keep : Bool) (d : List Pc) (f : Nat) (va : Int) (s : Ents) : glue d (pcs l T user write keep f va 0 s) = (d, nof, s) := by
  cases f <;> simp [pcs, glue, nof]
theorem glue_bad (l : List Int) (T : Tab) (user write keep : Bool) (d : List Pc) (f n : Nat) (va : Int) (s : Ents) (hn : n ≠ 0) (h : (findF l s T va (kF va n) user write keep).2.1.k ≠ 0) :
    glue d (pcs l T user write keep (f + 1) va n s) = ([], (findF l s T va (kF va n) user write keep).2.1, (findF l s T va (kF va n) user write keep).2.2) := by
  rw [pcs, if_neg hn, if_pos h]
  unfold glue
  rw [if_pos h]
theorem glue_step (l : List Int) (T : Tab) (user write keep : Bool) (d : List Pc) (f n : Nat) (va : Int) (s : Ents) (hn : n ≠ 0) (h : (findF l s T va (kF va n) user write keep).2.1.k = 0) :
    glue d (pcs l T user write keep (f + 1) va n s) = glue (d ++ [(va, (findF l s T va (kF va n) user write keep).1, kF va n)]) (pcs l T user write keep f ((va + kF va n) % 4294967296) (n - kF va n) (findF l s T va (kF va n) user write keep).2.2) := by
  rw [pcs, if_neg hn, if_neg (by simpa using h)]
  simp only
  generalize pcs l T user write keep f ((va + kF va n) % 4294967296) (n - kF va n) (findF l s T va (kF va n) user write keep).2.2 = q
  unfold glue
  by_cases hq : q.2.1.k = 0
  · simp [hq, nof]
  · simp [hq]
theorem findF_nof (l : List Int) (s : Ents) (T : Tab) (va n : Int) (user write keep : Bool) (h : (findF l s T va n user write keep).2.1.k = 0) : (findF l s T va n user write keep).2.1 = nof := by
  have hfin : ∀ pa s, (finF l pa va n write s).2.1.k = 0 → (finF l pa va n write s).2.1 = nof := fun pa s h => by
    unfold finF at *
    split
    · rename_i hb; rw [if_pos hb] at h; simp [fltF] at h
    · rfl
  unfold findF at *
  by_cases he : T.e = 0
  · rw [if_pos he] at *; exact hfin _ _ h
  · rw [if_neg he] at *
    by_cases hk : (entryF l s T va user write keep).2.1.k ≠ 0
    · rw [if_pos hk] at *; exact absurd h hk
    · rw [if_neg hk] at *; exact hfin _ _ h
theorem pcs_norm (l : List Int) (T : Tab) (user write keep : Bool) (f n : Nat) (va : Int) (s : Ents) : glue [] (pcs l T user write keep f va n s) = pcs l T user write keep f va n s := by
  cases f with
  | zero => simp [pcs, glue, nof]
  | succ f =>
    rw [pcs]
    by_cases hn : n = 0
    · rw [if_pos hn]; simp [glue, nof]
    rw [if_neg hn]
    by_cases hk : (findF l s T va (kF va n) user write keep).2.1.k = 0
    · rw [if_neg (by simpa using hk)]
      simp only
      generalize pcs l T user write keep f ((va + kF va n) % 4294967296) (n - kF va n) (findF l s T va (kF va n) user write keep).2.2 = q
      by_cases hq : q.2.1.k = 0
      · simp [glue, hq, nof]
      · simp [glue, hq]
    · rw [if_pos hk]
      simp [glue, hk]
/-- Behind the search of one page. -/
theorem pieces_mid {w wr W2 : World} {r m p g t : Nat} {v v' x : Value} {l : List Int} {s s2 : Ents} {T : Tab} {user write : Bool} {d : List Pc} {cs : Array Value} (hE : EnvQ w wr r m p g t v l s T v') (hO : OwnPc wr user write x d)
    (hp : MPut ((wr.alloc (.cells cs 123)).alloc (.cells zf 47)) m p g t v' l s2 T W2) : ∃ v2,
    (∀ j, W2.cell? ⟨wr.heap.size, j, none⟩ = cs[j]?) ∧ (∀ j, W2.cell? ⟨wr.heap.size + 1, j, none⟩ = zf[j]?) ∧ (∀ j, W2.frozen? ⟨wr.heap.size, j, none⟩ = false) ∧ (∀ j, W2.frozen? ⟨wr.heap.size + 1, j, none⟩ = false) ∧
    (∀ j, W2.cell? ⟨r, j, none⟩ = zf[j]?) ∧ wr.heap.size + 1 < W2.heap.size ∧ r < wr.heap.size ∧ (∀ j, W2.frozen? ⟨r, j, none⟩ = false) ∧
    (∀ (a b c e : Value), EnvQ w ((((W2.setCell ⟨wr.heap.size, 3, none⟩ a).setCell ⟨wr.heap.size + 1, 0, none⟩ b).setCell ⟨wr.heap.size + 1, 1, none⟩ c).setCell ⟨wr.heap.size + 1, 2, none⟩ e) r m p g t v l s2 T v2) ∧
    (∀ (a b c e : Value), OwnPc ((((W2.setCell ⟨wr.heap.size, 3, none⟩ a).setCell ⟨wr.heap.size + 1, 0, none⟩ b).setCell ⟨wr.heap.size + 1, 1, none⟩ c).setCell ⟨wr.heap.size + 1, 2, none⟩ e) user write x d) ∧
    (∀ (a b c e : Value), Blk ((((W2.setCell ⟨wr.heap.size, 3, none⟩ a).setCell ⟨wr.heap.size + 1, 0, none⟩ b).setCell ⟨wr.heap.size + 1, 1, none⟩ c).setCell ⟨wr.heap.size + 1, 2, none⟩ e) wr.heap.size (cs.setIfInBounds 3 a) 123) ∧ ¬ OB x wr.heap.size := by
  have hE1 := hE.next (((Upd.refl (fun _ => False) wr).alloc (.cells cs 123)).alloc (.cells zf 47))
  obtain ⟨v2, hE2⟩ := hE1.put hp
  obtain ⟨_, hm, hU, _⟩ := hp
  have hb := (bA wr cs 123 (.cells zf 47)).upd hU (tf_ne hE1.mm.tlb (bA wr cs 123 (.cells zf 47)) (by decide) (by decide))
  have hf := (bR wr (.cells cs 123)).upd hU (tf_ne hE1.mm.tlb (bR wr (.cells cs 123)) (by decide) (by decide))
  have hO1 : OwnPc ((wr.alloc (.cells cs 123)).alloc (.cells zf 47)) user write x d := own_alloc (own_alloc hO _) _
  have hO2 := hO1.updS hU (own_tf hE1.mm.tlb hO1 (by decide) (by decide))
  have hrl : r < wr.heap.size := hE.rs.lt
  have hlo : ∀ k, OB x k → k < wr.heap.size := fun k hk => own_lt hO k hk
  have hu1 : ∀ a, Upd (fun k => k = wr.heap.size) W2 (W2.setCell ⟨wr.heap.size, 3, none⟩ a) := fun a => Upd.set1 _ _ _ _
  have hu2 : ∀ (a b c e : Value), Upd (fun k => k = wr.heap.size + 1) (W2.setCell ⟨wr.heap.size, 3, none⟩ a) ((((W2.setCell ⟨wr.heap.size, 3, none⟩ a).setCell ⟨wr.heap.size + 1, 0, none⟩ b).setCell ⟨wr.heap.size + 1, 1, none⟩ c).setCell ⟨wr.heap.size + 1, 2, none⟩ e) := fun a b c e => set3q (Upd.refl _ _) b c e
  refine ⟨v2, hb.cell, hf.cell, hb.frozen, hf.frozen, hE2.rs.cell, hf.lt, hrl, hE2.rs.frozen, fun a b c e => ?_, fun a b c e => ?_, fun a b c e => (hb.set 3 a).upd (hu2 a b c e) (by omega), fun h => by have := hlo _ h; omega⟩
  · have h1 := hE2.far hb hE.up.size (hu1 a) (.inl (by decide)) (by decide) (by decide) (by decide) (by decide) (by decide)
    have hf1 := hf.upd (hu1 a) (by omega)
    exact h1.far hf1 (by have := hE.up.size; omega) (hu2 a b c e) (.inr (by omega)) (by decide) (by decide) (by decide) (by decide) (by decide)
  · have h1 := hO2.updS (hu1 a) (fun k hk e => by have := hlo k hk; omega)
    exact h1.updS (hu2 a b c e) (fun k hk e => by have := hlo k hk; omega)
section
variable (m p g t : Nat) (v : Value) (l : List Int) (s : Ents) (T : Tab) (va : Int) (user write keep : Bool) (w : World)
theorem pieces_fn (n : Int) (hM : Mmu w m p g t v l s T) (h0 : 0 ≤ va) (h1 : va < 4294967296) (hn : n ≤ 1024) :
    Calls Try.prog 68 #[.pointer (some ⟨m, 0, none⟩), .int .u32 va, .int .i64 n, .bool user, .bool write, .bool keep] w fun e w' =>
      ∃ x, e = .returned (.tuple #[x, .agg (pcs l T user write keep n.toNat va n.toNat s).2.1.cells]) ∧ OwnPc w' user write x (pcs l T user write keep n.toNat va n.toNat s).1 ∧ Fr w.heap.size x ∧ MPut w m p g t v l (pcs l T user write keep n.toNat va n.toNat s).2.2 T w' := by
  have HE0 := Lib.hid (EnvQ.start hM)
  generalize hR : pcs l T user write keep n.toNat va n.toNat s = R
  have HR : Hid (R = glue [] (pcs l T user write keep n.toNat va n.toNat s)) := Lib.hid (by rw [pcs_norm]; exact hR.symm)
  have HI := Lib.hid (show (0 ≤ va ∧ va < 4294967296 ∧ n ≤ 1024 ∧ n.toNat ≤ n.toNat ∧ ([] : List Pc).length ≤ 1024 - n.toNat) from ⟨h0, h1, hn, Nat.le_refl _, by simp⟩)
  clear hM hR h0 h1 hn
  go_enter Try.func68, Try.ntmps68
  go_wp2
  go_loopw [1, 2, 14] (fun a b x W => ∃ (va' : Int) (n' : Int) (s' : Ents) (d : List Pc) (f : Nat) (v' : Value), a = .int .u32 va' ∧ b = .int .i64 n' ∧ Hid (0 ≤ va' ∧ va' < 4294967296 ∧ n' ≤ 1024 ∧ n'.toNat ≤ f ∧ d.length ≤ 1024 - n'.toNat) ∧ Hid (OwnPc W user write x d) ∧ Hid (Fr w.heap.size x) ∧ Hid (EnvQ w W w.heap.size m p g t v l s' T v') ∧ Hid (R = glue d (pcs l T user write keep f va' n'.toNat s'))) (fun _ b _ _ => (intOf b).toNat)
  case atStart => exact ⟨va, n, s, [], n.toNat, v, rfl, rfl, HI, Lib.hid ⟨rfl, .inl ⟨rfl, rfl⟩⟩, Lib.hid (Fr.nil _), HE0, HR⟩
  case round =>
    obtain ⟨va', n', s', d, f, v', rfl, rfl, HB, HO, HF, HE, HRR⟩ := hrel
    obtain ⟨c1, c2, c3, c4, c5⟩ := HE.out.facts
    simp only [mc, zf] at c1 c2
    by_cases hp : 0 < n'
    · obtain ⟨N, rfl⟩ := Int.eq_ofNat_of_zero_le (show 0 ≤ n' by omega)
      obtain ⟨b0, b1, b2, b3, b4⟩ := HB.out
      rw [Int.toNat_natCast] at HRR b3 b4
      obtain ⟨f, rfl⟩ : ∃ f', f = f' + 1 := ⟨f - 1, by omega⟩
      obtain ⟨K, hK⟩ : ∃ K, K = kF va' N := ⟨_, rfl⟩
      have hkp := kF_pos (va := va') (n := N) (by omega)
      rw [← hK] at hkp
      obtain ⟨k1, k2, k3⟩ := hkp
      obtain ⟨pa, fl, s2, hfd⟩ : ∃ pa fl s2, findF l s' T va' K user write keep = (pa, fl, s2) := ⟨_, _, _, rfl⟩
      have KF : Hid (∀ W, EnvQ w W w.heap.size m p g t v l s' T v' → Calls Try.prog 66 #[.pointer (some ⟨m, 0, none⟩), .agg #[.int .u32 va', .bool user, .bool write], .int .i64 K, .bool keep] W fun e w' =>
          e = .returned (.tuple #[.int .u32 pa, .agg fl.cells]) ∧ MPut W m p g t v' l s2 T w') := Lib.hid fun W h => by
        have := find_fn m p g t v' l s' T va' user write keep W K h.mm b0 b1 (by omega)
        rw [hfd] at this
        exact this
      have hmin : min (N : Int) (512 - va' % 512) = K := by rw [hK]; unfold kF; omega
      have HM : Hid (K = kF va' N ∧ N ≤ f + 1 ∧ d.length ≤ 1024 - N ∧ findF l s' T va' K user write keep = (pa, fl, s2)) := Lib.hid ⟨hK, b3, b4, hfd⟩
      have hNK : (K : Int) ≤ N := by omega
      have hK1 : (1 : Int) ≤ K := by omega
      have hK5 : (K : Int) ≤ 512 := by omega
      obtain ⟨fk, fv, fi⟩ := fl
      simp only [Flt.cells] at KF
      clear hK k1 k2 k3 hfd b3 b4 HB
      have hcase : (K = N ∧ (N : Int) ≤ 512 - va' % 512) ∨ (512 - va' % 512 = (K : Int) ∧ (K : Int) < N) := by omega
      clear hmin
      have hn1 := wr.heap.size
      have E2 := Lib.hid (fun (W2 : World) (o1 : MPut ((wr.alloc (.cells #[.int .u32 va', .bool user, .bool write, .int .u32 0, .int .i64 K] 123)).alloc (.cells zf 47)) m p g t v' l s2 T W2) => pieces_mid HE.out HO.out o1)
      rcases hcase with ⟨rfl, hA⟩ | ⟨hA, hB⟩
      all_goals
        go_wp2_with fail
        refine (KF.out _ (HE.out.next (((Upd.refl _ wr).alloc _).alloc _))).mono ?_
        rintro e w2 ⟨rfl, hp⟩
        obtain ⟨v2, x1, x2, x3, x4, x5, x6, x7, x8, x9, x10, x11, x12⟩ := E2.out w2 hp
        simp only [mc, zf] at x1 x2 x5
        have HX9 := Lib.hid x9
        have HX10 := Lib.hid x10
        have HX11 := Lib.hid x11
        have HX12 := Lib.hid x12
        have hx9s : wr.heap.size < w2.heap.size := by omega
        have hrw : w.heap.size < w2.heap.size := by omega
        clear hp x9 x10 x11 x12 E2 c1 c2 c3 c4 c5
        by_cases hk : fk = 0
        · subst hk
          have hfn : (⟨0, fv, fi⟩ : Flt) = nof := by
            have := findF_nof l s' T va' K user write keep (by rw [HM.out.2.2.2])
            rw [HM.out.2.2.2] at this
            exact this
          have HRN := HRR.out
          rw [glue_step l T user write keep d f _ va' s' (by omega) (by rw [← HM.out.1, HM.out.2.2.2]), ← HM.out.1, HM.out.2.2.2] at HRN
          simp only at HRN
          have HRN := Lib.hid HRN
          have hd : d.length ≤ 1024 := by have := HM.out.2.2.1; omega
          have HD := Lib.hid hd
          have HN := Lib.hid hfn
          clear hd hfn HRR
          go_wp2_with (at_builtin; go_must (refine wpList_app1 rfl (.tmp 45) (.tmp 47) 119 123 (.agg #[.int .u32 0, .bool false, .bool false, .int .u32 0, .int .i64 0]) 5 24 rfl Try.underlying119 info123 rfl (by decide) (by decide) u14 d.length (pcells user write d) [.int .u32 va', .bool user, .bool write, .int .u32 pa, .int .i64 K] w2.heap.size rfl rfl rfl ?_ ?_ ?_ ?_ ?_))
          · intro u hu
            simp at hu
            rcases hu with rfl | rfl | rfl | rfl | rfl <;> rfl
          · exact Blk.new_at _ _ (by simp) _ 123
          · exact own_alloc (HX10.out _ _ _ _) _
          · have := HD.out; omega
          · intro g' c' w5 own5 up5 hv5
            have hO4 := own_alloc (HX10.out (.int .u32 pa) (.int .i64 0) (.int .u32 fv) (.int .u32 fi)) (.cells #[.int .u32 va', .bool user, .bool write, .int .u32 pa, .int .i64 K] 123)
            have hE5 := ((HX9.out (.int .u32 pa) (.int .i64 0) (.int .u32 fv) (.int .u32 fi)).next ((Upd.refl _ _).alloc (.cells #[.int .u32 va', .bool user, .bool write, .int .u32 pa, .int .i64 K] 123))).own hO4 HF.out up5 (by decide) (by decide) (by decide) (by decide) (by decide) (by decide)
            have hpb := ((HX11.out (.int .u32 pa) (.int .i64 0) (.int .u32 fv) (.int .u32 fi)).alloc (.cells #[.int .u32 va', .bool user, .bool write, .int .u32 pa, .int .i64 K] 123)).upd up5 HX12.out
            have HE5 := Lib.hid hE5
            have y1 : w5.cell? ⟨wr.heap.size, 4, none⟩ = some (.int .i64 K) := hpb.cell 4
            have y2 := hpb.lt
            have HO5 : Hid (OwnPc w5 user write (.slice (some ⟨g', 0, none⟩) (d.length + 1) c') (d ++ [(va', pa, K)])) := Lib.hid (by
              unfold OwnPc
              rw [pcells_app, List.length_append]
              exact own5)
            have HF5 : Hid (Fr w.heap.size (.slice (some ⟨g', 0, none⟩) (d.length + 1) c')) := Lib.hid (fun k hk => by
              have hk' : g' = k := by simpa [OB, Value.ownBlock] using hk
              subst hk'
              rcases hv5 with h | h
              · exact HF.out _ h
              · have h1 := hE5.up.size
                have h2 : w2.heap.size + 1 ≤ g' := by simpa using h
                omega)
            clear own5 up5 hv5 hE5 hpb hO4 x1 x2 x3 x4 x5 x6 x7 x8 hx9s hrw
            go_wp2_with fail
            go_quiet (fail)
            go_wp2_with fail
            have hm1 := HM.out.2.1
            have hm2 := HM.out.2.2.1
            refine ⟨⟨_, _, s2, d ++ [(va', pa, K)], f, v2, rfl, rfl, Lib.hid ⟨?_, ?_, ?_, ?_, ?_⟩, Lib.hid (HO5.out.updS ((Upd.refl (fun _ => False) _).drewN _) (fun _ _ => id)), HF5, Lib.hid (HE5.out.next ((Upd.refl _ _).drewN _)), Lib.hid ?_⟩, ?_⟩
            · omega
            · omega
            · omega
            · omega
            · rw [List.length_append, List.length_singleton]; omega
            · have h := HRN.out
              first
                | (rw [Nat.sub_self] at h; exact h)
                | (rw [show ((N : Int) - (K : Int)).toNat = N - K from by omega]; exact h)
            · simp [intOf]; omega
        · have hk' : (fk != 0) = true := by simpa using hk
          have hres : R = ([], ⟨fk, fv, fi⟩, s2) := by
            have := HRR.out
            rw [glue_bad l T user write keep d f _ va' s' (by omega) (by rw [← HM.out.1, HM.out.2.2.2]; exact hk), ← HM.out.1, HM.out.2.2.2] at this
            exact this
          subst hres
          clear hk
          go_wp2_with fail
          go_region
          all_goals go_wp2_with fail
          all_goals exact bodyPost_ret (v := .tuple #[_, _]) (by simp [results, Try.results68, go_sem, Flt.cells, x5, x6, x8, hrw]) rfl ⟨_, rfl, ⟨rfl, .inl ⟨rfl, rfl⟩⟩, Fr.nil _, ((HX9.out _ _ _ _).end_ _ _ _).then (Upd.refl _ _).drew⟩
    · have hp' : n' ≤ 0 := by omega
      have hres : R = (d, nof, s') := by
        have := HRR.out
        rw [show n'.toNat = 0 by omega, glue_stop] at this
        exact this
      subst hres
      go_wp2
      exact bodyPost_ret (v := .tuple #[_, _]) (by simp [results, Try.results68, go_sem, Flt.cells, nof, c2, c4, c5]) rfl ⟨_, rfl, HO.out.upd3 HE.out _ _ _, HF.out, HE.out.end_ _ _ _⟩
end
end Go.Proofs.Ytomiodlipibloaa.F
