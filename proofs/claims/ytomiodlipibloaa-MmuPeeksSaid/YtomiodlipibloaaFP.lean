/- Bytes behind tables: asked for, loaded. -/
import Derived.Test.YtomiodlipibloaaFO
namespace Go.Proofs.Ytomiodlipibloaa.F
set_option linter.unusedVariables false
set_option linter.unusedSimpArgs false
set_option maxHeartbeats 2000000
set_option maxRecDepth 20000
open Go.RowKit
theorem findF_ok (l : List Int) (s : Ents) (T : Tab) (va : Int) (n : Nat) (user write keep : Bool) (hs : Fit s) (hl : Byt l) (h0 : 0 ≤ va) (h1 : va < 4294967296) (h : (findF l s T va n user write keep).2.1.k = 0) :
    0 ≤ (findF l s T va n user write keep).1 ∧ (findF l s T va n user write keep).1 + n ≤ l.length ∧ (findF l s T va n user write keep).1 < 4294967296 := by
  have hfin : ∀ pa s, 0 ≤ pa → pa < 4294967296 → (finF l pa va n write s).2.1.k = 0 → 0 ≤ (finF l pa va n write s).1 ∧ (finF l pa va n write s).1 + n ≤ l.length ∧ (finF l pa va n write s).1 < 4294967296 := fun pa s hp hp1 h => by
    unfold finF at *
    split
    · rename_i hb; rw [if_pos hb] at h; simp [fltF] at h
    · rename_i hb; simp only; omega
  unfold findF at *
  by_cases he : T.e = 0
  · rw [if_pos he] at *; exact hfin _ _ h0 h1 h
  · rw [if_neg he] at *
    by_cases hk : (entryF l s T va user write keep).2.1.k ≠ 0
    · rw [if_pos hk] at *; exact absurd h hk
    · rw [if_neg hk] at *
      have hx := entryF_fit l s T va user write keep hs hl
      have hp := placeF_bd _ va hx.1 h0
      exact hfin _ _ hp.1 (by omega) h
theorem chkF_fit (s : Ents) (x va : Int) (is user write keep : Bool) (hs : Fit s) (hx : U32 x) (h0 : 0 ≤ va) (h1 : va < 4294967296) : Fit (chkF s x va is user write keep).2.2 := by
  unfold chkF
  split
  · exact hs
  split
  · exact hs
  · simp only
    split
    · exact fit_put s _ _ hs (by omega) (by omega) hx.1 hx.2
    · exact hs
theorem findF_fit (l : List Int) (s : Ents) (T : Tab) (va n : Int) (user write keep : Bool) (hs : Fit s) (hl : Byt l) (h0 : 0 ≤ va) (h1 : va < 4294967296) : Fit (findF l s T va n user write keep).2.2 := by
  have he : Fit (entryF l s T va user write keep).2.2 := by
    unfold entryF
    split
    · exact chkF_fit _ _ _ _ _ _ _ hs (getE_fit s _ hs) h0 h1
    split
    · exact hs
    split
    · exact hs
    · exact chkF_fit _ _ _ _ _ _ _ hs (getF_fit l _ hl) h0 h1
  have hfin : ∀ pa s, Fit s → Fit (finF l pa va n write s).2.2 := fun pa s h => by unfold finF; split <;> exact h
  unfold findF
  split
  · exact hfin _ _ hs
  split
  · exact he
  · exact hfin _ _ he
/-- A piece lies in the memory. -/
def PcOk (l : List Int) (x : Pc) : Prop := (0 ≤ x.1 ∧ x.1 < 4294967296) ∧ 0 ≤ x.2.1 ∧ x.2.1 + x.2.2 ≤ l.length ∧ x.2.1 < 4294967296 ∧ x.2.2 ≤ 512
theorem pcs_ok (l : List Int) (T : Tab) (user write keep : Bool) (hl : Byt l) : ∀ (f n : Nat) (va : Int) (s : Ents), Fit s → 0 ≤ va → va < 4294967296 → ∀ x ∈ (pcs l T user write keep f va n s).1, PcOk l x
  | 0, _, _, _, _, _, _, x, hx => by simp [pcs] at hx
  | f + 1, n, va, s, hs, h0, h1, x, hx => by
    rw [pcs] at hx
    by_cases hn : n = 0
    · rw [if_pos hn] at hx; simp at hx
    rw [if_neg hn] at hx
    by_cases hk : (findF l s T va (kF va n) user write keep).2.1.k ≠ 0
    · rw [if_pos hk] at hx; simp at hx
    rw [if_neg hk] at hx
    simp only at hx
    have hk' : (findF l s T va (kF va n) user write keep).2.1.k = 0 := by simpa using hk
    have hok := findF_ok l s T va (kF va n) user write keep hs hl h0 h1 hk'
    have hft := findF_fit l s T va (kF va n) user write keep hs hl h0 h1
    have ih := pcs_ok l T user write keep hl f (n - kF va n) ((va + kF va n) % 4294967296) _ hft (by omega) (by omega)
    split at hx
    · simp at hx
    · simp only [List.mem_cons] at hx
      rcases hx with rfl | hx
      · exact ⟨⟨h0, h1⟩, hok.1, hok.2.1, hok.2.2, (kF_pos hn).2.2⟩
      · exact ih x hx
theorem pcs_len (l : List Int) (T : Tab) (user write keep : Bool) : ∀ (f n : Nat) (va : Int) (s : Ents), (pcs l T user write keep f va n s).1.length ≤ n
  | 0, _, _, _ => by simp [pcs]
  | f + 1, n, va, s => by
    rw [pcs]
    by_cases hn : n = 0
    · rw [if_pos hn]; simp
    rw [if_neg hn]
    split
    · simp
    simp only
    have ih := pcs_len l T user write keep f (n - kF va n) ((va + kF va n) % 4294967296) (findF l s T va (kF va n) user write keep).2.2
    have := kF_pos (va := va) hn
    split
    · simp
    · simp only [List.length_cons]; omega
theorem pc_cell (user write : Bool) : ∀ (d : List Pc) (k : Nat), k < d.length → ∀ j, j < 5 → (pcells user write d)[k * 5 + j]? = (#[.int .u32 (d.getD k (0, 0, 0)).1, .bool user, .bool write, .int .u32 (d.getD k (0, 0, 0)).2.1, .int .i64 ((d.getD k (0, 0, 0)).2.2 : Int)] : Array Value)[j]?
  | x :: r, 0, _, j, hj => by
    rw [Nat.zero_mul, Nat.zero_add]
    match j, hj with
    | 0, _ => rfl
    | 1, _ => rfl
    | 2, _ => rfl
    | 3, _ => rfl
    | 4, _ => rfl
  | x :: r, k + 1, h, j, hj => by
    have := pc_cell user write r k (by simpa using h) j hj
    rw [show (k + 1) * 5 + j = (k * 5 + j) + 1 + 1 + 1 + 1 + 1 by omega, pcells, List.getElem?_cons_succ, List.getElem?_cons_succ, List.getElem?_cons_succ, List.getElem?_cons_succ, List.getElem?_cons_succ, this]
    simp [List.getD]
theorem OwnPc.cells {w : World} {user write : Bool} {g c : Nat} {d : List Pc} (h : OwnPc w user write (.slice (some ⟨g, 0, none⟩) d.length c) d) {k : Nat} (hk : k < d.length) :
    w.cell? ⟨g, k * 5, none⟩ = some (.int .u32 (d.getD k (0, 0, 0)).1) ∧ w.cell? ⟨g, k * 5 + 1, none⟩ = some (.bool user) ∧ w.cell? ⟨g, k * 5 + 2, none⟩ = some (.bool write) ∧ w.cell? ⟨g, k * 5 + 3, none⟩ = some (.int .u32 (d.getD k (0, 0, 0)).2.1) ∧ w.cell? ⟨g, k * 5 + 4, none⟩ = some (.int .i64 ((d.getD k (0, 0, 0)).2.2 : Int)) := by
  have key : ∀ j, j < 5 → w.cell? ⟨g, k * 5 + j, none⟩ = (#[.int .u32 (d.getD k (0, 0, 0)).1, .bool user, .bool write, .int .u32 (d.getD k (0, 0, 0)).2.1, .int .i64 ((d.getD k (0, 0, 0)).2.2 : Int)] : Array Value)[j]? := fun j hj => by
    rw [own_cell h (k * 5 + j) (by omega), pc_cell user write d k hk j hj]
  exact ⟨key 0 (by decide), key 1 (by decide), key 2 (by decide), key 3 (by decide), key 4 (by decide)⟩
theorem OwnPc.out {w : World} {user write : Bool} {x : Value} {d : List Pc} (h : OwnPc w user write x d) : ∃ ao c, x = .slice ao d.length c ∧ (0 < d.length → ∃ g, ao = some ⟨g, 0, none⟩) := by
  rcases h.2 with ⟨rfl, h0⟩ | ⟨g, cap, cur, rfl, _⟩
  · exact ⟨none, 0, by rw [h0], fun hp => by omega⟩
  · exact ⟨_, cap, rfl, fun _ => ⟨g, rfl⟩⟩
theorem OwnPc.lt {w : World} {user write : Bool} {g n c : Nat} {d : List Pc} (h : OwnPc w user write (.slice (some ⟨g, 0, none⟩) n c) d) : g < w.heap.size := own_lt h g rfl
theorem OwnB.zero {w : World} {b : Nat} {x : Value} {bl : List Int} (h : OwnB w b x bl) : w.ownsRow 0 5 1 x bl.length (bc bl) := by
  obtain ⟨h1, h2⟩ := h
  exact ⟨h1, h2.imp id (fun ⟨g, cap, cur, a, b, c⟩ => ⟨g, cap, cur, a, Nat.zero_le _, c⟩)⟩
theorem OwnB.geq {w : World} {b : Nat} {x : Value} {bl : List Int} (h : OwnB w b x bl) : ∀ k, OB x k → b ≤ k := fun q hq => by
  obtain ⟨_, _, _, _, _, hh⟩ := h.slice
  exact (hh q hq).1
theorem EnvQ.ownB {w W W' : World} {r m p g t : Nat} {v v' x : Value} {l bl : List Int} {s : Ents} {T : Tab} (h : EnvQ w W r m p g t v l s T v') (ho : OwnB W w.heap.size x bl) (hu : Upd (OB x) W W') (hg : g < w.heap.size) : EnvQ w W' r m p g t v l s T v' := by
  have hz := OwnB.zero ho
  have hge := OwnB.geq ho
  refine ⟨⟨h.mm.head.upd hu (own_ne hz h.mm.head (by decide)), h.mm.ram.upd hu (own_ne hz h.mm.ram.head (by decide)) (fun e => by have := hge _ e; omega), h.mm.tlb.upd hu (own_ne hz h.mm.tlb.head (by decide)) (fun k hk => ?_), h.mm.tab⟩,
    h.rs.upd hu (own_ne hz h.rs (by decide)), h.ge, h.up.trans hu (fun i hi hS => by have := hge i hS; omega), h.fr⟩
  obtain ⟨cur, hb⟩ := own_blk h.mm.tlb.row k hk
  exact own_ne hz hb (by decide)
section
variable (m p g t : Nat) (v : Value) (l : List Int) (s : Ents) (T : Tab) (va : Int) (user write : Bool) (w : World)
theorem probe_fn (n : Int) (hM : Mmu w m p g t v l s T) (h0 : 0 ≤ va) (h1 : va < 4294967296) (hn : n ≤ 1024) :
    Calls Try.prog 35 #[.pointer (some ⟨m, 0, none⟩), .int .u32 va, .int .i64 n, .bool user, .bool write] w fun e w' =>
      e = .returned (.agg (pcs l T user write true n.toNat va n.toNat s).2.1.cells) ∧ MPut w m p g t v l (pcs l T user write true n.toNat va n.toNat s).2.2 T w' := by
  have HE0 := Lib.hid (EnvQ.start hM)
  have KP : Hid (∀ W, EnvQ w W w.heap.size m p g t v l s T v → Calls Try.prog 68 #[.pointer (some ⟨m, 0, none⟩), .int .u32 va, .int .i64 n, .bool user, .bool write, .bool true] W fun e w' =>
      ∃ x, e = .returned (.tuple #[x, .agg (pcs l T user write true n.toNat va n.toNat s).2.1.cells]) ∧ OwnPc w' user write x (pcs l T user write true n.toNat va n.toNat s).1 ∧ Fr W.heap.size x ∧ MPut W m p g t v l (pcs l T user write true n.toNat va n.toNat s).2.2 T w') := Lib.hid fun W h => pieces_fn m p g t v l s T va user write true W n h.mm h0 h1 hn
  generalize pcs l T user write true n.toNat va n.toNat s = R at *
  obtain ⟨d, ⟨fk, fv, fi⟩, s'⟩ := R
  simp only [Flt.cells] at *
  clear hM h0 h1 hn
  go_enter Try.func35, Try.ntmps35
  go_wp2_with (go_at_call 68; refine (KP.out _ HE0.out).mono ?_; rintro e w2 ⟨x, rfl, ho, hf, hp⟩; obtain ⟨v2, hE2⟩ := HE0.out.put hp; have HE2 := Lib.hid hE2; clear hp ho hf hE2; obtain ⟨e1, e2, e3, e4, e5⟩ := HE2.out.facts; simp only [mc, zf] at e1 e2)
  exact bodyPost_ret (v := .agg #[_, _, _]) (by simp [results, Try.results35, go_sem, e2, e4, e5]) rfl ⟨rfl, by first | exact (HE2.out.end_ _ _ _).then ((Upd.refl _ _).alloc _) | exact (HE2.out.next ((Upd.refl _ _).alloc _)).end_ _ _ _⟩
/-- The bytes of pieces. -/
def loadF (l : List Int) (d : List Pc) : List Int := d.flatMap (fun x => (btsF l x.2.1 x.2.2).1)
theorem loadF_snoc (l : List Int) (d : List Pc) (k : Nat) (hk : k < d.length) : loadF l (d.take (k + 1)) = loadF l (d.take k) ++ (btsF l (d.getD k (0, 0, 0)).2.1 (d.getD k (0, 0, 0)).2.2).1 := by
  unfold loadF
  rw [List.take_succ_eq_append_getElem hk, List.flatMap_append]
  congr 1
  simp [List.getD, hk]
def tot (d : List Pc) : Nat := (d.map (·.2.2)).sum
theorem tot_take : ∀ (d : List Pc) (k : Nat), tot (d.take k) ≤ tot d
  | [], k => by simp
  | x :: r, 0 => by simp [tot]
  | x :: r, k + 1 => by
    have := tot_take r k
    simp only [tot, List.take_succ_cons, List.map_cons, List.sum_cons] at this ⊢
    omega
theorem pcs_tot (l : List Int) (T : Tab) (user write keep : Bool) : ∀ (f n : Nat) (va : Int) (s : Ents), tot (pcs l T user write keep f va n s).1 ≤ n
  | 0, _, _, _ => by simp [pcs, tot]
  | f + 1, n, va, s => by
    rw [pcs]
    by_cases hn : n = 0
    · rw [if_pos hn]; simp [tot]
    rw [if_neg hn]
    split
    · simp [tot]
    simp only
    have ih := pcs_tot l T user write keep f (n - kF va n) ((va + kF va n) % 4294967296) (findF l s T va (kF va n) user write keep).2.2
    have := kF_pos (va := va) hn
    split
    · simp [tot]
    · simp only [tot, List.map_cons, List.sum_cons] at ih ⊢; omega
theorem btsF_len (l : List Int) (xp : Int) (xn : Nat) : ((btsF l xp xn).1).length ≤ xn := by
  unfold btsF
  split
  · simp only [List.length_take]; rw [Int.toNat_natCast]; omega
  · simp
theorem loadF_len (l : List Int) : ∀ (d : List Pc), (loadF l d).length ≤ tot d
  | [] => by simp [loadF]
  | x :: r => by
    have ih := loadF_len l r
    have := btsF_len l x.2.1 x.2.2
    simp only [loadF, tot, List.flatMap_cons, List.length_append, List.map_cons, List.sum_cons] at ih ⊢
    omega
theorem load_fn (n : Int) (hM : Mmu w m p g t v l s T) (h0 : 0 ≤ va) (h1 : va < 4294967296) (hn : n ≤ 1024) :
    Calls Try.prog 34 #[.pointer (some ⟨m, 0, none⟩), .int .u32 va, .int .i64 n, .bool user] w fun e w' =>
      ∃ x, e = .returned (.tuple #[x, .agg (pcs l T user false true n.toNat va n.toNat s).2.1.cells]) ∧ OwnB w' w.heap.size x (loadF l (pcs l T user false true n.toNat va n.toNat s).1) ∧ MPut w m p g t v l (pcs l T user false true n.toNat va n.toNat s).2.2 T w' := by
  have HE0 := Lib.hid (EnvQ.start hM)
  have HG := Lib.hid hM.ram.row.lt
  have KP : Hid (∀ W, EnvQ w W w.heap.size m p g t v l s T v → Calls Try.prog 68 #[.pointer (some ⟨m, 0, none⟩), .int .u32 va, .int .i64 n, .bool user, .bool false, .bool true] W fun e w' =>
      ∃ x, e = .returned (.tuple #[x, .agg (pcs l T user false true n.toNat va n.toNat s).2.1.cells]) ∧ OwnPc w' user false x (pcs l T user false true n.toNat va n.toNat s).1 ∧ Fr W.heap.size x ∧ MPut W m p g t v l (pcs l T user false true n.toNat va n.toNat s).2.2 T w') := Lib.hid fun W h => pieces_fn m p g t v l s T va user false true W n h.mm h0 h1 hn
  have hok := pcs_ok l T user false true hM.ram.byt n.toNat n.toNat va s hM.tlb.fit h0 h1
  have hdl := pcs_len l T user false true n.toNat n.toNat va s
  have htot := pcs_tot l T user false true n.toNat n.toNat va s
  have htot2 : tot (pcs l T user false true n.toNat va n.toNat s).1 ≤ 1024 := by omega
  have hdl2 : (pcs l T user false true n.toNat va n.toNat s).1.length ≤ 1024 := by omega
  generalize pcs l T user false true n.toNat va n.toNat s = R at *
  obtain ⟨d, ⟨fk, fv, fi⟩, s'⟩ := R
  simp only [Flt.cells] at *
  have HOK := Lib.hid hok
  have HDL := Lib.hid htot2
  have hd' : (d.length : Int) ≤ 1024 := by omega
  clear hM h0 h1 hn hok hdl hdl2 htot htot2
  go_enter Try.func34, Try.ntmps34
  go_wp2_with (go_at_call 68; refine (KP.out _ HE0.out).mono ?_; rintro e w2 ⟨x, rfl, ho, hf, hp⟩; obtain ⟨v2, hE2⟩ := HE0.out.put hp; have HE2 := Lib.hid hE2; have HO := Lib.hid ho; obtain ⟨ao, c, rfl, hg⟩ := ho.out; clear hp ho hf hE2; obtain ⟨e1, e2, e3, e4, e5⟩ := HE2.out.facts; simp only [mc, zf] at e1 e2)
  clear e1 e2 e3 e4 e5
  go_loopw [12, 31] (fun o i W => ∃ k : Nat, k ≤ d.length ∧ i = .int .i64 k ∧ Hid (EnvQ w W w.heap.size m p g t v l s' T v2) ∧ Hid (OwnPc W user false (.slice ao d.length c) d) ∧ Hid (Blk W w2.heap.size #[.int .i64 fk, .int .u32 fv, .int .u32 fi] 47) ∧ Hid (OwnB W w.heap.size o (loadF l (d.take k)))) (fun _ i _ => d.length - (intOf i).toNat)
  case atStart => exact ⟨0, Nat.zero_le _, rfl, Lib.hid (HE2.out.next ((Upd.refl _ _).alloc _)), Lib.hid (HO.out.updS ((Upd.refl (fun _ => False) _).alloc _) (fun _ _ => id)), Lib.hid (Blk.new _ _ _), Lib.hid (OwnB.none _ _)⟩
  case round =>
    obtain ⟨k, hk, rfl, HE, HOW, HFB, HOB⟩ := hrel
    obtain ⟨e1, e2, e3, e4, e5⟩ := HE.out.facts
    simp only [mc, zf] at e1 e2
    by_cases hlt : k < d.length
    · obtain ⟨g9, rfl⟩ := hg (by omega)
      obtain ⟨p0, p1, p2, p3, p4⟩ := HOW.out.cells hlt
      have hgl := HOW.out.lt
      have hx := HOK.out _ (show d.getD k (0, 0, 0) ∈ d by rw [List.getD_eq_getElem?_getD, List.getElem?_eq_getElem hlt]; exact List.getElem_mem hlt)
      have hsn := loadF_snoc l d k hlt
      have hlen1 := loadF_len l (d.take (k + 1))
      have hlen2 := tot_take d (k + 1)
      obtain ⟨⟨xa, xp, xn⟩, hxe⟩ : ∃ y : Pc, d.getD k (0, 0, 0) = y := ⟨_, rfl⟩
      rw [hxe] at p0 p3 p4 hx hsn
      simp only at p0 p3 p4 hsn
      rw [hsn, List.length_append] at hlen1
      obtain ⟨⟨q0, q1⟩, q2, q3, q4, q5⟩ := hx
      simp only at q0 q1 q2 q3 q4 q5
      have hq5 : (xn : Int) ≤ 100000 := by omega
      have KB : Hid (∀ W, EnvQ w W w.heap.size m p g t v l s' T v2 → Calls Try.prog 37 #[.pointer (some ⟨p, 0, none⟩), .int .u32 xp, .int .i64 xn] W (Bts W (btsF l xp xn))) := Lib.hid fun W h => rbytes_any p g l W xp xn h.mm.ram q2 q4 hq5
      have HSN := Lib.hid hsn
      have HL := Lib.hid (show (loadF l (d.take k)).length + (btsF l xp xn).1.length ≤ 100000 by have := HDL.out; omega)
      clear hq5 hsn hlen1 hlen2 hxe q0 q1 q2 q3 q4 q5
      generalize btsF l xp xn = bb at *
      obtain ⟨bl, be⟩ := bb
      have HU0 := Lib.hid ((((Upd.refl (fun _ => False) wr).alloc (.cells #[.int .u32 xa, .bool user, .bool false, .int .u32 xp, .int .i64 xn] 123))).drew)
      have HB0 := Lib.hid (Blk.new wr #[.int .u32 xa, .bool user, .bool false, .int .u32 xp, .int .i64 xn] 123)
      have n0 : wr.heap.size ≠ m := by omega
      go_wp2_with fail
      go_region_held3 (fun w' => w'.cell? ⟨m, 0, none⟩ = some (.pointer (some ⟨p, 0, none⟩)) ∧ w'.cell? ⟨wr.heap.size, 3, none⟩ = some (.int .u32 xp) ∧ w'.cell? ⟨wr.heap.size, 4, none⟩ = some (.int .i64 xn)) (go_keep)
        (first
        | (go_at_call 37
           refine (KB.out _ (HE.out.next HU0.out)).mono ?_
           rintro e w4 ⟨x4, rfl, ho, hu⟩
           have HU4 := Lib.hid (HU0.out.then hu)
           have hb4 := (HB0.out.drew).upd hu id
           have k3 : w4.cell? ⟨wr.heap.size, 3, none⟩ = some (.int .u32 xp) := hb4.cell 3
           have k4 : w4.cell? ⟨wr.heap.size, 4, none⟩ = some (.int .i64 xn) := hb4.cell 4
           have k0 : w4.cell? ⟨m, 0, none⟩ = some (.pointer (some ⟨p, 0, none⟩)) := (HE.out.next (HU0.out.then hu)).mm.head.cell 0
           obtain ⟨xb, xc, rfl, hxc, hxr, hxk⟩ := ho.slice
           have HN4 := Lib.hid (OwnB.nonil ho)
           have HR4 := Lib.hid hxr
           clear ho hu hb4 hxc hxr hxk))
      go_wp2_with (at_builtin; go_must (refine wpList_appB rfl (.tmp 47) (.tmp 48) rfl u12 w.heap.size (loadF l (d.take k)) bl xb xc rfl rfl HN4.out HR4.out (HOB.out.upd HU4.out (fun _ _ => id)) ?_ HL.out ?_))
      · have h1 := (HE.out.next HU4.out).up.size
        exact h1
      · intro v6 w6 own6 up6 hv6
        have hob := HOB.out.upd HU4.out (fun _ _ => id)
        have HE6 := Lib.hid ((HE.out.next HU4.out).ownB hob up6 HG.out)
        have HO6 := Lib.hid ((HOW.out.updS HU4.out (fun _ _ => id)).updS up6 (fun q hq h => by
          obtain ⟨cur, hb⟩ := own_blk (HOW.out.updS HU4.out (fun _ _ => id)) q hq
          exact own_ne (OwnB.zero hob) hb (by decide) h))
        have HF6 := Lib.hid ((HFB.out.upd HU4.out id).upd up6 (own_ne (OwnB.zero hob) (HFB.out.upd HU4.out id) (by decide)))
        have HB6 : Hid (OwnB w6 w.heap.size v6 (loadF l (d.take (k + 1)))) := Lib.hid (by rw [HSN.out]; exact own6)
        clear own6 up6 hv6 hob
        go_wp2_with fail
        exact ⟨⟨k + 1, hlt, by go_num, HE6, HO6, HF6, HB6⟩, by simp [intOf]; omega⟩
    · obtain rfl : k = d.length := by omega
      rw [List.take_length] at HOB
      have f1 := HFB.out.cell 0
      have f2 := HFB.out.cell 1
      have f3 := HFB.out.cell 2
      have f4 := HFB.out.lt
      have hne : w2.heap.size ≠ w.heap.size := by have := HE2.out.rs.lt; omega
      go_wp2_with fail
      go_region
      all_goals go_wp2_with fail
      all_goals exact bodyPost_ret (v := .tuple #[u12, _]) (by simp [results, Try.results34, go_sem, e2, e4, e5]) rfl ⟨_, rfl, (HOB.out.upd (set3q (Upd.refl _ wr) _ _ _) (S := fun k => k = w.heap.size) (fun q hq h => own_ne (OwnB.zero HOB.out) HE.out.rs (by decide) (h ▸ hq))).drew, (HE.out.end_ _ _ _).then (Upd.refl _ _).drew⟩
end
end Go.Proofs.Ytomiodlipibloaa.F
