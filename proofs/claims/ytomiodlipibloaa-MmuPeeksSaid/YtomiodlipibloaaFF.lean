/- The memories: made, filled, read. -/
import Derived.Test.YtomiodlipibloaaFE
import Derived.Lib.SliceRun
import Derived.Laws.OwnMore
namespace Go.Proofs.Ytomiodlipibloaa.F
set_option linter.unusedVariables false
set_option linter.unusedSimpArgs false
set_option maxHeartbeats 1000000
set_option maxRecDepth 20000
open Go.RowKit
theorem splice_bc (l b : List Int) (A : Nat) (h : A + b.length ≤ l.length) : splice (bc l) A (bc b) = bc (wrt l A b) := by
  rw [wrt_splice b l A h]
  simp [splice, bc, List.map_take, List.map_drop]
theorem bc_one (l : List Int) : ∀ v ∈ bc l, v.oneCell' = true := fun v hv => by
  simp only [bc, List.mem_map] at hv
  obtain ⟨_, _, rfl⟩ := hv
  rfl
theorem RdB.add {w : World} {ao : Option Addr} {l : List Int} (h : RdB w ao l) (h0 : 0 < l.length) : ∃ ad, ao = some ad ∧ ∀ j v, (bc l)[j]? = some v → w.cell? (ad.add j) = some v := by
  obtain ⟨b, o, rfl, _⟩ := h 0 h0
  refine ⟨_, rfl, fun j v hj => ?_⟩
  have hjl : j < l.length := by
    rcases Nat.lt_or_ge j l.length with h' | h'
    · exact h'
    · simp [bc, h'] at hj
  obtain ⟨b', o', e, _, hc⟩ := h j hjl
  cases e
  rw [show (⟨b, o, none⟩ : Addr).add j = ⟨b, o + j, none⟩ by unfold Addr.add; split <;> simp_all, hc]
  simp [bc, hjl] at hj
  rw [← hj]
  simp [List.getD, hjl]
/-- An empty row of one's own, made in a region, perhaps next to another block. -/
theorem nilA (X : World) : OwnB (X.alloc (.cells #[] 5)) X.heap.size (.slice (some ⟨X.heap.size, 0, none⟩) 0 0) [] := OwnB.of_blk (l := []) (Blk.new X _ 5) (Nat.le_refl _) (by simp)
theorem nilB (X : World) (o : Obj) : OwnB ((X.alloc o).alloc (.cells #[] 5)) X.heap.size (.slice (some ⟨X.heap.size + 1, 0, none⟩) 0 0) [] := by
  have := nilA (X.alloc o)
  rw [World.size_alloc] at this
  exact OwnB.low this (by omega)
theorem nilC (X : World) (o : Obj) : OwnB ((X.alloc (.cells #[] 5)).alloc o) X.heap.size (.slice (some ⟨X.heap.size, 0, none⟩) 0 0) [] := (nilA X).upd ((Upd.refl (fun _ => False) _).alloc _) (fun _ _ => id)
theorem notOB (g g' c n : Nat) (h : g ≠ g') : ¬ OB (.slice (some ⟨g, 0, none⟩) n c) g' := fun hh => by
  simp only [OB, Value.ownBlock, Option.some.injEq] at hh; omega
theorem geOB {b g c n : Nat} (h : b ≤ g) : ∀ k, OB (.slice (some ⟨g, 0, none⟩) n c) k → b ≤ k := fun k hh => by
  simp only [OB, Value.ownBlock, Option.some.injEq] at hh; omega
theorem OwnB.ge {w : World} {b : Nat} {v : Value} {l : List Int} (h : OwnB w b v l) : ∀ k, OB v k → b ≤ k := fun k hk => by
  obtain ⟨_, _, _, _, _, hh⟩ := h.slice
  exact (hh k hk).1
theorem OwnB.fresh {w : World} {b : Nat} {v : Value} {l : List Int} (h : OwnB w b v l) : ¬ OB v w.heap.size := fun hk => by
  obtain ⟨_, _, _, _, _, hh⟩ := h.slice
  have := (hh _ hk).2
  omega
section
variable (p g : Nat) (l b : List Int) (ao : Option Addr) (c : Nat) (w : World)
def ldF (l b : List Int) (at_ : Int) : List Int := if thr l.length at_ b.length = true then wrt l at_.toNat b else l
theorem rload_any (at_ : Int) (hR : Ram 102 w p g l) (hpg : p ≠ g) (h0 : 0 ≤ at_) (h1 : at_ < 4294967296) (hb : RdB w ao b) (hbb : Byt b) (hbl : b.length ≤ 100000) :
    Calls Try.prog 16 #[.pointer (some ⟨p, 0, none⟩), .int .u32 at_, .slice ao b.length c] w fun e w' => e = .returned (.int .i64 (errF (thr l.length at_ b.length))) ∧ Put 102 w p g (ldF l b at_) w' := by
  unfold ldF errF
  have hcell := hR.cell
  have hlen := hR.len
  by_cases ht : thr l.length at_ b.length = true
  · rw [if_pos ht, if_pos ht]
    have KI : Hid (∀ W, W = w → Calls Try.prog 54 #[.pointer (some ⟨p, 0, none⟩), .int .u32 at_, .int .i64 b.length] W fun e w' => e = .returned (.bool true) ∧ w' = W) := Lib.hid fun W hW => by
      subst hW
      have := in_any p at_ b.length l.length l.length _ W hcell hlen h0 h1
      rwa [ht] at this
    simp [thr] at ht
    obtain ⟨A, rfl⟩ := Int.eq_ofNat_of_zero_le h0
    have hA : A + b.length ≤ l.length := by omega
    rw [Int.toNat_natCast]
    have HR := Lib.hid hR
    have HB := Lib.hid hb
    have HBB := Lib.hid hbb
    have HA := Lib.hid hA
    have hal : (A : Int) ≤ l.length := by omega
    have hll : (l.length : Int) ≤ 16777216 := by omega
    have HLL := Lib.hid hlen
    have HBL := Lib.hid hbl
    have HI5 : Hid ((Try.prog.info? 5).map (·.size) = some 1) := Lib.hid (by kernel_rfl)
    clear hR hb hbb ht h0 h1 hlen hbl
    by_cases hlt : A < l.length
    · have hlt' : (A : Int) < l.length := by omega
      go_enter Try.func16, Try.ntmps16
      go_wp2_with (first
        | (go_at_call 54; refine (KI.out _ rfl).mono ?_; rintro e w' ⟨rfl, rfl⟩)
        | (with_reducible refine wpList_copyU rfl (.tmp 22) (.tmp 23) 22 22 rfl 5 Try.underlying22 HI5.out (some ⟨g, A, none⟩) ao (l.length - A) (l.length - A) b.length c ?_ ?_ g A (bc l) 5 HR.out.row (bc b) ?_ ?_ ?_ (bc_one b) ?_))
      · rfl
      · rfl
      · rw [bc_len]; have := HA.out; simp only [Nat.min_def]; split <;> omega
      · intro h; rw [bc_len] at h; first | exact ⟨rfl, RdB.add HB.out h⟩ | exact RdB.add HB.out h
      · rw [bc_len, bc_len]; exact HA.out
      · intro w1 b1 u1
        have HP : Hid (Put 102 w' p g (wrt l A b) w1) := Lib.hid ⟨⟨by rw [wrt_len]; exact HR.out.head.upd u1 hpg, by rw [← splice_bc l b A HA.out]; exact b1, HR.out.byt.wrt A HBB.out, by rw [wrt_len]; exact HLL.out⟩, u1⟩
        clear b1 u1
        go_wp2
        go_ret
        exact ⟨rfl, HP.out⟩
    · obtain rfl : A = l.length := by omega
      have hb0 : b = [] := List.length_eq_zero_iff.1 (by have := HA.out; omega)
      subst hb0
      have HP : Hid (Put 102 w p g l w) := Lib.hid ⟨HR.out, Upd.refl _ _⟩
      go_enter Try.func16, Try.ntmps16
      go_wp2_with (first
        | (go_at_call 54; refine (KI.out _ rfl).mono ?_; rintro e w' ⟨rfl, rfl⟩)
        | (with_reducible refine wpList_copy_nothing rfl (.tmp 22) (.tmp 23) 22 22 rfl 5 Try.underlying22 HI5.out (some ⟨g, 0, none⟩) ao 0 0 0 c ?_ ?_ ?_ ?_))
      · rfl
      · rfl
      · rfl
      · go_wp2
        go_ret
        exact ⟨rfl, HP.out⟩
  · rw [if_neg ht, if_neg ht]
    have KI : Hid (∀ W, W = w → Calls Try.prog 54 #[.pointer (some ⟨p, 0, none⟩), .int .u32 at_, .int .i64 b.length] W fun e w' => e = .returned (.bool false) ∧ w' = W) := Lib.hid fun W hW => by
      subst hW
      have := in_any p at_ b.length l.length l.length _ W hcell hlen h0 h1
      rwa [show thr l.length at_ b.length = false by simpa using ht] at this
    have HN : Hid (Put 102 w p g l w) := Lib.hid ⟨hR, Upd.refl _ _⟩
    clear ht hb hbb hbl
    go_enter Try.func16, Try.ntmps16
    go_wp2_with (go_at_call 54; refine (KI.out _ rfl).mono ?_; rintro e w' ⟨rfl, rfl⟩)
    go_ret
    exact ⟨rfl, HN.out⟩
theorem clone_any (hb : RdB w ao b) (hn : ao = none → c = 0) (hbl : b.length ≤ 100000) :
    Calls Try.prog 64 #[.slice ao b.length c] w fun e w' => ∃ v, e = .returned v ∧ OwnB w' w.heap.size v b ∧ Upd (fun _ => False) w w' := by
  have HB := Lib.hid hb
  have HL := Lib.hid hbl
  have ke := fun (W : World) (a : Option Addr) (n c : Nat) => Lib.run_eql_slice_nil (P := Try.prog) W 22 5 a n c 0 0 Try.underlying22
  clear hb hbl
  cases ao with
  | none =>
    have : b = [] := by
      cases b with
      | nil => rfl
      | cons x t => obtain ⟨_, _, e, _⟩ := HB.out 0 (by simp); cases e
    subst this
    rw [hn rfl]
    go_enter Try.func64, Try.ntmps64
    go_wp2
    exact bodyPost_ret (v := .slice none 0 0) (by simp [results, Try.results64, go_sem]) rfl ⟨_, rfl, OwnB.none _ _, Upd.refl _ _⟩
  | some ad =>
    clear hn
    go_enter Try.func64, Try.ntmps64
    go_wp2_with (at_builtin; go_must (refine wpList_appB rfl (.tmp 5) (.tmp 6) rfl _ w.heap.size [] b (some ad) c rfl rfl (fun h => by cases h) ?_ ?_ ?_ ?_ ?_))
    · exact HB.out.upd ((Upd.refl _ w).alloc _)
    · exact nilA w
    · rw [World.size_alloc]; omega
    · simp only [List.length_nil]; have := HL.out; omega
    · intro v' w1 own1 up1 hv1
      have HO : Hid (OwnB w1 w.heap.size v' b) := Lib.hid own1
      have HU : Hid (Upd (fun _ => False) w w1) := Lib.hid (((Upd.refl _ w).alloc _).trans up1 (fun k hk h => by have := geOB (Nat.le_refl _) k h; omega))
      clear own1 up1 hv1
      go_wp2
      exact bodyPost_ret (v := v') (by simp [results, Try.results64, go_sem]) rfl ⟨_, rfl, HO.out, HU.out⟩
theorem info5i : ∃ i, Try.prog.info? 5 = some i ∧ i.zero = some (.int .u8 0) ∧ i.size = 1 ∧ i.bytes = 1 := by
  obtain ⟨i0, hi, hzz⟩ := Option.map_eq_some_iff.1 info5
  simp only [Prod.mk.injEq] at hzz
  exact ⟨i0, hi, hzz.1, hzz.2.1, hzz.2.2⟩
theorem made_bytes (n : Nat) : madeCells (Value.int .u8 0).cells (n * 1) = (bc (List.replicate n 0)).toArray := by
  rw [show (Value.int .u8 0).cells = #[Value.int .u8 0] from rfl, Nat.mul_one, ← Array.toArray_toList (xs := madeCells #[Value.int .u8 0] n), toList_madeCells_one]
  simp [bc]
theorem make_bytes (W : World) (n : Nat) (hn : n ≤ 100000) : (Instr.makeSlice 22 (.int .i64 n) (.int .i64 n)).run Try.prog W = .ok (.slice (some ⟨W.heap.size, 0, none⟩) n n) (W.alloc (.cells (bc (List.replicate n 0)).toArray 5)) := by
  obtain ⟨i, hi, hz, hs, hb⟩ := info5i
  have := run_makeSlice (P := Try.prog) W 22 5 i (.int .u8 0) Try.underlying22 hi hz .i64 .i64 n n (by omega) (by omega) (by rw [hs]; simp; omega) (by rw [hb]; omega) (by omega)
  rw [hs, Int.toNat_natCast, made_bytes] at this
  exact this
theorem rep_byt (n : Nat) : Byt (List.replicate n 0) := fun x hx => by
  have := List.eq_of_mem_replicate hx
  omega
theorem made_ram (w : World) (n : Nat) (T : TypeId) (cs : Array Value) (h : (bc (List.replicate n 0)).toArray = cs) (hn : n ≤ 100000) :
    Ram T ((w.alloc (.cells cs 5)).alloc (.cells #[.slice (some ⟨w.heap.size, 0, none⟩) n n] T)) (w.heap.size + 1) w.heap.size (List.replicate n 0) := by
  subst h
  refine ⟨?_, (Blk.new w _ 5).alloc _, rep_byt n, by simp; omega⟩
  have := Blk.new (w.alloc (.cells (bc (List.replicate n 0)).toArray 5)) #[.slice (some ⟨w.heap.size, 0, none⟩) n n] T
  rw [World.size_alloc] at this
  rw [List.length_replicate]
  exact this
theorem new_any (n : Nat) (hn : n ≤ 100000) : Calls Try.prog 14 #[.int .i64 n] w fun e w' => e = .returned (.pointer (some ⟨w.heap.size + 1, 0, none⟩)) ∧ Ram 102 w' (w.heap.size + 1) w.heap.size (List.replicate n 0) ∧ Upd (fun _ => False) w w' := by
  have hn' : (n : Int) ≤ 16777216 := by omega
  have km := fun W : World => make_bytes W n hn
  have HN := Lib.hid hn
  have hB := fun w : World => Blk.new w (bc (List.replicate n 0)).toArray 5
  have HB := Lib.hid hB
  clear hn hB
  generalize hcs : (bc (List.replicate n 0)).toArray = cs at *
  have HCS := Lib.hid hcs
  clear hcs
  go_enter Try.func14, Try.ntmps14
  go_wp2
  go_ret
  exact ⟨rfl, made_ram w n 102 cs HCS.out HN.out, ((Upd.refl _ w).alloc _).alloc _⟩
theorem snew_any (n : Nat) (hn : n ≤ 100000) : Calls Try.prog 15 #[.int .i64 n] w fun e w' => e = .returned (.pointer (some ⟨w.heap.size + 1, 0, none⟩)) ∧ Ram 51 w' (w.heap.size + 1) w.heap.size (List.replicate n 0) ∧ Upd (fun _ => False) w w' := by
  have hn' : (n : Int) ≤ 16777216 := by omega
  have km := fun W : World => make_bytes W n hn
  have HN := Lib.hid hn
  have hB := fun w : World => Blk.new w (bc (List.replicate n 0)).toArray 5
  have HB := Lib.hid hB
  clear hn hB
  generalize hcs : (bc (List.replicate n 0)).toArray = cs at *
  have HCS := Lib.hid hcs
  clear hcs
  go_enter Try.func15, Try.ntmps15
  go_wp2
  go_ret
  exact ⟨rfl, made_ram w n 51 cs HCS.out HN.out, ((Upd.refl _ w).alloc _).alloc _⟩
/-- What Bytes answers. -/
def Bts (w : World) (p : List Int × Int) (e : Ending) (w' : World) : Prop := ∃ v, e = .returned (.tuple #[v, .int .i64 p.2]) ∧ OwnB w' w.heap.size v p.1 ∧ Upd (fun _ => False) w w'
def btsF (l : List Int) (at_ k : Int) : List Int × Int := if thr l.length at_ k = true then ((l.drop at_.toNat).take k.toNat, 0) else ([], 6)
theorem rbytes_any (at_ k : Int) (hR : Ram 102 w p g l) (h0 : 0 ≤ at_) (h1 : at_ < 4294967296) (hk : k ≤ 100000) :
    Calls Try.prog 37 #[.pointer (some ⟨p, 0, none⟩), .int .u32 at_, .int .i64 k] w (Bts w (btsF l at_ k)) := by
  unfold btsF
  have hcell := hR.cell
  have hlen := hR.len
  by_cases ht : thr l.length at_ k = true
  · rw [if_pos ht]
    have KI : Hid (∀ W, W = w → Calls Try.prog 54 #[.pointer (some ⟨p, 0, none⟩), .int .u32 at_, .int .i64 k] W fun e w' => e = .returned (.bool true) ∧ w' = W) := Lib.hid fun W hW => by
      subst hW
      have := in_any p at_ k l.length l.length _ W hcell hlen h0 h1
      rwa [ht] at this
    simp [thr] at ht
    obtain ⟨A, rfl⟩ := Int.eq_ofNat_of_zero_le h0
    obtain ⟨n, rfl⟩ := Int.eq_ofNat_of_zero_le ht.1
    have hA : A + n ≤ l.length := by omega
    rw [Int.toNat_natCast, Int.toNat_natCast]
    have hsub : ((l.drop A).take n).length = n := by simp; omega
    have HS := Lib.hid hsub
    have hrd : ∀ c, A < l.length ∨ n = 0 → Calls Try.prog 64 #[.slice (some ⟨g, (if A < l.length then A else 0), none⟩) n c] w fun e w' => ∃ v, e = .returned v ∧ OwnB w' w.heap.size v ((l.drop A).take n) ∧ Upd (fun _ => False) w w' := fun c hc => by
      have := clone_any ((l.drop A).take n) (some ⟨g, (if A < l.length then A else 0), none⟩) c w (fun i hi => ?_) (fun h => by cases h) (by omega)
      · rwa [hsub] at this
      · have hi' : i < n := by omega
        refine ⟨g, A, by rw [if_pos (by omega)], hR.row.lt, ?_⟩
        rw [hR.get (by omega)]
        simp [List.getD, List.getElem?_take_of_lt hi']
    have HRD := Lib.hid hrd
    clear hR ht h0 h1 hsub hrd
    have hll : (l.length : Int) ≤ 16777216 := by omega
    have hal : (A : Int) + n ≤ l.length := by omega
    have HLL := Lib.hid hlen
    have HA := Lib.hid hA
    clear hlen hA
    generalize (l.drop A).take n = sub at *
    by_cases hlt : A < l.length
    · have hlt' : (A : Int) < l.length := by omega
      have KC : Hid (∀ c, Calls Try.prog 64 #[.slice (some ⟨g, A, none⟩) n c] w fun e w' => ∃ v, e = .returned v ∧ OwnB w' w.heap.size v sub ∧ Upd (fun _ => False) w w') := Lib.hid fun c => by
        have := HRD.out c (.inl hlt); rwa [if_pos hlt] at this
      go_enter Try.func37, Try.ntmps37
      go_wp2_with (first
        | (go_at_call 54; refine (KI.out _ rfl).mono ?_; rintro e w' ⟨rfl, rfl⟩)
        | (go_at_call 64; refine (KC.out _).mono ?_; rintro e w2 ⟨v, rfl, ho, hu⟩; have HO := Lib.hid ho; have HU := Lib.hid hu; clear ho hu))
      exact bodyPost_ret (v := .tuple #[v, _]) (by simp [results, Try.results37, go_sem]) rfl ⟨_, rfl, HO.out, HU.out⟩
    · obtain rfl : A = l.length := by omega
      obtain rfl : n = 0 := by omega
      have KC : Hid (∀ c, Calls Try.prog 64 #[.slice (some ⟨g, 0, none⟩) 0 c] w fun e w' => ∃ v, e = .returned v ∧ OwnB w' w.heap.size v sub ∧ Upd (fun _ => False) w w') := Lib.hid fun c => by
        have := HRD.out c (.inr rfl); rwa [if_neg hlt] at this
      go_enter Try.func37, Try.ntmps37
      go_wp2_with (first
        | (go_at_call 54; refine (KI.out _ rfl).mono ?_; rintro e w' ⟨rfl, rfl⟩)
        | (go_at_call 64; refine (KC.out _).mono ?_; rintro e w2 ⟨v, rfl, ho, hu⟩; have HO := Lib.hid ho; have HU := Lib.hid hu; clear ho hu))
      exact bodyPost_ret (v := .tuple #[v, _]) (by simp [results, Try.results37, go_sem]) rfl ⟨_, rfl, HO.out, HU.out⟩
  · rw [if_neg ht]
    have KI : Hid (∀ W, W = w → Calls Try.prog 54 #[.pointer (some ⟨p, 0, none⟩), .int .u32 at_, .int .i64 k] W fun e w' => e = .returned (.bool false) ∧ w' = W) := Lib.hid fun W hW => by
      subst hW
      have := in_any p at_ k l.length l.length _ W hcell hlen h0 h1
      rwa [show thr l.length at_ k = false by simpa using ht] at this
    clear ht hk
    go_enter Try.func37, Try.ntmps37
    go_wp2_with (go_at_call 54; refine (KI.out _ rfl).mono ?_; rintro e w' ⟨rfl, rfl⟩)
    exact bodyPost_ret (v := .tuple #[_, _]) (by simp [results, Try.results37, go_sem]) rfl ⟨_, rfl, OwnB.none _ _, Upd.refl _ _⟩
theorem sload_any (at_ : Int) (hR : Ram 51 w p g l) (hpg : p ≠ g) (h0 : 0 ≤ at_) (h1 : at_ < 4294967296) (hb : RdB w ao b) (hbb : Byt b) (hbl : b.length ≤ 100000) (hne : ∀ b o, ao = some ⟨b, o, none⟩ → b ≠ g) :
    Calls Try.prog 17 #[.pointer (some ⟨p, 0, none⟩), .int .u32 at_, .slice ao b.length c] w fun e w' => e = .returned (.int .i64 (errF (thr l.length at_ b.length))) ∧ Put 51 w p g (ldF l b at_) w' := by
  unfold ldF errF
  have hcell := hR.cell
  have hlen := hR.len
  by_cases ht : thr l.length at_ b.length = true
  · rw [if_pos ht, if_pos ht]
    have KI : Hid (∀ W, W = w → Calls Try.prog 55 #[.pointer (some ⟨p, 0, none⟩), .int .u32 at_, .int .i64 b.length] W fun e w' => e = .returned (.bool true) ∧ w' = W) := Lib.hid fun W hW => by
      subst hW
      have := there_any p at_ b.length l.length l.length _ W hcell hlen h0 h1
      rwa [ht] at this
    simp [thr] at ht
    obtain ⟨A, rfl⟩ := Int.eq_ofNat_of_zero_le h0
    have hA : A + b.length ≤ l.length := by omega
    rw [Int.toNat_natCast]
    have HR := Lib.hid hR
    have HB := Lib.hid hb
    have HBB := Lib.hid hbb
    have HNE := Lib.hid hne
    have hal : (A : Int) ≤ l.length := by omega
    have hll : (l.length : Int) ≤ 16777216 := by omega
    have hab : (A : Int) + b.length ≤ l.length := by omega
    have HLL := Lib.hid hlen
    have HA := Lib.hid hA
    have HBL := Lib.hid hbl
    clear hR hb hbb ht h0 h1 hlen hbl hA hne
    generalize hP : Put 51 w p g (wrt l A b) = P
    have HP := Lib.hid hP
    clear hP
    go_enter Try.func17, Try.ntmps17
    go_wp2_with (go_at_call 55; refine (KI.out _ rfl).mono ?_; rintro e w' ⟨rfl, rfl⟩)
    clear hcell
    go_loopw [17] (fun i W => ∃ k : Nat, k ≤ b.length ∧ i = .int .i64 k ∧ Hid (Ram 51 W p g (wrt l A (b.take k))) ∧ Hid (Upd (fun k => k = g) w' W)) (fun i _ => b.length - (intOf i).toNat)
    case atStart => exact ⟨0, Nat.zero_le _, rfl, HR, Lib.hid (Upd.refl _ _)⟩
    case round =>
      obtain ⟨k, hk, rfl, HW, HU⟩ := hrel
      by_cases hlt : k < b.length
      · have hAk : A + k < l.length := by have := HA.out; omega
        have hc := HW.out.cell
        have hw := HW.out.get (i := A + k) (by rw [wrt_len]; omega)
        have hfr := HW.out.row.frozen (A + k)
        rw [wrt_len] at hc
        generalize (wrt l A (b.take k)).getD (A + k) 0 = ov at *
        obtain ⟨bb, bo, rfl, hbl2, hbc⟩ := (HB.out.updS HU.out (fun x o e => HNE.out x o e)) k hlt
        have hy := HBB.out.get hlt
        obtain ⟨hy0, hy1⟩ := hy
        have hs : b.take (k + 1) = b.take k ++ [b.getD k 0] := by rw [List.take_succ_eq_append_getElem hlt]; congr 2; simp [List.getD, hlt]
        have hw3 : Hid (Ram 51 (wr.setCell ⟨g, A + k, none⟩ (.int .u8 (b.getD k 0))) p g (wrt l A (b.take (k + 1)))) := Lib.hid <| by
          have := HW.out.set hpg (A + k) hy0 hy1
          rw [hs, wrt_snoc, show (b.take k).length = k by simp; omega]
          exact this
        have hu3 : Hid (Upd (fun z => z = g) w' (wr.setCell ⟨g, A + k, none⟩ (.int .u8 (b.getD k 0)))) := Lib.hid (HU.out.setCell (p := ⟨g, A + k, none⟩) (.inl rfl) _)
        clear hs
        generalize b.getD k 0 = y at *
        go_wp2
        exact ⟨⟨k + 1, hlt, by go_num, hw3, hu3⟩, by simp [intOf]; omega⟩
      · obtain rfl : k = b.length := by omega
        rw [List.take_length] at HW
        go_wp2
        go_ret
        exact ⟨rfl, by rw [← HP.out]; exact ⟨HW.out, HU.out⟩⟩
  · rw [if_neg ht, if_neg ht]
    have KI : Hid (∀ W, W = w → Calls Try.prog 55 #[.pointer (some ⟨p, 0, none⟩), .int .u32 at_, .int .i64 b.length] W fun e w' => e = .returned (.bool false) ∧ w' = W) := Lib.hid fun W hW => by
      subst hW
      have := there_any p at_ b.length l.length l.length _ W hcell hlen h0 h1
      rwa [show thr l.length at_ b.length = false by simpa using ht] at this
    have HN : Hid (Put 51 w p g l w) := Lib.hid ⟨hR, Upd.refl _ _⟩
    clear ht hb hbb hbl hne
    go_enter Try.func17, Try.ntmps17
    go_wp2_with (go_at_call 55; refine (KI.out _ rfl).mono ?_; rintro e w' ⟨rfl, rfl⟩)
    go_ret
    exact ⟨rfl, HN.out⟩
end
end Go.Proofs.Ytomiodlipibloaa.F
