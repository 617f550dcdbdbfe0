/- The plain law: what is encoded is decoded, what is decoded is encoded in no more bytes. -/
import Derived.Test.YtoocbodkjldlcaaSpN
namespace Go.Proofs.Ytoocbodkjldlcaa.Sp
set_option linter.unusedVariables false
set_option linter.unusedSimpArgs false
open Go.RowKit

theorem hd_fin : ∀ k : Fin 16, ∀ r : Fin 16, hd (16 * (k.val : Int)) (r.val : Int) = 16 * k.val + r.val := by decide +kernel
theorem hd_eq (k r : Int) (h0 : 0 ≤ k) (h1 : k < 16) (h2 : 0 ≤ r) (h3 : r ≤ 15) : hd (16 * k) r = 16 * k + r := by
  have := hd_fin ⟨k.toNat, by omega⟩ ⟨r.toNat, by omega⟩
  simpa [Int.toNat_of_nonneg h0, Int.toNat_of_nonneg h2] using this
theorem ib_fin : ∀ r : Fin 16, ib (r.val : Int) = 64 + r.val := by decide +kernel
theorem ib_eq (r : Int) (h2 : 0 ≤ r) (h3 : r ≤ 15) : ib r = 64 + r := by
  have := ib_fin ⟨r.toNat, by omega⟩
  simpa [Int.toNat_of_nonneg h2] using this
theorem ext_num (v : Int) (z : Nat) (hz : z = 1 ∨ z = 2 ∨ z = 4) (h0 : 0 ≤ v) (h1 : v < 4294967296) : ext (num (putB v z)) z = ext v z := by
  rcases hz with rfl | rfl | rfl
  · simp [putB, num, ext]
  · simp [putB, num, ext]
    have : (v % 256 + 256 * (v / 256 % 256)) % 65536 = v % 65536 := by omega
    rw [this]
  · simp [putB, num, ext]
    omega
theorem ext_idem (x : Int) (z : Nat) (hz : z = 1 ∨ z = 2 ∨ z = 4) : ext (ext x z) z = ext x z := by
  rcases hz with rfl | rfl | rfl
  · simp [ext]
    split
    · rw [if_pos (by omega)]; omega
    · rw [if_neg (by omega)]; omega
  · simp [ext]
    split
    · rw [if_pos (by omega)]; omega
    · rw [if_neg (by omega)]; omega
  · simp [ext]
theorem ext_bd (x : Int) (z : Nat) (hz : z = 1 ∨ z = 2 ∨ z = 4) (h0 : 0 ≤ x) (h1 : x < 4294967296) : 0 ≤ ext x z ∧ ext x z < 4294967296 := by
  rcases hz with rfl | rfl | rfl
  · simp [ext]
    split <;> omega
  · simp [ext]
    split <;> omega
  · simp [ext]
    omega
theorem putB_len (v : Int) (z : Nat) (hz : z ≤ 4) : (putB v z).length = z := by simp [putB]; omega
theorem valueF_put (k r h v : Int) (z : Nat) (l : List Int) (hz : z = 1 ∨ z = 2 ∨ z = 4) (h0 : 0 ≤ v) (h1 : v < 4294967296) : valueF k r 1 z (h :: (putB v z ++ l)) = (⟨k, r, -1, ext v z, 1 + z⟩, 0) := by
  have hl := putB_len v z (by omega)
  unfold valueF
  rw [if_neg (by simp [hl]; omega)]
  have : (((h :: (putB v z ++ l)).drop 1).take z) = putB v z := by
    rw [List.drop_succ_cons, List.drop_zero]
    exact List.take_left' hl
  rw [this, ext_num v z hz h0 h1]
  simp
theorem byt_hd {l : List Int} (hb : Byt l) (h : 0 < l.length) : 0 ≤ l.getD 0 0 ∧ l.getD 0 0 < 256 := hb _ (by simp [List.getD, h])

theorem plain0 (v acc : Int) (n : Nat) (l : List Int) (h0 : 0 ≤ v) (h1 : v < 64) : plainF (v % 256 :: l) acc n = if acc = 114 then (⟨0, 0, -1, v, 1⟩, 0) else (badS 1, 0) := by
  have e : v % 256 = v := by omega
  unfold plainF
  simp only [List.getD_cons_zero, e]
  rw [if_pos (by omega), show v % 64 = v by omega]
theorem plain12 (v acc : Int) (n : Nat) (l : List Int) (hz : n = 1 ∨ n = 2 ∨ n = 4) (h0 : 0 ≤ v) (h1 : v < 4294967296) : plainF (143 :: (putB v n ++ l)) acc n = if acc = 114 then (⟨12, 0, -1, ext v n, 1 + n⟩, 0) else (badS 1, 0) := by
  unfold plainF
  simp only [List.getD_cons_zero]
  rw [if_neg (by omega), if_neg (by omega), if_pos (by omega), valueF_put _ _ _ _ _ _ hz h0 h1]
theorem plain13 (v acc : Int) (n : Nat) (l : List Int) (h0 : 0 ≤ v) (h1 : v < 4294967296) : plainF (159 :: (putB v 4 ++ l)) acc n = (⟨13, 0, -1, v, 5⟩, 0) := by
  unfold plainF
  simp only [List.getD_cons_zero]
  rw [if_neg (by omega), if_neg (by omega), if_neg (by omega), if_pos (by omega), valueF_put _ _ _ _ _ _ (by omega) h0 h1]
  simp [ext]
theorem plain10 (k r v acc : Int) (j n : Nat) (l : List Int) (hk : k = 10 ∨ k = 11) (hj : j ≤ 2) (hr0 : 0 ≤ r) (hr : r ≤ 15) (h0 : 0 ≤ v) (h1 : v < 4294967296) :
    plainF ((16 * (k + 2 * (j : Int)) + r) :: (putB v (sz j) ++ l)) acc n = (⟨k, r, -1, ext v (sz j), 1 + sz j⟩, 0) := by
  unfold plainF
  have e1 : (16 * (k + 2 * (j : Int)) + r) / 16 = k + 2 * j := by omega
  have e2 : (16 * (k + 2 * (j : Int)) + r) % 16 = r := by omega
  simp only [List.getD_cons_zero, e1, e2]
  rw [if_neg (by omega), if_neg (by omega), if_neg (by omega), if_neg (by omega), if_neg (by omega)]
  have e3 : 10 + (k + 2 * (j : Int)) % 2 = k := by omega
  have e4 : 2 ^ ((k + 2 * (j : Int) - 10) / 2).toNat = sz j := by
    have : ((k + 2 * (j : Int) - 10) / 2).toNat = j := by omega
    rw [this]
    rcases (by omega : j = 0 ∨ j = 1 ∨ j = 2) with rfl | rfl | rfl <;> rfl
  rw [e3, e4]
  exact valueF_put _ _ _ _ _ _ (by unfold sz; split; omega; split <;> omega) h0 h1
theorem plain5 (k r acc : Int) (n : Nat) (l : List Int) (hk : 5 ≤ k) (hk9 : k ≤ 9) (hr0 : 0 ≤ r) (hr : r ≤ 15) :
    plainF ((16 * k + r) :: l) acc n = if (k < 8 ∧ r = 15) ∨ (k = 5 ∧ acc = 97) then (badS 1, 0) else if k = 8 ∧ r = 15 then (if acc = 114 then valueF 12 0 1 n ((16 * k + r) :: l) else (badS 1, 0)) else if k = 9 ∧ r = 15 then valueF 13 0 1 4 ((16 * k + r) :: l) else (⟨k, r, -1, 0, 1⟩, 0) := by
  unfold plainF
  have e1 : (16 * k + r) / 16 = k := by omega
  have e2 : (16 * k + r) % 16 = r := by omega
  simp only [List.getD_cons_zero, e1, e2]
  rw [if_neg (by omega)]
  by_cases h : (k < 8 ∧ r = 15) ∨ (k = 5 ∧ acc = 97)
  · rw [if_pos (by omega), if_pos h]
  · rw [if_neg (by omega), if_neg h]
    by_cases h8 : k = 8 ∧ r = 15
    · rw [if_pos h8, if_pos h8]
    rw [if_neg h8, if_neg h8]
    by_cases h9 : k = 9 ∧ r = 15
    · rw [if_pos h9, if_pos h9]
    rw [if_neg h9, if_neg h9, if_pos (by omega)]
theorem valueF_k (k r : Int) (a n : Nat) (l : List Int) (x : Spc) (h : valueF k r a n l = (x, 0)) : x.k = k := by
  unfold valueF at h
  split at h
  · simp at h
  · simp at h; rw [← h]
/-- What is read off the bytes of a specifier. -/
structure Rd (s x : Spc) (len : Nat) : Prop where
  k : x.k = s.k
  i : x.i = -1
  r : s.r = x.r ∨ s.k = 0 ∨ s.k = 12 ∨ s.k = 13
  v : s.v = x.v ∨ (5 ≤ s.k ∧ s.k ≤ 9)
  n : x.n = len
theorem first_plain (s : Spc) (n : Nat) (acc : Int) (fb l0 : List Int) (x0 : Spc) (hr0 : 0 ≤ s.r) (hr : s.r ≤ 15) (hv : 0 ≤ s.v) (hv2 : s.v < 4294967296) (hn : n = 1 ∨ n = 2 ∨ n = 4)
    (hF : firstF s n = (fb, true)) (h0 : plainF (fb ++ l0) acc n = (x0, 0)) (hk : x0.k = s.k) (h12 : s.k = 12 → ext s.v n = s.v) :
    (∀ l, ∃ x, plainF (fb ++ l) acc n = (x, 0) ∧ Rd s x fb.length) ∧ 0 < fb.length ∧ fb.getD 0 0 / 16 ≠ 4 ∧ fb.length ≤ 5 := by
  obtain ⟨k, r, i, v, m⟩ := s
  simp only at hr0 hr hv hv2 hk h12
  unfold firstF at hF
  simp only at hF
  by_cases h : k = 0
  · subst h
    simp at hF
    obtain ⟨rfl, hv64⟩ := hF
    rw [List.singleton_append, plain0 v acc n l0 hv hv64] at h0
    by_cases ha : acc = 114
    · refine ⟨fun l => ⟨⟨0, 0, -1, v, 1⟩, ?_, ⟨rfl, rfl, .inr (.inl rfl), .inl rfl, rfl⟩⟩, by simp, by simp; omega, by simp⟩
      rw [List.singleton_append, plain0 v acc n l hv hv64, if_pos ha]
    · rw [if_neg ha] at h0
      simp [badS] at h0
      rw [← h0] at hk
      simp at hk
  rw [if_neg h] at hF
  by_cases h5 : 5 ≤ k ∧ k ≤ 9
  · rw [if_pos h5, hd_eq k r (by omega) (by omega) hr0 hr] at hF
    simp at hF
    subst hF
    rw [List.singleton_append, plain5 k r acc n l0 h5.1 h5.2 hr0 hr] at h0
    by_cases c1 : (k < 8 ∧ r = 15) ∨ (k = 5 ∧ acc = 97)
    · rw [if_pos c1] at h0; simp [badS] at h0; rw [← h0] at hk; simp at hk; omega
    rw [if_neg c1] at h0
    by_cases c2 : k = 8 ∧ r = 15
    · rw [if_pos c2] at h0
      split at h0
      · have := valueF_k _ _ _ _ _ _ h0; omega
      · simp [badS] at h0; rw [← h0] at hk; simp at hk; omega
    rw [if_neg c2] at h0
    by_cases c3 : k = 9 ∧ r = 15
    · rw [if_pos c3] at h0
      have := valueF_k _ _ _ _ _ _ h0; omega
    refine ⟨fun l => ⟨⟨k, r, -1, 0, 1⟩, ?_, ⟨rfl, rfl, .inl rfl, .inr h5, rfl⟩⟩, by simp, by simp; omega, by simp⟩
    rw [List.singleton_append, plain5 k r acc n l h5.1 h5.2 hr0 hr, if_neg c1, if_neg c2, if_neg c3]
  rw [if_neg h5] at hF
  by_cases h10 : k = 10 ∨ k = 11
  · rw [if_pos h10] at hF
    obtain ⟨j, hj, hz, hfb⟩ : ∃ j : Nat, j ≤ 2 ∧ ext v (sz j) = v ∧ fb = (16 * (k + 2 * (j : Int)) + r) :: putB v (sz j) := by
      by_cases e1 : ext v 1 = v
      · rw [if_pos e1] at hF
        simp at hF
        exact ⟨0, by omega, e1, by rw [← hF, hd_eq k r (by omega) (by omega) hr0 hr]; simp [sz]⟩
      rw [if_neg e1] at hF
      by_cases e2 : ext v 2 = v
      · rw [if_pos e2] at hF
        simp at hF
        refine ⟨1, by omega, e2, ?_⟩
        rw [← hF, show 16 * k + 32 = 16 * (k + 2) by omega, hd_eq (k + 2) r (by omega) (by omega) hr0 hr]
        simp [sz]
      rw [if_neg e2] at hF
      simp at hF
      refine ⟨2, by omega, by simp [sz, ext], ?_⟩
      rw [← hF, show 16 * k + 64 = 16 * (k + 4) by omega, hd_eq (k + 4) r (by omega) (by omega) hr0 hr]
      simp [sz]
    have hzz : sz j ≤ 4 := by unfold sz; split; omega; split <;> omega
    have hl := putB_len v (sz j) hzz
    subst hfb
    refine ⟨fun l => ⟨⟨k, r, -1, ext v (sz j), 1 + sz j⟩, by rw [List.cons_append]; exact plain10 k r v acc j n l h10 hj hr0 hr hv hv2, ⟨rfl, rfl, .inl rfl, .inl hz.symm, ?_⟩⟩, by simp, by simp; omega, by simp [hl]; omega⟩
    simp [hl]; omega
  rw [if_neg h10] at hF
  have hl := putB_len v n (by omega)
  by_cases e12 : k = 12
  · rw [if_pos e12] at hF
    simp at hF
    subst hF
    subst e12
    rw [List.cons_append, plain12 v acc n l0 hn hv hv2] at h0
    by_cases ha : acc = 114
    · refine ⟨fun l => ⟨⟨12, 0, -1, ext v n, 1 + n⟩, ?_, ⟨rfl, rfl, .inr (.inr (.inl rfl)), .inl (h12 rfl).symm, ?_⟩⟩, by simp, by simp, by simp [hl]; omega⟩
      · rw [List.cons_append, plain12 v acc n l hn hv hv2, if_pos ha]
      · simp [hl]; omega
    · rw [if_neg ha] at h0
      simp [badS] at h0
      rw [← h0] at hk
      simp at hk
  rw [if_neg e12] at hF
  have hl4 := putB_len v 4 (by omega)
  by_cases e13 : k = 13
  · rw [if_pos e13] at hF
    simp at hF
    subst hF
    subst e13
    refine ⟨fun l => ⟨⟨13, 0, -1, v, 5⟩, by rw [List.cons_append]; exact plain13 v acc n l hv hv2, ⟨rfl, rfl, .inr (.inr (.inr rfl)), .inl rfl, ?_⟩⟩, by simp, by simp, by simp [hl4]⟩
    simp [hl4]
  · rw [if_neg e13] at hF
    simp at hF

/-- What decoding an encoding gives. -/
structure Bk (s x : Spc) (len : Nat) : Prop where
  k : x.k = s.k
  i : (s.i < 0 ∧ x.i < 0) ∨ (0 ≤ s.i ∧ s.i = x.i)
  r : s.r = x.r ∨ s.k = 0 ∨ s.k = 12 ∨ s.k = 13
  v : s.v = x.v ∨ (5 ≤ s.k ∧ s.k ≤ 9)
  n : x.n = len
theorem firstF_k {s : Spc} {n : Nat} {fb : List Int} (h : firstF s n = (fb, true)) : s.k ≠ 14 := by
  intro e
  unfold firstF at h
  rw [if_neg (by omega), if_neg (by omega), if_neg (by omega), if_neg (by omega), if_neg (by omega)] at h
  simp at h
theorem law1 (s : Spc) (acc n : Int) (c : List Int) (hv : 0 ≤ s.v) (hv2 : s.v < 4294967296) (h : encF s acc n = (c, 0)) :
    (∀ l, ∃ x, decF (c ++ l) acc n = (x, 0) ∧ Bk s x c.length) ∧ c.length ≤ 6 := by
  unfold encF at h
  by_cases hm : msk n = 0
  · rw [if_pos hm] at h; simp at h
  rw [if_neg hm] at h
  obtain ⟨z, rfl, hz⟩ : ∃ z : Nat, n = z ∧ (z = 1 ∨ z = 2 ∨ z = 4) := by
    rcases msk_cases hm with rfl | rfl | rfl
    · exact ⟨1, rfl, by omega⟩
    · exact ⟨2, rfl, by omega⟩
    · exact ⟨4, rfl, by omega⟩
  simp only [Int.toNat_natCast] at h
  by_cases hb : acc = 98
  · subst hb
    rw [if_pos rfl] at h
    unfold encB at h
    split at h
    · rename_i hc
      obtain ⟨h1, h2, h3, h4, h5⟩ := hc
      simp at h
      subst h
      have hl := putB_len s.v z (by omega)
      refine ⟨fun l => ⟨⟨12, 0, -1, ext s.v z, (0 : Nat) + z⟩, ?_, ⟨h1.symm, .inl ⟨h2, by show (-1 : Int) < 0; decide⟩, .inr (.inr (.inl h1)), .inl h5.symm, ?_⟩⟩, by rw [hl]; omega⟩
      · unfold decF
        rw [if_neg hm, if_neg (by decide), if_pos rfl]
        unfold valueF
        simp only [Int.toNat_natCast, List.drop_zero]
        rw [if_neg (by simp [hl])]
        have : (putB s.v z ++ l).take z = putB s.v z := by
          exact List.take_left' hl
        rw [this, ext_num s.v z hz hv hv2]
      · simp [hl]
    · simp at h
  rw [if_neg hb] at h
  obtain ⟨fb, ok, hF⟩ : ∃ fb ok, firstF s z = (fb, ok) := ⟨_, _, rfl⟩
  rw [hF] at h
  by_cases hg : ok = false ∨ s.r < 0 ∨ 15 < s.r ∨ 15 < s.i
  · rw [if_pos hg] at h; simp at h
  rw [if_neg hg] at h
  obtain rfl : ok = true := by
    cases ok
    · exact absurd (.inl rfl) hg
    · rfl
  split at h
  · simp at h
  rename_i hd
  simp at h
  subst h
  have hd1 : (decF (codeF s z) acc z).2 = 0 := by
    by_cases e : (decF (codeF s z) acc z).2 = 0
    · exact e
    · exact absurd (.inl e) hd
  have hd2 : (decF (codeF s z) acc z).1.k = s.k := by
    by_cases e : (decF (codeF s z) acc z).1.k = s.k
    · exact e
    · exact absurd (.inr (.inl e)) hd
  have hd3 : s.k = 12 → ext s.v z = s.v := fun e => by
    by_cases e' : ext s.v z = s.v
    · exact e'
    · exact absurd (.inr (.inr ⟨e, e'⟩)) hd
  clear hd
  obtain ⟨x0, hx0⟩ : ∃ x0, decF (codeF s z) acc z = (x0, 0) := ⟨(decF (codeF s z) acc z).1, by rw [← hd1]⟩
  rw [hx0] at hd1 hd2
  simp only at hd1 hd2
  have hk14 := firstF_k hF
  have hac : accs.contains acc = true := by
    cases ha : accs.contains acc
    · unfold decF at hx0; rw [if_neg hm, if_pos ha] at hx0; simp at hx0
    · rfl
  by_cases hi : 0 ≤ s.i
  · have hco : codeF s z = (64 + s.i) :: fb := by unfold codeF; rw [if_pos hi, hF, ib_eq s.i hi (by omega)]
    have ei : (64 + s.i) / 16 = 4 := by omega
    have ei2 : (64 + s.i) % 16 = s.i := by omega
    have hdec : ∀ l : List Int, decF (((64 + s.i) :: fb) ++ l) acc z = indexedF (((64 + s.i) :: fb) ++ l) acc z := fun l => by
      unfold decF
      rw [if_neg hm, if_neg (by rw [hac]; simp), if_neg hb, if_neg (by simp)]
      simp only [List.cons_append, List.getD_cons_zero]
      rw [if_pos ei, Int.toNat_natCast]
    have hidx : ∀ l : List Int, indexedF ((64 + s.i) :: l) acc z = if s.i = 15 then (badS 1, 0) else if l.length < 1 then (zeroS, 3) else if l.getD 0 0 / 16 < 6 ∨ l.getD 0 0 = 143 then (badS 2, 0) else
        if (plainF l acc z).2 = 0 then ({ (plainF l acc z).1 with n := (plainF l acc z).1.n + 1, i := if (plainF l acc z).1.k = 14 then (plainF l acc z).1.i else s.i }, 0) else plainF l acc z := fun l => by
      unfold indexedF
      simp only [List.getD_cons_zero, ei2, List.length_cons, List.getD_cons_succ, List.drop_succ_cons, List.drop_zero, show (l.length + 1 < 2) = (l.length < 1) from propext (by omega)]
    have h0 := hdec []
    rw [List.append_nil, ← hco, hx0, hco, hidx] at h0
    by_cases c1 : s.i = 15
    · rw [if_pos c1] at h0; simp [badS] at h0; rw [h0] at hd2; simp at hd2; omega
    rw [if_neg c1] at h0
    by_cases c2 : fb.length < 1
    · rw [if_pos c2] at h0; simp [zeroS] at h0
    rw [if_neg c2] at h0
    by_cases c3 : fb.getD 0 0 / 16 < 6 ∨ fb.getD 0 0 = 143
    · rw [if_pos c3] at h0; simp [badS] at h0; rw [h0] at hd2; simp at hd2; omega
    rw [if_neg c3] at h0
    by_cases c4 : (plainF fb acc z).2 = 0
    · rw [if_pos c4] at h0
      have hpk : (plainF fb acc z).1.k = s.k := by
        simp at h0; rw [h0] at hd2; simpa using hd2
      obtain ⟨hall, hl0, _, hl5⟩ := first_plain s z acc fb [] (plainF fb acc z).1 (by omega) (by omega) hv hv2 hz hF (by rw [List.append_nil, ← c4]) hpk hd3
      rw [hco]
      refine ⟨fun l => ?_, by simp; omega⟩
      obtain ⟨x, hx, hR⟩ := hall l
      have hg0 : (fb ++ l).getD 0 0 = fb.getD 0 0 := by
        cases fb with
        | nil => simp at hl0
        | cons a t => simp
      refine ⟨{ x with n := x.n + 1, i := s.i }, ?_, ⟨hR.k, .inr ⟨hi, rfl⟩, hR.r, hR.v, ?_⟩⟩
      · rw [hdec, List.cons_append, hidx, if_neg c1, if_neg (by rw [List.length_append]; omega), hg0, if_neg c3, hx]
        simp only [if_true]
        rw [if_neg (by rw [hR.k]; exact hk14)]
      · simp [hR.n]
    · rw [if_neg c4] at h0
      rw [← h0] at c4
      exact absurd rfl c4
  · have hco : codeF s z = fb := by unfold codeF; rw [if_neg hi, hF]
    rw [hco] at hx0 ⊢
    have hne : fb.length ≠ 0 := by
      intro e
      unfold decF at hx0
      rw [if_neg hm, if_neg (by rw [hac]; simp), if_neg hb, if_pos e] at hx0
      simp at hx0
    have hg0 : ∀ l, (fb ++ l).getD 0 0 = fb.getD 0 0 := fun l => by
      cases fb with
      | nil => simp at hne
      | cons a t => simp
    by_cases c4 : fb.getD 0 0 / 16 = 4
    · exfalso
      -- a first byte is never an index's
      unfold firstF at hF
      split at hF
      · simp at hF; obtain ⟨h1, h2⟩ := hF; rw [← h1] at c4; simp at c4; omega
      split at hF
      · rename_i h5; rw [hd_eq s.k s.r (by omega) (by omega) (by omega) (by omega)] at hF; simp at hF; rw [← hF] at c4; simp at c4; omega
      split at hF
      · rename_i h10
        have e1 : hd (16 * s.k) s.r = 16 * s.k + s.r := hd_eq s.k s.r (by omega) (by omega) (by omega) (by omega)
        have e2 : hd (16 * s.k + 32) s.r = 16 * s.k + 32 + s.r := by rw [show 16 * s.k + 32 = 16 * (s.k + 2) by omega, hd_eq (s.k + 2) s.r (by omega) (by omega) (by omega) (by omega)]
        have e3 : hd (16 * s.k + 64) s.r = 16 * s.k + 64 + s.r := by rw [show 16 * s.k + 64 = 16 * (s.k + 4) by omega, hd_eq (s.k + 4) s.r (by omega) (by omega) (by omega) (by omega)]
        rw [e1, e2, e3] at hF
        simp at hF
        split at hF
        · rw [← hF] at c4; simp at c4; omega
        split at hF
        · rw [← hF] at c4; simp at c4; omega
        · rw [← hF] at c4; simp at c4; omega
      split at hF
      · simp at hF; rw [← hF] at c4; simp at c4
      split at hF
      · simp at hF; rw [← hF] at c4; simp at c4
      · simp at hF
    have hdec : ∀ l : List Int, decF (fb ++ l) acc z = plainF (fb ++ l) acc z := fun l => by
      unfold decF
      rw [if_neg hm, if_neg (by rw [hac]; simp), if_neg hb, if_neg (by simp; intro h; exact absurd (List.length_eq_zero_iff.2 h) hne), hg0, if_neg c4, Int.toNat_natCast]
    have h0 := hdec []
    rw [List.append_nil, hx0] at h0
    obtain ⟨hall, hl0, _, hl5⟩ := first_plain s z acc fb [] x0 (by omega) (by omega) hv hv2 hz hF (by rw [List.append_nil]; exact h0.symm) hd2 hd3
    refine ⟨fun l => ?_, by omega⟩
    obtain ⟨x, hx, hR⟩ := hall l
    exact ⟨x, by rw [hdec, hx], ⟨hR.k, .inl ⟨by omega, by rw [hR.i]; show (-1 : Int) < 0; decide⟩, hR.r, hR.v, hR.n⟩⟩

/-- What is read off bytes can be written. -/
theorem plain_first (l : List Int) (acc : Int) (n : Nat) (t : Spc) (hb : Byt l) (hl : 0 < l.length) (hn : n = 1 ∨ n = 2 ∨ n = 4) (h : plainF l acc n = (t, 0)) (hk : t.k ≠ 14) :
    ∃ fb, firstF t n = (fb, true) ∧ 0 ≤ t.r ∧ t.r ≤ 15 ∧ t.i = -1 ∧ (fb.length : Int) ≤ t.n ∧ (t.k = 12 → ext t.v n = t.v) ∧ (∃ t', plainF fb acc n = (t', 0) ∧ t'.k = t.k) ∧
      0 < fb.length ∧ fb.getD 0 0 / 16 ≠ 4 ∧ (6 ≤ l.getD 0 0 / 16 → l.getD 0 0 ≠ 143 → 6 ≤ fb.getD 0 0 / 16 ∧ fb.getD 0 0 ≠ 143) := by
  obtain ⟨h0, h1⟩ := byt_hd hb hl
  have hval : ∀ (k r : Int) (z : Nat), (z = 1 ∨ z = 2 ∨ z = 4) → valueF k r 1 z l = (t, 0) → ∃ y : Int, 0 ≤ y ∧ y < 4294967296 ∧ t = ⟨k, r, -1, ext y z, 1 + z⟩ := by
    intro k r z hz he
    unfold valueF at he
    split at he
    · simp at he
    simp at he
    have hbb : Byt ((l.drop 1).take z) := fun x hx => hb x (List.mem_of_mem_drop (List.mem_of_mem_take hx))
    have hnb := num_bound hbb
    have hlen : ((l.drop 1).take z).length ≤ z := List.length_take_le _ _
    have hz2 : (256 : Int) ^ ((l.drop 1).take z).length ≤ 4294967296 := by
      have : ((l.drop 1).take z).length ≤ 4 := by omega
      generalize ((l.drop 1).take z).length = q at *
      rcases (by omega : q = 0 ∨ q = 1 ∨ q = 2 ∨ q = 3 ∨ q = 4) with rfl | rfl | rfl | rfl | rfl <;> decide
    refine ⟨num ((l.drop 1).take z), hnb.1, by omega, ?_⟩
    rw [← he]
    simp
  unfold plainF at h
  generalize hc : l.getD 0 0 = c at *
  simp only at h
  by_cases h4 : c / 16 < 4
  · rw [if_pos h4] at h
    split at h
    · rename_i ha
      simp at h
      subst h
      refine ⟨[c % 64 % 256], by simp [firstF]; omega, by simp, by simp, rfl, by simp, by simp, ?_, by simp, by simp; omega, by omega⟩
      have := plain0 (c % 64) acc n [] (by omega) (by omega)
      rw [if_pos ha] at this
      exact ⟨_, this, rfl⟩
    · simp [badS] at h
      rw [← h] at hk
      exact absurd rfl hk
  rw [if_neg h4] at h
  by_cases hbad : c / 16 = 4 ∨ (c / 16 < 8 ∧ c % 16 = 15) ∨ (c / 16 = 5 ∧ acc = 97)
  · rw [if_pos hbad] at h
    simp [badS] at h
    rw [← h] at hk
    exact absurd rfl hk
  rw [if_neg hbad] at h
  by_cases h8 : c / 16 = 8 ∧ c % 16 = 15
  · rw [if_pos h8] at h
    split at h
    · rename_i ha
      obtain ⟨y, hy0, hy1, rfl⟩ := hval _ _ _ hn h
      have hl := putB_len (ext y n) n (by omega)
      have hbd := ext_bd y n hn hy0 hy1
      refine ⟨143 :: putB (ext y n) n, by simp [firstF], by simp, by simp, rfl, by simp [hl]; omega, fun _ => ext_idem y n hn, ?_, by simp, by simp, by omega⟩
      have := plain12 (ext y n) acc n [] hn hbd.1 hbd.2
      rw [if_pos ha, List.append_nil] at this
      exact ⟨_, this, rfl⟩
    · simp [badS] at h
      rw [← h] at hk
      exact absurd rfl hk
  rw [if_neg h8] at h
  by_cases h9 : c / 16 = 9 ∧ c % 16 = 15
  · rw [if_pos h9] at h
    obtain ⟨y, hy0, hy1, rfl⟩ := hval _ _ _ (by omega) h
    have hl := putB_len (ext y 4) 4 (by omega)
    have hbd := ext_bd y 4 (by omega) hy0 hy1
    refine ⟨159 :: putB (ext y 4) 4, by simp [firstF], by simp, by simp, rfl, by simp [putB], by simp, ?_, by simp, by simp, by simp⟩
    have := plain13 (ext y 4) acc n [] hbd.1 hbd.2
    rw [List.append_nil] at this
    exact ⟨_, this, rfl⟩
  rw [if_neg h9] at h
  by_cases h10 : c / 16 < 10
  · rw [if_pos h10] at h
    simp at h
    subst h
    have e : hd (16 * (c / 16)) (c % 16) = c := by rw [hd_eq (c / 16) (c % 16) (by omega) (by omega) (by omega) (by omega)]; omega
    refine ⟨[c], by simp only [firstF]; rw [if_neg (by omega), if_pos (by omega), e], by simp; omega, by simp; omega, rfl, by simp, ?_, ?_, by simp, by simp; omega, by simp; intro a b; exact ⟨a, b⟩⟩
    · intro h; simp at h; omega
    · have := plain5 (c / 16) (c % 16) acc n [] (by omega) (by omega) (by omega) (by omega)
      rw [show 16 * (c / 16) + c % 16 = c by omega, if_neg (by omega), if_neg (by omega), if_neg (by omega)] at this
      exact ⟨_, this, rfl⟩
  rw [if_neg h10] at h
  obtain ⟨j, hj, hjz, hjc⟩ : ∃ j : Nat, j ≤ 2 ∧ 2 ^ ((c / 16 - 10) / 2).toNat = sz j ∧ c / 16 = 10 + c / 16 % 2 + 2 * j := by
    refine ⟨((c / 16 - 10) / 2).toNat, by omega, ?_, by omega⟩
    have : ((c / 16 - 10) / 2).toNat ≤ 2 := by omega
    generalize ((c / 16 - 10) / 2).toNat = q at *
    rcases (by omega : q = 0 ∨ q = 1 ∨ q = 2) with rfl | rfl | rfl <;> rfl
  rw [hjz] at h
  have hsz : sz j = 1 ∨ sz j = 2 ∨ sz j = 4 := by unfold sz; split; omega; split <;> omega
  obtain ⟨y, hy0, hy1, rfl⟩ := hval _ _ _ hsz h
  have hbd := ext_bd y (sz j) hsz hy0 hy1
  have hid := ext_idem y (sz j) hsz
  have hk2 : 10 + c / 16 % 2 = 10 ∨ 10 + c / 16 % 2 = 11 := by omega
  generalize 10 + c / 16 % 2 = K at *
  generalize hX : ext y (sz j) = X at *
  -- the smallest size that serves
  obtain ⟨i, hi, hix, hiz, hif⟩ : ∃ i : Nat, i ≤ 2 ∧ ext X (sz i) = X ∧ sz i ≤ sz j ∧ firstF ⟨K, c % 16, -1, X, 1 + sz j⟩ n = ((16 * (K + 2 * (i : Int)) + c % 16) :: putB X (sz i), true) := by
    have e1 : hd (16 * K) (c % 16) = 16 * K + c % 16 := hd_eq K (c % 16) (by omega) (by omega) (by omega) (by omega)
    have e2 : hd (16 * K + 32) (c % 16) = 16 * (K + 2) + c % 16 := by rw [show 16 * K + 32 = 16 * (K + 2) by omega, hd_eq (K + 2) (c % 16) (by omega) (by omega) (by omega) (by omega)]
    have e3 : hd (16 * K + 64) (c % 16) = 16 * (K + 4) + c % 16 := by rw [show 16 * K + 64 = 16 * (K + 4) by omega, hd_eq (K + 4) (c % 16) (by omega) (by omega) (by omega) (by omega)]
    unfold firstF
    simp only
    rw [if_neg (by omega), if_neg (by omega), if_pos hk2, e1, e2, e3]
    by_cases q1 : ext X 1 = X
    · rw [if_pos q1]
      exact ⟨0, by omega, q1, by have : sz 0 = 1 := rfl; omega, by simp [sz]⟩
    rw [if_neg q1]
    by_cases q2 : ext X 2 = X
    · rw [if_pos q2]
      refine ⟨1, by omega, q2, ?_, by simp [sz]⟩
      rcases hsz with e | e | e
      · rw [e] at hid; exact absurd hid q1
      · rw [e]; simp [sz]
      · rw [e]; simp [sz]
    rw [if_neg q2]
    refine ⟨2, by omega, by simp [sz, ext], ?_, by simp [sz]⟩
    rcases hsz with e | e | e
    · rw [e] at hid; exact absurd hid q1
    · rw [e] at hid; exact absurd hid q2
    · rw [e]; simp [sz]
  have hzz : sz i ≤ 4 := by unfold sz; split; omega; split <;> omega
  have hl := putB_len X (sz i) hzz
  refine ⟨_, hif, by simp; omega, by simp; omega, rfl, by simp [hl]; omega, ?_, ?_, by simp, by simp; omega, ?_⟩
  · intro h; simp at h; omega
  · have := plain10 K (c % 16) X acc i n [] hk2 hi (by omega) (by omega) hbd.1 hbd.2
    rw [List.append_nil] at this
    exact ⟨_, this, rfl⟩
  · intro _ _
    simp
    omega
theorem law2 (l : List Int) (acc n : Int) (t : Spc) (hb : Byt l) (h : decF l acc n = (t, 0)) (hk : t.k ≠ 14) : ∃ d, encF t acc n = (d, 0) ∧ (d.length : Int) ≤ t.n := by
  unfold decF at h
  by_cases hm : msk n = 0
  · rw [if_pos hm] at h; simp at h
  rw [if_neg hm] at h
  obtain ⟨z, rfl, hz⟩ : ∃ z : Nat, n = z ∧ (z = 1 ∨ z = 2 ∨ z = 4) := by
    rcases msk_cases hm with rfl | rfl | rfl
    · exact ⟨1, rfl, by omega⟩
    · exact ⟨2, rfl, by omega⟩
    · exact ⟨4, rfl, by omega⟩
  simp only [Int.toNat_natCast] at h
  cases hac : accs.contains acc
  · rw [if_pos hac] at h; simp at h
  rw [if_neg (by rw [hac]; simp)] at h
  by_cases hbr : acc = 98
  · rw [if_pos hbr] at h
    unfold valueF at h
    split at h
    · simp at h
    simp at h
    subst h
    refine ⟨putB (ext (num (l.take z)) z) z, ?_, ?_⟩
    · unfold encF
      rw [if_neg hm, if_pos hbr]
      unfold encB
      rw [if_pos ⟨rfl, by show (-1 : Int) < 0; decide, by simp, by simp, ext_idem _ z hz⟩]
      simp
    · rw [putB_len _ z (by omega)]
      simp
  rw [if_neg hbr] at h
  by_cases hl0 : l.length = 0
  · rw [if_pos hl0] at h; simp at h
  rw [if_neg hl0] at h
  by_cases h4 : l.getD 0 0 / 16 = 4
  · rw [if_pos h4] at h
    unfold indexedF at h
    by_cases c1 : l.getD 0 0 % 16 = 15
    · rw [if_pos c1] at h; simp [badS] at h; rw [← h] at hk; exact absurd rfl hk
    rw [if_neg c1] at h
    by_cases c2 : l.length < 2
    · rw [if_pos c2] at h; simp at h
    rw [if_neg c2] at h
    by_cases c3 : l.getD 1 0 / 16 < 6 ∨ l.getD 1 0 = 143
    · rw [if_pos c3] at h; simp [badS] at h; rw [← h] at hk; exact absurd rfl hk
    rw [if_neg c3] at h
    simp only at h
    have hg1 : (l.drop 1).getD 0 0 = l.getD 1 0 := by simp [List.getD]
    split at h
    · rename_i hp
      injection h with h _
      subst h
      have hk' : (plainF (l.drop 1) acc z).1.k ≠ 14 := hk
      obtain ⟨fb, hF, hr0, hr, hi, hlen, h12, ⟨t', ht', htk⟩, hf0, hf4, hfm⟩ := plain_first (l.drop 1) acc z (plainF (l.drop 1) acc z).1 (fun x hx => hb x (List.mem_of_mem_drop hx)) (by simp; omega) hz (by rw [← hp]) hk'
      rw [hg1] at hfm
      have hfm' := hfm (by omega) (by omega)
      rw [if_neg hk']
      generalize (plainF (l.drop 1) acc z).1 = p at *
      have hlt : l.getD 0 0 % 16 < 15 := by omega
      have hge : 0 ≤ l.getD 0 0 % 16 := by omega
      generalize l.getD 0 0 % 16 = q at *
      have hF' : firstF { p with n := p.n + 1, i := q } z = (fb, true) := by rw [← hF]; rfl
      have hco : codeF { p with n := p.n + 1, i := q } z = (64 + q) :: fb := by unfold codeF; rw [if_pos hge, hF', ib_eq q hge (by omega)]
      refine ⟨(64 + q) :: fb, ?_, by simp; omega⟩
      have hd : decF ((64 + q) :: fb) acc z = ({ t' with n := t'.n + 1, i := q }, 0) := by
        unfold decF
        rw [if_neg hm, if_neg (by rw [hac]; simp), if_neg hbr, if_neg (by simp)]
        simp only [List.getD_cons_zero]
        rw [if_pos (by omega)]
        unfold indexedF
        simp only [List.getD_cons_zero, List.length_cons, List.getD_cons_succ, List.drop_succ_cons, List.drop_zero, Int.toNat_natCast]
        rw [show (64 + q) % 16 = q by omega, if_neg c1, if_neg (by omega), if_neg (by omega), ht']
        simp only [if_true]
        rw [if_neg (by rw [htk]; exact hk')]
      unfold encF
      simp only [Int.toNat_natCast]
      rw [if_neg hm, if_neg hbr, hF', hco, hd, if_neg (by simp; omega), if_neg ?_]
      simp only
      intro hh
      rcases hh with hh | hh | hh
      · exact hh rfl
      · exact hh htk
      · exact hh.2 (h12 hh.1)
    · rename_i hp
      rw [h] at hp
      exact absurd rfl hp
  · rw [if_neg h4] at h
    obtain ⟨fb, hF, hr0, hr, hi, hlen, h12, ⟨t', ht', htk⟩, hf0, hf4, hfm⟩ := plain_first l acc z t hb (by omega) hz h hk
    have hco : codeF t z = fb := by unfold codeF; rw [if_neg (by rw [hi]; decide), hF]
    refine ⟨fb, ?_, hlen⟩
    have hd : decF fb acc z = (t', 0) := by
      unfold decF
      rw [if_neg hm, if_neg (by rw [hac]; simp), if_neg hbr, if_neg (by omega), if_neg hf4, Int.toNat_natCast]
      exact ht'
    unfold encF
    simp only [Int.toNat_natCast]
    rw [if_neg hm, if_neg hbr, hF, hco, hd, if_neg (by simp; omega), if_neg ?_]
    simp only
    intro hh
    rcases hh with hh | hh | hh
    · exact hh rfl
    · exact hh htk
    · exact hh.2 (h12 hh.1)
end Go.Proofs.Ytoocbodkjldlcaa.Sp
