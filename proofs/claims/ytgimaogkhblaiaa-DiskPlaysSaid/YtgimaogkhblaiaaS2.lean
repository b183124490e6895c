/- What the library's sort makes of a row of any length, the rest of its parts, and the whole. Plain. -/
import Derived.Test.YtgimaogkhblaiaaS1
set_option linter.unusedVariables false
set_option linter.unusedSimpArgs false
namespace Go.Proofs.Ytgimaogkhblaiaa
open Go.Ev Go.Sort

/-! ### The partial insertion sort -/
theorem scanSorted_eq {n b : Nat} {a j : Int} (hn2 : n ≤ 100000) (hb : b ≤ n) : ∀ {k i : Nat} {d : Array Int}, b - i ≤ k → 1 ≤ i → i ≤ 100000 → d.size = n →
    runL (slices_partialInsertionSortOrdered_uint64_L1_2_step n a b j d.toList) (i : Int) = some ((scanSorted ltInt d b i : Nat) : Int) := by
  intro k
  induction k with
  | zero =>
    intro i d hk h1 hi hd
    refine runL_done ?_
    rw [scanSorted, if_neg (by simp; omega), slices_partialInsertionSortOrdered_uint64_L1_2_step, df (by omega)]
    rfl
  | succ k ih =>
    intro i d hk h1 hi hd
    by_cases hib : i < b
    · cases h : ltInt d[i]! d[i - 1]!
      · rw [scanSorted, if_pos (by simp [h]; exact hib), runL_next (s' := ((i + 1 : Nat) : Int))]
        · exact ih (by omega) (by omega) (by omega) hd
        · rw [slices_partialInsertionSortOrdered_uint64_L1_2_step]
          simp (disch := omega) only [im2, imk, ia, ia1, is_, is1, iq, dt, df, cond_true, cond_false, Bool.and_self, Bool.not_true, Bool.not_false, less_arr, Option.bind_some, Int.toNat_natCast, Nat.zero_add, getL, swpL, h]
      · rw [scanSorted, if_neg (by simp [h])]
        refine runL_done ?_
        rw [slices_partialInsertionSortOrdered_uint64_L1_2_step]
        simp (disch := omega) only [im2, imk, ia, ia1, is_, is1, iq, dt, df, cond_true, cond_false, Bool.and_self, Bool.not_true, Bool.not_false, less_arr, Option.bind_some, Int.toNat_natCast, Nat.zero_add, getL, swpL, h]
    · rw [scanSorted, if_neg (by simp; omega)]
      refine runL_done ?_
      rw [slices_partialInsertionSortOrdered_uint64_L1_2_step, df (by omega)]
      rfl
theorem scanSorted_ge {b : Nat} : ∀ {k i : Nat} {d : Array Int}, b - i ≤ k → i ≤ scanSorted ltInt d b i ∧ (i ≤ b → scanSorted ltInt d b i ≤ b) := by
  intro k
  induction k with
  | zero => intro i d hk; rw [scanSorted, if_neg (by simp; omega)]; exact ⟨Nat.le_refl _, fun h => h⟩
  | succ k ih =>
    intro i d hk
    rw [scanSorted]
    split
    · rename_i h
      simp only [Bool.and_eq_true, decide_eq_true_eq] at h
      have := ih (i := i + 1) (d := d) (by omega)
      exact ⟨by omega, fun hb => this.2 (by omega)⟩
    · exact ⟨Nat.le_refl _, fun h => h⟩
theorem shiftDown_eq' {n : Nat} {a b i j : Int} (hn2 : n ≤ 100000) : ∀ {q : Nat} {d : Array Int}, q < n → d.size = n →
    runL (slices_partialInsertionSortOrdered_uint64_L2_2_step n a b i j) ((q : Int), d.toList) = some (shiftDown ltInt q d).toList := by
  intro q
  induction q with
  | zero =>
    intro d hq hd
    refine runL_done ?_
    rw [slices_partialInsertionSortOrdered_uint64_L2_2_step, df (by omega)]
    rfl
  | succ q ih =>
    intro d hq hd
    cases h : ltInt d[q + 1]! d[q]!
    · rw [shiftDown, if_pos (by simp [h])]
      refine runL_done ?_
      rw [slices_partialInsertionSortOrdered_uint64_L2_2_step]
      simp (disch := omega) only [im2, imk, ia, ia1, is_, is1, iq, dt, df, cond_true, cond_false, Bool.and_self, Bool.not_true, Bool.not_false, less_arr, Option.bind_some, Int.toNat_natCast, Nat.zero_add, getL, swpL, Nat.add_sub_cancel, h]
    · rw [shiftDown, if_neg (by simp [h]), runL_next (s' := ((q : Int), (swp d (q + 1) q).toList))]
      · exact ih (by omega) (by rw [size_swp, hd])
      · rw [slices_partialInsertionSortOrdered_uint64_L2_2_step]
        simp (disch := omega) only [im2, imk, ia, ia1, is_, is1, iq, dt, df, cond_true, cond_false, Bool.and_self, Bool.not_true, Bool.not_false, less_arr, Option.bind_some, Int.toNat_natCast, Nat.zero_add, getL, swpL, Nat.add_sub_cancel, h]
theorem shiftUp_eq {n b : Nat} {a i j : Int} (hn2 : n ≤ 100000) (hb : b ≤ n) : ∀ {k q : Nat} {d : Array Int}, b - q ≤ k → 1 ≤ q → q ≤ 100000 → d.size = n →
    runL (slices_partialInsertionSortOrdered_uint64_L3_2_step n a b i j) ((q : Int), d.toList) = some (shiftUp ltInt b q d).toList := by
  intro k
  induction k with
  | zero =>
    intro q d hk h1 hq hd
    refine runL_done ?_
    rw [shiftUp, if_neg (by omega), slices_partialInsertionSortOrdered_uint64_L3_2_step, df (by omega)]
    rfl
  | succ k ih =>
    intro q d hk h1 hq hd
    by_cases hqb : q < b
    · cases h : ltInt d[q]! d[q - 1]!
      · rw [shiftUp, if_pos hqb, if_pos (by simp [h])]
        refine runL_done ?_
        rw [slices_partialInsertionSortOrdered_uint64_L3_2_step]
        simp (disch := omega) only [im2, imk, ia, ia1, is_, is1, iq, dt, df, cond_true, cond_false, Bool.and_self, Bool.not_true, Bool.not_false, less_arr, Option.bind_some, Int.toNat_natCast, Nat.zero_add, getL, swpL, h]
      · rw [shiftUp, if_pos hqb, if_neg (by simp [h]), runL_next (s' := (((q + 1 : Nat) : Int), (swp d q (q - 1)).toList))]
        · exact ih (by omega) (by omega) (by omega) (by rw [size_swp, hd])
        · rw [slices_partialInsertionSortOrdered_uint64_L3_2_step]
          simp (disch := omega) only [im2, imk, ia, ia1, is_, is1, iq, dt, df, cond_true, cond_false, Bool.and_self, Bool.not_true, Bool.not_false, less_arr, Option.bind_some, Int.toNat_natCast, Nat.zero_add, getL, swpL, h]
    · rw [shiftUp, if_neg hqb]
      refine runL_done ?_
      rw [slices_partialInsertionSortOrdered_uint64_L3_2_step, df (by omega)]
      rfl
theorem shiftDown_size : ∀ {q : Nat} {d : Array Int}, (shiftDown ltInt q d).size = d.size
  | 0, d => rfl
  | q + 1, d => by
    rw [shiftDown]
    split
    · rfl
    · rw [shiftDown_size, size_swp]
theorem shiftUp_size {b : Nat} : ∀ {k q : Nat} {d : Array Int}, b - q ≤ k → (shiftUp ltInt b q d).size = d.size := by
  intro k
  induction k with
  | zero => intro q d hk; rw [shiftUp, if_neg (by omega)]
  | succ k ih =>
    intro q d hk
    rw [shiftUp]
    split
    · split
      · rfl
      · rw [ih (by omega), size_swp]
    · rfl
theorem partialIns_unfold (a b s i : Nat) (d : Array Int) : partialIns ltInt a b (s + 1) i d =
    (if scanSorted ltInt d b i = b then (d, true) else if b - a < 50 then (d, false) else
      partialIns ltInt a b s (scanSorted ltInt d b i) (if b - scanSorted ltInt d b i ≥ 2 then shiftUp ltInt b (scanSorted ltInt d b i + 1) (if scanSorted ltInt d b i - a ≥ 2 then shiftDown ltInt (scanSorted ltInt d b i - 1) (swp d (scanSorted ltInt d b i) (scanSorted ltInt d b i - 1)) else swp d (scanSorted ltInt d b i) (scanSorted ltInt d b i - 1)) else (if scanSorted ltInt d b i - a ≥ 2 then shiftDown ltInt (scanSorted ltInt d b i - 1) (swp d (scanSorted ltInt d b i) (scanSorted ltInt d b i - 1)) else swp d (scanSorted ltInt d b i) (scanSorted ltInt d b i - 1)))) := rfl
theorem partialIns_size {a b : Nat} : ∀ {s i : Nat} {d : Array Int}, (partialIns ltInt a b s i d).1.size = d.size
  | 0, i, d => rfl
  | s + 1, i, d => by
    rw [partialIns_unfold]
    generalize scanSorted ltInt d b i = m
    split
    · rfl
    · split
      · rfl
      · rw [partialIns_size]
        split <;> split <;> simp only [shiftUp_size (Nat.le_refl _), shiftDown_size, size_swp]
def pz : (Bool × List Int) ⊕ (List Int) → Bool × List Int
  | .inl (b2, l_) => (b2, l_)
  | .inr l_ => (false, l_)
theorem partialIns_eq {n a b : Nat} (hn2 : n ≤ 100000) (hab : a < b) (hb : b ≤ n) : ∀ {s i : Nat} {d : Array Int}, s ≤ 5 → a + 1 ≤ i → i ≤ b → d.size = n →
    ∃ z, runL (slices_partialInsertionSortOrdered_uint64_L0_step n a b) ((i : Int), ((5 - s : Nat) : Int), d.toList) = some z ∧ pz z = ((partialIns ltInt a b s i d).2, (partialIns ltInt a b s i d).1.toList) := by
  intro s
  induction s with
  | zero =>
    intro i d hs hi hib hd
    refine ⟨.inr d.toList, runL_done ?_, rfl⟩
    rw [slices_partialInsertionSortOrdered_uint64_L0_step, df (by omega)]
    rfl
  | succ s ih =>
    intro i d hs hi hib hd
    have hsc := scanSorted_eq (n := n) (b := b) (a := a) (j := ((5 - (s + 1) : Nat) : Int)) hn2 hb (k := b - i) (i := i) (d := d) (Nat.le_refl _) (by omega) (by omega) hd
    have hge := scanSorted_ge (b := b) (k := b - i) (i := i) (d := d) (Nat.le_refl _)
    rw [partialIns_unfold]
    generalize scanSorted ltInt d b i = m at hsc hge
    have hmb := hge.2 hib
    by_cases hm : m = b
    · refine ⟨.inl (true, d.toList), runL_done ?_, by rw [if_pos hm]; rfl⟩
      rw [slices_partialInsertionSortOrdered_uint64_L0_step]
      simp (disch := omega) only [im2, imk, ia, ia1, is_, is1, iq, dt, df, cond_true, cond_false, Bool.and_self, Bool.not_true, Bool.not_false, less_arr, Option.bind_some, Int.toNat_natCast, Nat.zero_add, getL, swpL, hsc]
    · by_cases h50 : b - a < 50
      · refine ⟨.inl (false, d.toList), runL_done ?_, by rw [if_neg hm, if_pos h50]; rfl⟩
        rw [slices_partialInsertionSortOrdered_uint64_L0_step]
        simp (disch := omega) only [im2, imk, ia, ia1, is_, is1, iq, dt, df, cond_true, cond_false, Bool.and_self, Bool.not_true, Bool.not_false, less_arr, Option.bind_some, Int.toNat_natCast, Nat.zero_add, getL, swpL, hsc]
      · rw [if_neg hm, if_neg h50]
        have hz : (swp d m (m - 1)).size = n := by rw [size_swp, hd]
        have hsd := fun (z : Int) (z2 : Int) (z3 : Int) (z4 : Int) => shiftDown_eq' (n := n) (a := z) (b := z2) (i := z3) (j := z4) hn2 (q := m - 1) (d := swp d m (m - 1)) (by omega) hz
        have hsu := fun (z : Int) (z3 : Int) (z4 : Int) (D : Array Int) (hD : D.size = n) => shiftUp_eq (n := n) (b := b) (a := z) (i := z3) (j := z4) hn2 hb (k := b - (m + 1)) (q := m + 1) (d := D) (Nat.le_refl _) (by omega) (by omega) hD
        have e5 : ((5 - (s + 1) + 1 : Nat) : Int) = ((5 - s : Nat) : Int) := by omega
        by_cases g1 : m - a ≥ 2
        · have hz2 : (shiftDown ltInt (m - 1) (swp d m (m - 1))).size = n := by rw [shiftDown_size, hz]
          by_cases g2 : b - m ≥ 2
          · rw [if_pos g1, if_pos g2]
            have hst : slices_partialInsertionSortOrdered_uint64_L0_step n a b ((i : Int), ((5 - (s + 1) : Nat) : Int), d.toList) = some (.inl ((m : Int), ((5 - s : Nat) : Int), (shiftUp ltInt b (m + 1) (shiftDown ltInt (m - 1) (swp d m (m - 1)))).toList)) := by
              rw [slices_partialInsertionSortOrdered_uint64_L0_step]
              simp (disch := omega) only [im2, imk, ia, ia1, is_, is1, iq, dt, df, cond_true, cond_false, Bool.and_self, Bool.not_true, Bool.not_false, less_arr, Option.bind_some, Int.toNat_natCast, Nat.zero_add, getL, swpL, hsc, hsd, hsu, hz2, e5]
            rw [runL_next hst]
            exact ih (by omega) (by omega) (by omega) (by rw [shiftUp_size (Nat.le_refl _), hz2])
          · rw [if_pos g1, if_neg g2]
            have hst : slices_partialInsertionSortOrdered_uint64_L0_step n a b ((i : Int), ((5 - (s + 1) : Nat) : Int), d.toList) = some (.inl ((m : Int), ((5 - s : Nat) : Int), (shiftDown ltInt (m - 1) (swp d m (m - 1))).toList)) := by
              rw [slices_partialInsertionSortOrdered_uint64_L0_step]
              simp (disch := omega) only [im2, imk, ia, ia1, is_, is1, iq, dt, df, cond_true, cond_false, Bool.and_self, Bool.not_true, Bool.not_false, less_arr, Option.bind_some, Int.toNat_natCast, Nat.zero_add, getL, swpL, hsc, hsd, hsu, hz2, e5]
            rw [runL_next hst]
            exact ih (by omega) (by omega) (by omega) hz2
        · by_cases g2 : b - m ≥ 2
          · rw [if_neg g1, if_pos g2]
            have hst : slices_partialInsertionSortOrdered_uint64_L0_step n a b ((i : Int), ((5 - (s + 1) : Nat) : Int), d.toList) = some (.inl ((m : Int), ((5 - s : Nat) : Int), (shiftUp ltInt b (m + 1) (swp d m (m - 1))).toList)) := by
              rw [slices_partialInsertionSortOrdered_uint64_L0_step]
              simp (disch := omega) only [im2, imk, ia, ia1, is_, is1, iq, dt, df, cond_true, cond_false, Bool.and_self, Bool.not_true, Bool.not_false, less_arr, Option.bind_some, Int.toNat_natCast, Nat.zero_add, getL, swpL, hsc, hsd, hsu, hz, e5]
            rw [runL_next hst]
            exact ih (by omega) (by omega) (by omega) (by rw [shiftUp_size (Nat.le_refl _), hz])
          · exfalso
            omega
theorem partialInsertion_eq {n a b : Nat} {d : Array Int} (hn2 : n ≤ 100000) (hab : a < b) (hb : b ≤ n) (hd : d.size = n) : slices_partialInsertionSortOrdered_uint64 n (a : Int) (b : Int) d.toList = some ((partialInsertionSort ltInt d a b).2, (partialInsertionSort ltInt d a b).1.toList) := by
  unfold slices_partialInsertionSortOrdered_uint64 partialInsertionSort
  obtain ⟨z, h1, h2⟩ := partialIns_eq hn2 hab hb (s := 5) (i := a + 1) (d := d) (Nat.le_refl _) (Nat.le_refl _) (by omega) hd
  rw [ia1 (by omega)]
  simp only [Nat.sub_self, Int.natCast_zero] at h1
  rw [h1, Option.bind_some, ← h2]
  rcases z with ⟨b2, l⟩ | l <;> rfl

/-! ### The partitions -/
theorem up3_eq {n a j : Nat} (hn2 : n ≤ 100000) (ha : a < n) (hj : j < n) : ∀ {k i : Nat} {d : Array Int}, j + 1 - i ≤ k → i ≤ 100000 → d.size = n →
    runL (slices_partitionOrdered_uint64_L3_step n a j d.toList) (i : Int) = some ((scanUp (fun x => ltInt x d[a]!) d j i : Nat) : Int) := by
  intro k
  induction k with
  | zero =>
    intro i d hk hi hd
    refine runL_done ?_
    rw [scanUp, if_neg (by simp; omega), slices_partitionOrdered_uint64_L3_step, df (by omega)]
    rfl
  | succ k ih =>
    intro i d hk hi hd
    by_cases hij : i ≤ j
    · cases h : ltInt d[i]! d[a]!
      · rw [scanUp, if_neg (by simp [h])]
        refine runL_done ?_
        rw [slices_partitionOrdered_uint64_L3_step]
        simp (disch := omega) only [im2, imk, ia, ia1, is_, is1, iq, dt, df, cond_true, cond_false, Bool.and_self, Bool.not_true, Bool.not_false, less_arr, Option.bind_some, Int.toNat_natCast, Nat.zero_add, getL, swpL, h]
      · rw [scanUp, if_pos (by simp [h]; exact hij), runL_next (s' := ((i + 1 : Nat) : Int))]
        · exact ih (by omega) (by omega) hd
        · rw [slices_partitionOrdered_uint64_L3_step]
          simp (disch := omega) only [im2, imk, ia, ia1, is_, is1, iq, dt, df, cond_true, cond_false, Bool.and_self, Bool.not_true, Bool.not_false, less_arr, Option.bind_some, Int.toNat_natCast, Nat.zero_add, getL, swpL, h]
    · rw [scanUp, if_neg (by simp; omega)]
      refine runL_done ?_
      rw [slices_partitionOrdered_uint64_L3_step, df (by omega)]
      rfl
theorem down4_eq {n a i : Nat} (hn2 : n ≤ 100000) (ha : a < n) (hi : 1 ≤ i) : ∀ {j : Nat} {d : Array Int}, j < n → d.size = n →
    runL (slices_partitionOrdered_uint64_L4_step n a i d.toList) (j : Int) = some ((scanDown (fun x => !ltInt x d[a]!) d i j : Nat) : Int) := by
  intro j
  induction j with
  | zero =>
    intro d hj hd
    refine runL_done ?_
    rw [scanDown, slices_partitionOrdered_uint64_L4_step, df (by omega)]
    rfl
  | succ j ih =>
    intro d hj hd
    by_cases hij : i ≤ j + 1
    · cases h : ltInt d[j + 1]! d[a]!
      · rw [scanDown, if_pos (by simp [h]; exact hij), runL_next (s' := (j : Int))]
        · exact ih (by omega) hd
        · rw [slices_partitionOrdered_uint64_L4_step]
          simp (disch := omega) only [im2, imk, ia, ia1, is_, is1, iq, dt, df, cond_true, cond_false, Bool.and_self, Bool.not_true, Bool.not_false, less_arr, Option.bind_some, Int.toNat_natCast, Nat.zero_add, getL, swpL, Nat.add_sub_cancel, h]
      · rw [scanDown, if_neg (by simp [h])]
        refine runL_done ?_
        rw [slices_partitionOrdered_uint64_L4_step]
        simp (disch := omega) only [im2, imk, ia, ia1, is_, is1, iq, dt, df, cond_true, cond_false, Bool.and_self, Bool.not_true, Bool.not_false, less_arr, Option.bind_some, Int.toNat_natCast, Nat.zero_add, getL, swpL, h]
    · rw [scanDown, if_neg (by simp; omega)]
      refine runL_done ?_
      rw [slices_partitionOrdered_uint64_L4_step, df (by omega)]
      rfl
theorem up0_same {n a j : Nat} {l : List Int} : slices_partitionOrdered_uint64_L0_step n a j l = slices_partitionOrdered_uint64_L3_step n a j l := rfl
theorem down1_same {n a i : Nat} {l : List Int} : slices_partitionOrdered_uint64_L1_step n a i l = slices_partitionOrdered_uint64_L4_step n a i l := rfl
theorem up_le {p : Int → Bool} {d : Array Int} {j : Nat} : ∀ {k i : Nat}, j + 1 - i ≤ k → i ≤ j + 1 → scanUp p d j i ≤ j + 1 := by
  intro k
  induction k with
  | zero => intro i hk hi; rw [scanUp, if_neg (by simp; omega)]; exact hi
  | succ k ih =>
    intro i hk hi
    rw [scanUp]
    split
    · rename_i h
      simp only [Bool.and_eq_true, decide_eq_true_eq] at h
      exact ih (by omega) (by omega)
    · exact hi
theorem down_ge {p : Int → Bool} {d : Array Int} {i : Nat} : ∀ {j : Nat}, i ≤ j + 1 → i ≤ scanDown p d i j + 1
  | 0, h => by rw [scanDown]; exact h
  | j + 1, h => by
    rw [scanDown]
    split
    · rename_i hq
      simp only [Bool.and_eq_true, decide_eq_true_eq] at hq
      exact down_ge hq.1
    · exact h
theorem up_stop {p : Int → Bool} {d : Array Int} {j : Nat} : ∀ {k i : Nat}, j + 1 - i ≤ k → scanUp p d j i ≤ j → p d[scanUp p d j i]! = false := by
  intro k
  induction k with
  | zero =>
    intro i hk h
    rw [scanUp, if_neg (by simp; omega)] at h
    omega
  | succ k ih =>
    intro i hk h
    by_cases hc : (i ≤ j && p d[i]!) = true
    · rw [scanUp, if_pos hc] at h ⊢
      exact ih (by simp at hc; omega) h
    · rw [scanUp, if_neg hc] at h ⊢
      simpa [h] using hc
theorem down_stop {p : Int → Bool} {d : Array Int} {i : Nat} (hi : 1 ≤ i) : ∀ {j : Nat}, i ≤ scanDown p d i j → p d[scanDown p d i j]! = false
  | 0, h => by rw [scanDown] at h; omega
  | j + 1, h => by
    by_cases hc : (i ≤ j + 1 && p d[j + 1]!) = true
    · rw [scanDown, if_pos hc] at h ⊢
      exact down_stop hi h
    · rw [scanDown, if_neg hc] at h ⊢
      simpa [h] using hc
theorem partLoop_eq' {n a : Nat} (hn2 : n ≤ 100000) (ha : a < n) : ∀ {k i j : Nat} {d : Array Int}, j + 1 - i ≤ k → 1 ≤ i → i ≤ j + 1 → j < n → d.size = n →
    runL (slices_partitionOrdered_uint64_L2_step n a) ((i : Int), (j : Int), d.toList) = some (((partLoop ltInt a i j d).1 : Int), (partLoop ltInt a i j d).2.toList) ∧ (i ≤ (partLoop ltInt a i j d).1 + 1 ∧ (partLoop ltInt a i j d).1 ≤ j) ∧ (partLoop ltInt a i j d).2.size = n := by
  intro k
  induction k using Nat.strongRecOn with
  | ind k ih =>
    intro i j d hk hi hij hj hd
    have h1 := up3_eq hn2 ha hj (k := j + 1 - i) (i := i) (d := d) (Nat.le_refl _) (by omega) hd
    have g1 := scanUp_ge (fun x => ltInt x d[a]!) d j i
    have u1 := up_le (p := fun x => ltInt x d[a]!) (d := d) (j := j) (k := j + 1 - i) (i := i) (Nat.le_refl _) hij
    rw [partLoop_eq]
    have w1 := up_stop (p := fun x => ltInt x d[a]!) (d := d) (j := j) (k := j + 1 - i) (i := i) (Nat.le_refl _)
    generalize scanUp (fun x => ltInt x d[a]!) d j i = m at h1 g1 u1 w1
    have h2 := down4_eq hn2 ha (i := m) (by omega) (j := j) (d := d) hj hd
    have g2 := scanDown_le (fun x => !ltInt x d[a]!) d m j
    have u2 := down_ge (p := fun x => !ltInt x d[a]!) (d := d) (i := m) (j := j) u1
    have w2 := down_stop (p := fun x => !ltInt x d[a]!) (d := d) (i := m) (by omega) (j := j)
    generalize scanDown (fun x => !ltInt x d[a]!) d m j = q at h2 g2 u2 w2
    have hne : m ≤ q → m ≠ q := fun h e => by
      subst e
      have a1 := w1 (by omega)
      have a2 := w2 h
      simp only [a1] at a2
      exact absurd a2 (by decide)
    by_cases hmq : m > q
    · rw [if_pos hmq]
      refine ⟨runL_done ?_, ⟨by simp only []; omega, g2⟩, hd⟩
      rw [slices_partitionOrdered_uint64_L2_step]
      simp (disch := omega) only [im2, imk, ia, ia1, is_, is1, iq, dt, df, cond_true, cond_false, Bool.and_self, Bool.not_true, Bool.not_false, less_arr, Option.bind_some, Int.toNat_natCast, Nat.zero_add, getL, swpL, h1, h2]
    · have hne := hne (by omega)
      rw [if_neg hmq]
      have hst : slices_partitionOrdered_uint64_L2_step n a ((i : Int), (j : Int), d.toList) = some (.inl (((m + 1 : Nat) : Int), ((q - 1 : Nat) : Int), (swp d m q).toList)) := by
        rw [slices_partitionOrdered_uint64_L2_step]
        simp (disch := omega) only [im2, imk, ia, ia1, is_, is1, iq, dt, df, cond_true, cond_false, Bool.and_self, Bool.not_true, Bool.not_false, less_arr, Option.bind_some, Int.toNat_natCast, Nat.zero_add, getL, swpL, h1, h2]
      rw [runL_next hst]
      have := ih (q - 1 + 1 - (m + 1)) (by omega) (i := m + 1) (j := q - 1) (d := swp d m q) (Nat.le_refl _) (by omega) (by omega) (by omega) (by rw [size_swp, hd])
      exact ⟨this.1, by omega, this.2.2⟩
theorem partition_eq {n a b pivot : Nat} {d : Array Int} (hn2 : n ≤ 100000) (hap : a ≤ pivot) (hpb : pivot < b) (hab : a + 2 ≤ b) (hb : b ≤ n) (hd : d.size = n) :
    slices_partitionOrdered_uint64 n (a : Int) (b : Int) (pivot : Int) d.toList = some (((Go.Sort.partition ltInt d a b pivot).1 : Int), (Go.Sort.partition ltInt d a b pivot).2.1, (Go.Sort.partition ltInt d a b pivot).2.2.toList) ∧ (a ≤ (Go.Sort.partition ltInt d a b pivot).1 ∧ (Go.Sort.partition ltInt d a b pivot).1 < b) ∧ (Go.Sort.partition ltInt d a b pivot).2.2.size = n := by
  have hz : (swp d a pivot).size = n := by rw [size_swp, hd]
  have hP : Go.Sort.partition ltInt d a b pivot = (let d := swp d a pivot
    let i := scanUp (fun x => ltInt x d[a]!) d (b - 1) (a + 1)
    let j := scanDown (fun x => !ltInt x d[a]!) d i (b - 1)
    if i > j then (j, true, swp d j a) else
      let r := partLoop ltInt a (i + 1) (j - 1) (swp d i j)
      (r.1, false, swp r.2 r.1 a)) := rfl
  rw [hP]
  simp only []
  unfold slices_partitionOrdered_uint64
  generalize hD : swp d a pivot = D at hz
  have h1 := up3_eq hn2 (show a < n by omega) (show b - 1 < n by omega) (k := b - 1 + 1 - (a + 1)) (i := a + 1) (d := D) (Nat.le_refl _) (by omega) hz
  have g1 := scanUp_ge (fun x => ltInt x D[a]!) D (b - 1) (a + 1)
  have u1 := up_le (p := fun x => ltInt x D[a]!) (d := D) (j := b - 1) (k := b - 1 + 1 - (a + 1)) (i := a + 1) (Nat.le_refl _) (by omega)
  have w1 := up_stop (p := fun x => ltInt x D[a]!) (d := D) (j := b - 1) (k := b - 1 + 1 - (a + 1)) (i := a + 1) (Nat.le_refl _)
  generalize scanUp (fun x => ltInt x D[a]!) D (b - 1) (a + 1) = m at h1 g1 u1 w1
  have h2 := down4_eq hn2 (show a < n by omega) (i := m) (by omega) (j := b - 1) (d := D) (by omega) hz
  have g2 := scanDown_le (fun x => !ltInt x D[a]!) D m (b - 1)
  have u2 := down_ge (p := fun x => !ltInt x D[a]!) (d := D) (i := m) (j := b - 1) u1
  have w2 := down_stop (p := fun x => !ltInt x D[a]!) (d := D) (i := m) (by omega) (j := b - 1)
  generalize scanDown (fun x => !ltInt x D[a]!) D m (b - 1) = q at h2 g2 u2 w2
  have hne : m ≤ q → m ≠ q := fun h e => by
    subst e
    have a1 := w1 (by omega)
    have a2 := w2 h
    simp only [a1] at a2
    exact absurd a2 (by decide)
  by_cases hmq : m > q
  · rw [if_pos hmq]
    refine ⟨?_, ⟨by simp only []; omega, by simp only []; omega⟩, by simp only [size_swp]; exact hz⟩
    simp (disch := omega) only [im2, imk, ia, ia1, is_, is1, iq, dt, df, cond_true, cond_false, Bool.and_self, Bool.not_true, Bool.not_false, less_arr, Option.bind_some, Int.toNat_natCast, Nat.zero_add, getL, swpL, up0_same, down1_same, hD, h1, h2]
  · have hne := hne (by omega)
    rw [if_neg hmq]
    have hL := partLoop_eq' hn2 (show a < n by omega) (k := q - 1 + 1 - (m + 1)) (i := m + 1) (j := q - 1) (d := swp D m q) (Nat.le_refl _) (by omega) (by omega) (by omega) (by rw [size_swp, hz])
    generalize partLoop ltInt a (m + 1) (q - 1) (swp D m q) = r at hL
    obtain ⟨hL1, hL2, hL3⟩ := hL
    refine ⟨?_, ⟨by simp only []; omega, by simp only []; omega⟩, by simp only [size_swp]; exact hL3⟩
    simp (disch := omega) only [im2, imk, ia, ia1, is_, is1, iq, dt, df, cond_true, cond_false, Bool.and_self, Bool.not_true, Bool.not_false, less_arr, Option.bind_some, Int.toNat_natCast, Nat.zero_add, getL, swpL, up0_same, down1_same, hD, h1, h2, hL1]

/-! ### The partition of equals -/
theorem upE_eq {n a j : Nat} (hn2 : n ≤ 100000) (ha : a < n) (hj : j < n) : ∀ {k i : Nat} {d : Array Int}, j + 1 - i ≤ k → i ≤ 100000 → d.size = n →
    runL (slices_partitionEqualOrdered_uint64_L1_step n a j d.toList) (i : Int) = some ((scanUp (fun x => !ltInt d[a]! x) d j i : Nat) : Int) := by
  intro k
  induction k with
  | zero =>
    intro i d hk hi hd
    refine runL_done ?_
    rw [scanUp, if_neg (by simp; omega), slices_partitionEqualOrdered_uint64_L1_step, df (by omega)]
    rfl
  | succ k ih =>
    intro i d hk hi hd
    by_cases hij : i ≤ j
    · cases h : ltInt d[a]! d[i]!
      · rw [scanUp, if_pos (by simp [h]; exact hij), runL_next (s' := ((i + 1 : Nat) : Int))]
        · exact ih (by omega) (by omega) hd
        · rw [slices_partitionEqualOrdered_uint64_L1_step]
          simp (disch := omega) only [im2, imk, ia, ia1, is_, is1, iq, dt, df, cond_true, cond_false, Bool.and_self, Bool.not_true, Bool.not_false, less_arr, Option.bind_some, Int.toNat_natCast, Nat.zero_add, getL, swpL, h]
      · rw [scanUp, if_neg (by simp [h])]
        refine runL_done ?_
        rw [slices_partitionEqualOrdered_uint64_L1_step]
        simp (disch := omega) only [im2, imk, ia, ia1, is_, is1, iq, dt, df, cond_true, cond_false, Bool.and_self, Bool.not_true, Bool.not_false, less_arr, Option.bind_some, Int.toNat_natCast, Nat.zero_add, getL, swpL, h]
    · rw [scanUp, if_neg (by simp; omega)]
      refine runL_done ?_
      rw [slices_partitionEqualOrdered_uint64_L1_step, df (by omega)]
      rfl
theorem downE_eq {n a i : Nat} (hn2 : n ≤ 100000) (ha : a < n) (hi : 1 ≤ i) : ∀ {j : Nat} {d : Array Int}, j < n → d.size = n →
    runL (slices_partitionEqualOrdered_uint64_L2_step n a i d.toList) (j : Int) = some ((scanDown (fun x => ltInt d[a]! x) d i j : Nat) : Int) := by
  intro j
  induction j with
  | zero =>
    intro d hj hd
    refine runL_done ?_
    rw [scanDown, slices_partitionEqualOrdered_uint64_L2_step, df (by omega)]
    rfl
  | succ j ih =>
    intro d hj hd
    by_cases hij : i ≤ j + 1
    · cases h : ltInt d[a]! d[j + 1]!
      · rw [scanDown, if_neg (by simp [h])]
        refine runL_done ?_
        rw [slices_partitionEqualOrdered_uint64_L2_step]
        simp (disch := omega) only [im2, imk, ia, ia1, is_, is1, iq, dt, df, cond_true, cond_false, Bool.and_self, Bool.not_true, Bool.not_false, less_arr, Option.bind_some, Int.toNat_natCast, Nat.zero_add, getL, swpL, h]
      · rw [scanDown, if_pos (by simp [h]; exact hij), runL_next (s' := (j : Int))]
        · exact ih (by omega) hd
        · rw [slices_partitionEqualOrdered_uint64_L2_step]
          simp (disch := omega) only [im2, imk, ia, ia1, is_, is1, iq, dt, df, cond_true, cond_false, Bool.and_self, Bool.not_true, Bool.not_false, less_arr, Option.bind_some, Int.toNat_natCast, Nat.zero_add, getL, swpL, Nat.add_sub_cancel, h]
    · rw [scanDown, if_neg (by simp; omega)]
      refine runL_done ?_
      rw [slices_partitionEqualOrdered_uint64_L2_step, df (by omega)]
      rfl
theorem partEqLoop_eq' {n a : Nat} (hn2 : n ≤ 100000) (ha : a < n) : ∀ {k i j : Nat} {d : Array Int}, j + 1 - i ≤ k → 1 ≤ i → i ≤ j + 1 → j < n → d.size = n →
    runL (slices_partitionEqualOrdered_uint64_L0_step n a) ((i : Int), (j : Int), d.toList) = some (((partEqLoop ltInt a i j d).1 : Int), (partEqLoop ltInt a i j d).2.toList) ∧ (i ≤ (partEqLoop ltInt a i j d).1 ∧ (partEqLoop ltInt a i j d).1 ≤ j + 1) ∧ (partEqLoop ltInt a i j d).2.size = n := by
  intro k
  induction k using Nat.strongRecOn with
  | ind k ih =>
    intro i j d hk hi hij hj hd
    have h1 := upE_eq hn2 ha hj (k := j + 1 - i) (i := i) (d := d) (Nat.le_refl _) (by omega) hd
    have g1 := scanUp_ge (fun x => !ltInt d[a]! x) d j i
    have u1 := up_le (p := fun x => !ltInt d[a]! x) (d := d) (j := j) (k := j + 1 - i) (i := i) (Nat.le_refl _) hij
    rw [partEqLoop_eq]
    have w1 := up_stop (p := fun x => !ltInt d[a]! x) (d := d) (j := j) (k := j + 1 - i) (i := i) (Nat.le_refl _)
    generalize scanUp (fun x => !ltInt d[a]! x) d j i = m at h1 g1 u1 w1
    have h2 := downE_eq hn2 ha (i := m) (by omega) (j := j) (d := d) hj hd
    have g2 := scanDown_le (fun x => ltInt d[a]! x) d m j
    have u2 := down_ge (p := fun x => ltInt d[a]! x) (d := d) (i := m) (j := j) u1
    have w2 := down_stop (p := fun x => ltInt d[a]! x) (d := d) (i := m) (by omega) (j := j)
    generalize scanDown (fun x => ltInt d[a]! x) d m j = q at h2 g2 u2 w2
    have hne : m ≤ q → m ≠ q := fun h e => by
      subst e
      have a1 := w1 (by omega)
      have a2 := w2 h
      simp only [a2] at a1
      exact absurd a1 (by decide)
    by_cases hmq : m > q
    · rw [if_pos hmq]
      refine ⟨runL_done ?_, ⟨g1, u1⟩, hd⟩
      rw [slices_partitionEqualOrdered_uint64_L0_step]
      simp (disch := omega) only [im2, imk, ia, ia1, is_, is1, iq, dt, df, cond_true, cond_false, Bool.and_self, Bool.not_true, Bool.not_false, less_arr, Option.bind_some, Int.toNat_natCast, Nat.zero_add, getL, swpL, h1, h2]
    · have hne := hne (by omega)
      rw [if_neg hmq]
      have hst : slices_partitionEqualOrdered_uint64_L0_step n a ((i : Int), (j : Int), d.toList) = some (.inl (((m + 1 : Nat) : Int), ((q - 1 : Nat) : Int), (swp d m q).toList)) := by
        rw [slices_partitionEqualOrdered_uint64_L0_step]
        simp (disch := omega) only [im2, imk, ia, ia1, is_, is1, iq, dt, df, cond_true, cond_false, Bool.and_self, Bool.not_true, Bool.not_false, less_arr, Option.bind_some, Int.toNat_natCast, Nat.zero_add, getL, swpL, h1, h2]
      rw [runL_next hst]
      have := ih (q - 1 + 1 - (m + 1)) (by omega) (i := m + 1) (j := q - 1) (d := swp d m q) (Nat.le_refl _) (by omega) (by omega) (by omega) (by rw [size_swp, hd])
      exact ⟨this.1, by omega, this.2.2⟩
theorem partitionEqual_eq {n a b pivot : Nat} {d : Array Int} (hn2 : n ≤ 100000) (hap : a ≤ pivot) (hpb : pivot < b) (hab : a + 2 ≤ b) (hb : b ≤ n) (hd : d.size = n) :
    slices_partitionEqualOrdered_uint64 n (a : Int) (b : Int) (pivot : Int) d.toList = some (((partitionEqual ltInt d a b pivot).1 : Int), (partitionEqual ltInt d a b pivot).2.toList) ∧ (a < (partitionEqual ltInt d a b pivot).1 ∧ (partitionEqual ltInt d a b pivot).1 ≤ b) ∧ (partitionEqual ltInt d a b pivot).2.size = n := by
  have hz : (swp d a pivot).size = n := by rw [size_swp, hd]
  unfold slices_partitionEqualOrdered_uint64 partitionEqual
  have hL := partEqLoop_eq' hn2 (show a < n by omega) (k := b - 1 + 1 - (a + 1)) (i := a + 1) (j := b - 1) (d := swp d a pivot) (Nat.le_refl _) (by omega) (by omega) (by omega) hz
  generalize partEqLoop ltInt a (a + 1) (b - 1) (swp d a pivot) = r at hL
  obtain ⟨hL1, hL2, hL3⟩ := hL
  refine ⟨?_, by omega, hL3⟩
  simp (disch := omega) only [im2, imk, ia, ia1, is_, is1, iq, dt, df, cond_true, cond_false, Bool.and_self, Bool.not_true, Bool.not_false, less_arr, Option.bind_some, Int.toNat_natCast, Nat.zero_add, getL, swpL, hL1]
end Go.Proofs.Ytgimaogkhblaiaa
