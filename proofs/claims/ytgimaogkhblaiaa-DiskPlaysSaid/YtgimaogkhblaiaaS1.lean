/- What the library's sort makes of a row of any length, part by part: as the kit's plain sort. Plain. -/
import Derived.Test.YtgimaogkhblaiaaSk
set_option linter.unusedVariables false
set_option linter.unusedSimpArgs false
namespace Go.Proofs.Ytgimaogkhblaiaa
open Go.Ev Go.Sort

theorem getL (d : Array Int) (j : Nat) : d.toList.getD j 0 = d[j]! := by
  have := arr_get d.toList j
  rw [Array.toArray_toList] at this
  exact this.symm
theorem swpL (d : Array Int) (i j : Nat) : (d.toList.set i d[j]!).set j d[i]! = (swp d i j).toList := by
  have := swp_list d.toList i j
  rw [Array.toArray_toList] at this
  rw [this, getL, getL]
theorem ia {a b : Nat} (h : a + b ≤ 100000000) : iadd .i64 (a : Int) (b : Int) = ((a + b : Nat) : Int) := by rw [iadd64 (by omega) (by omega)]; omega
theorem ia1 {a : Nat} (h : a ≤ 100000000) : iadd .i64 (a : Int) 1 = ((a + 1 : Nat) : Int) := by rw [iadd64 (by omega) (by omega)]; omega
theorem is_ {a b : Nat} (h : b ≤ a) (h2 : a ≤ 100000000) : isub .i64 (a : Int) (b : Int) = ((a - b : Nat) : Int) := by rw [isub64 (by omega) (by omega)]; omega
theorem is1 {a : Nat} (h : 1 ≤ a) (h2 : a ≤ 100000000) : isub .i64 (a : Int) 1 = ((a - 1 : Nat) : Int) := by rw [isub64 (by omega) (by omega)]; omega
theorem im2 {a : Nat} (h2 : a ≤ 100000000) : imul .i64 2 (a : Int) = ((2 * a : Nat) : Int) := by rw [imul64 (by omega) (by omega)]; omega
theorem imk {a b : Nat} (h2 : a * b ≤ 100000000) : imul .i64 (a : Int) (b : Int) = ((a * b : Nat) : Int) := by
  have e : (a : Int) * (b : Int) = ((a * b : Nat) : Int) := by simp
  rw [imul64 (by rw [e]; omega) (by rw [e]; omega), e]
theorem iq {a b : Nat} (h : a ≤ 100000000) : iquo .i64 (a : Int) (b : Int) = ((a / b : Nat) : Int) := by
  have h2 : a / b ≤ 100000000 := Nat.le_trans (Nat.div_le_self _ _) h
  show IntKind.i64.wrap (Int.tdiv (a : Int) (b : Int)) = _
  rw [show Int.tdiv (a : Int) (b : Int) = ((a / b : Nat) : Int) from rfl]
  generalize a / b = c at h2
  exact i64_in (by omega) (by omega)
theorem less_arr (x y : Int) : cmp_Less_uint64 x y = some (ltInt x y) := less_eq x y

/-! ### The heap -/
theorem sift_eq {n hi first : Nat} (hn2 : n ≤ 100000) (hs : first + hi ≤ n) : ∀ {k root : Nat} {d : Array Int}, hi - root ≤ k → root ≤ 100000 → d.size = n →
    runL (slices_siftDownOrdered_uint64_L0_step n hi first) ((root : Int), d.toList) = some (.inl (siftDown ltInt hi first root d).toList) ∨ runL (slices_siftDownOrdered_uint64_L0_step n hi first) ((root : Int), d.toList) = some (.inr (siftDown ltInt hi first root d).toList) := by
  intro k
  induction k with
  | zero =>
    intro root d hk hr hd
    left
    refine runL_done ?_
    rw [siftDown, dif_pos (by omega), slices_siftDownOrdered_uint64_L0_step]
    simp (disch := omega) only [im2, imk, ia, ia1, is_, is1, iq, dt, df, cond_true, cond_false, Bool.and_self, Bool.not_true, Bool.not_false, less_arr, Option.bind_some, Int.toNat_natCast, Nat.zero_add, getL, swpL]
  | succ k ih =>
    intro root d hk hr hd
    by_cases h1 : 2 * root + 1 ≥ hi
    · left
      refine runL_done ?_
      rw [siftDown, dif_pos h1, slices_siftDownOrdered_uint64_L0_step]
      simp (disch := omega) only [im2, imk, ia, ia1, is_, is1, iq, dt, df, cond_true, cond_false, Bool.and_self, Bool.not_true, Bool.not_false, less_arr, Option.bind_some, Int.toNat_natCast, Nat.zero_add, getL, swpL]
    · have hr : root < hi := by omega
      by_cases h23 : 2 * root + 1 + 1 < hi ∧ ltInt d[first + (2 * root + 1)]! d[first + (2 * root + 1) + 1]! = true
      · obtain ⟨h2, h3⟩ := h23
        cases h4 : ltInt d[first + root]! d[first + (2 * root + 2)]!
        · right
          have hX : siftDown ltInt hi first root d = d := by
            rw [siftDown, dif_neg h1, if_pos (by simp [h3]; omega), if_pos (by simp [h4])]
          rw [hX]
          refine runL_done ?_
          rw [slices_siftDownOrdered_uint64_L0_step]
          simp (disch := omega) only [im2, imk, ia, ia1, is_, is1, iq, dt, df, cond_true, cond_false, Bool.and_self, Bool.not_true, Bool.not_false, less_arr, Option.bind_some, Int.toNat_natCast, Nat.zero_add, getL, swpL, h3, h4]
        · have hX : siftDown ltInt hi first root d = siftDown ltInt hi first (2 * root + 2) (swp d (first + root) (first + (2 * root + 2))) := by
            rw [siftDown, dif_neg h1, if_pos (by simp [h3]; omega), if_neg (by simp [h4]), dif_pos (by omega)]
          rw [hX, runL_next (s' := (((2 * root + 2 : Nat) : Int), (swp d (first + root) (first + (2 * root + 2))).toList))]
          · exact ih (by omega) (by omega) (by rw [size_swp, hd])
          · rw [slices_siftDownOrdered_uint64_L0_step]
            simp (disch := omega) only [im2, imk, ia, ia1, is_, is1, iq, dt, df, cond_true, cond_false, Bool.and_self, Bool.not_true, Bool.not_false, less_arr, Option.bind_some, Int.toNat_natCast, Nat.zero_add, getL, swpL, h3, h4]
      · cases h4 : ltInt d[first + root]! d[first + (2 * root + 1)]!
        · right
          have hX : siftDown ltInt hi first root d = d := by
            rw [siftDown, dif_neg h1, if_neg (by simpa using h23), if_pos (by simp [h4])]
          rw [hX]
          refine runL_done ?_
          rw [slices_siftDownOrdered_uint64_L0_step]
          by_cases h2 : 2 * root + 1 + 1 < hi
          · have h3 : ltInt d[first + (2 * root + 1)]! d[first + (2 * root + 1) + 1]! = false := by
              cases h : ltInt d[first + (2 * root + 1)]! d[first + (2 * root + 1) + 1]!
              · rfl
              · exact absurd ⟨h2, h⟩ h23
            simp (disch := omega) only [im2, imk, ia, ia1, is_, is1, iq, dt, df, cond_true, cond_false, Bool.and_self, Bool.not_true, Bool.not_false, less_arr, Option.bind_some, Int.toNat_natCast, Nat.zero_add, getL, swpL, h3, h4]
          · simp (disch := omega) only [im2, imk, ia, ia1, is_, is1, iq, dt, df, cond_true, cond_false, Bool.and_self, Bool.not_true, Bool.not_false, less_arr, Option.bind_some, Int.toNat_natCast, Nat.zero_add, getL, swpL, h4]
        · have hX : siftDown ltInt hi first root d = siftDown ltInt hi first (2 * root + 1) (swp d (first + root) (first + (2 * root + 1))) := by
            rw [siftDown, dif_neg h1, if_neg (by simpa using h23), if_neg (by simp [h4])]
          rw [hX, runL_next (s' := (((2 * root + 1 : Nat) : Int), (swp d (first + root) (first + (2 * root + 1))).toList))]
          · exact ih (by omega) (by omega) (by rw [size_swp, hd])
          · rw [slices_siftDownOrdered_uint64_L0_step]
            by_cases h2 : 2 * root + 1 + 1 < hi
            · have h3 : ltInt d[first + (2 * root + 1)]! d[first + (2 * root + 1) + 1]! = false := by
                cases h : ltInt d[first + (2 * root + 1)]! d[first + (2 * root + 1) + 1]!
                · rfl
                · exact absurd ⟨h2, h⟩ h23
              simp (disch := omega) only [im2, imk, ia, ia1, is_, is1, iq, dt, df, cond_true, cond_false, Bool.and_self, Bool.not_true, Bool.not_false, less_arr, Option.bind_some, Int.toNat_natCast, Nat.zero_add, getL, swpL, h3, h4]
            · simp (disch := omega) only [im2, imk, ia, ia1, is_, is1, iq, dt, df, cond_true, cond_false, Bool.and_self, Bool.not_true, Bool.not_false, less_arr, Option.bind_some, Int.toNat_natCast, Nat.zero_add, getL, swpL, h4]
theorem siftDown_eq {n hi first root : Nat} {d : Array Int} (hn2 : n ≤ 100000) (hs : first + hi ≤ n) (hr : root ≤ 100000) (hd : d.size = n) : slices_siftDownOrdered_uint64 n (root : Int) (hi : Int) (first : Int) d.toList = some (siftDown ltInt hi first root d).toList := by
  unfold slices_siftDownOrdered_uint64
  rcases sift_eq hn2 hs (k := hi - root) (Nat.le_refl _) hr hd with h | h
  · rw [h]; rfl
  · rw [h]; rfl
theorem siftDown_size {hi first : Nat} : ∀ {k root : Nat} {d : Array Int}, hi - root ≤ k → (siftDown ltInt hi first root d).size = d.size := by
  intro k
  induction k with
  | zero => intro root d hk; rw [siftDown, dif_pos (by omega)]
  | succ k ih =>
    intro root d hk
    rw [siftDown]
    split
    · rfl
    · split
      · split
        · rfl
        · split
          · rw [ih (by omega), size_swp]
          · rfl
      · split
        · rfl
        · rw [ih (by omega), size_swp]
theorem build_eq {n hi first : Nat} (hn2 : n ≤ 100000) (hs : first + hi ≤ n) : ∀ {k : Nat} {d : Array Int}, k ≤ 100000 → d.size = n →
    runL (slices_heapSortOrdered_uint64_L0_step n first hi) ((k : Int) - 1, d.toList) = some (heapBuild ltInt hi first k d).toList := by
  intro k
  induction k with
  | zero =>
    intro d hk hd
    refine runL_done ?_
    rw [slices_heapSortOrdered_uint64_L0_step, df (by omega)]
    rfl
  | succ k ih =>
    intro d hk hd
    rw [runL_next (s' := ((k : Int) - 1, (siftDown ltInt hi first k d).toList))]
    · exact ih (by omega) (by rw [siftDown_size (Nat.le_refl _), hd])
    · rw [slices_heapSortOrdered_uint64_L0_step, show (((k + 1 : Nat) : Int) - 1) = (k : Int) by omega, dt (by omega), siftDown_eq hn2 hs (by omega) hd, isub64 (by omega) (by omega)]
      rfl
theorem heapBuild_size {hi first : Nat} : ∀ {k : Nat} {d : Array Int}, (heapBuild ltInt hi first k d).size = d.size
  | 0, d => rfl
  | k + 1, d => by rw [heapBuild, heapBuild_size, siftDown_size (Nat.le_refl _)]
theorem pop_eq {n first : Nat} (hn2 : n ≤ 100000) : ∀ {k : Nat} {d : Array Int}, first + k ≤ n → d.size = n →
    runL (slices_heapSortOrdered_uint64_L1_step n first) ((k : Int) - 1, d.toList) = some (heapPop ltInt first k d).toList := by
  intro k
  induction k with
  | zero =>
    intro d hk hd
    refine runL_done ?_
    rw [slices_heapSortOrdered_uint64_L1_step, df (by omega)]
    rfl
  | succ k ih =>
    intro d hk hd
    have hz : (swp d first (first + k)).size = n := by rw [size_swp, hd]
    rw [runL_next (s' := ((k : Int) - 1, (siftDown ltInt k first 0 (swp d first (first + k))).toList))]
    · exact ih (by omega) (by rw [siftDown_size (Nat.le_refl _), hz])
    · have hq := siftDown_eq (hi := k) (first := first) (root := 0) hn2 (by omega) (by omega) hz
      rw [slices_heapSortOrdered_uint64_L1_step, show (((k + 1 : Nat) : Int) - 1) = (k : Int) by omega]
      simp only [Int.natCast_zero] at hq
      simp (disch := omega) only [im2, imk, ia, ia1, is_, is1, iq, dt, df, cond_true, cond_false, Bool.and_self, Bool.not_true, Bool.not_false, less_arr, Option.bind_some, Int.toNat_natCast, Nat.zero_add, getL, swpL, hq]
      rw [isub64 (by omega) (by omega)]
theorem heap_eq {n a b : Nat} {d : Array Int} (hn2 : n ≤ 100000) (hab : a < b) (hb : b ≤ n) (hd : d.size = n) : slices_heapSortOrdered_uint64 n (a : Int) (b : Int) d.toList = some (heapSort ltInt d a b).toList := by
  unfold slices_heapSortOrdered_uint64 heapSort
  have h1 := build_eq (n := n) (hi := b - a) (first := a) hn2 (by omega) (k := (b - a - 1) / 2 + 1) (d := d) (by omega) hd
  have h2 := pop_eq (n := n) (first := a) hn2 (k := b - a) (d := heapBuild ltInt (b - a) a ((b - a - 1) / 2 + 1) d) (by omega) (by rw [heapBuild_size, hd])
  have e1 : iquo .i64 (((b - a - 1 : Nat)) : Int) 2 = ((((b - a - 1) / 2 + 1 : Nat) : Int)) - 1 := by
    have := iq (a := b - a - 1) (b := 2) (by omega)
    rw [show ((2 : Nat) : Int) = 2 from rfl] at this
    rw [this]; omega
  have e2 : isub .i64 (((b - a : Nat)) : Int) 1 = (((b - a : Nat)) : Int) - 1 := isub64 (by omega) (by omega)
  have e3 : isub .i64 (((b - a : Nat)) : Int) 1 = (((b - a - 1 : Nat)) : Int) := is1 (by omega) (by omega)
  rw [is_ (by omega) (by omega), e3, e1, h1, Option.bind_some, ← e3, e2, h2]
  rfl

/-! ### The pivot -/
def c3 (r : Nat × Nat × Nat) : Int × Int × Int := ((r.1 : Int), (r.2.1 : Int), (r.2.2 : Int))
def c2 (r : Nat × Nat) : Int × Int := ((r.1 : Int), (r.2 : Int))
theorem order2_eq {d : Array Int} {a b s : Nat} (hn2 : d.size ≤ 100000) (ha : a < d.size) (hb : b < d.size) (hs : s ≤ 100000) : slices_order2Ordered_uint64 d.toList (a : Int) (b : Int) (s : Int) = some (c3 (order2 ltInt d a b s)) := by
  unfold slices_order2Ordered_uint64 order2
  cases h : ltInt d[b]! d[a]!
  · simp (disch := omega) only [im2, imk, ia, ia1, is_, is1, iq, dt, df, cond_true, cond_false, Bool.and_self, Bool.not_true, Bool.not_false, less_arr, Option.bind_some, Int.toNat_natCast, Nat.zero_add, getL, swpL, Array.length_toList, h]
    rfl
  · simp (disch := omega) only [im2, imk, ia, ia1, is_, is1, iq, dt, df, cond_true, cond_false, Bool.and_self, Bool.not_true, Bool.not_false, less_arr, Option.bind_some, Int.toNat_natCast, Nat.zero_add, getL, swpL, Array.length_toList, h]
    rfl
theorem ord_count (d : Array Int) (a b s : Nat) : (order2 ltInt d a b s).2.2 ≤ s + 1 := by
  unfold order2
  split <;> simp
theorem med_count (d : Array Int) (a b c s : Nat) : (median ltInt d a b c s).2 ≤ s + 3 := by
  unfold median
  simp only []
  have h1 := ord_count d a b s
  generalize order2 ltInt d a b s = r1 at h1
  have h2 := ord_count d r1.2.1 c r1.2.2
  generalize order2 ltInt d r1.2.1 c r1.2.2 = r2 at h2
  have h3 := ord_count d r1.1 r2.1 r2.2.2
  omega
theorem median_eq {d : Array Int} {a b c s : Nat} (hn2 : d.size ≤ 100000) (ha : a < d.size) (hb : b < d.size) (hc : c < d.size) (hs : s ≤ 1000) : slices_medianOrdered_uint64 d.toList (a : Int) (b : Int) (c : Int) (s : Int) = some (c2 (median ltInt d a b c s)) := by
  unfold slices_medianOrdered_uint64
  have m1 := order2_mem ltInt d a b s
  have q1 := ord_count d a b s
  rw [order2_eq hn2 ha hb (by omega), Option.bind_some]
  generalize hr1 : order2 ltInt d a b s = r1 at m1 q1
  have m2 := order2_mem ltInt d r1.2.1 c r1.2.2
  have q2 := ord_count d r1.2.1 c r1.2.2
  simp only [c3]
  rw [order2_eq hn2 (by omega) hc (by omega), Option.bind_some]
  generalize hr2 : order2 ltInt d r1.2.1 c r1.2.2 = r2 at m2 q2
  simp only [c3]
  rw [order2_eq hn2 (by omega) (by omega) (by omega), Option.bind_some]
  simp only [c3, c2, median, hr1, hr2]
theorem medianAdjacent_eq {d : Array Int} {a s : Nat} (hn2 : d.size ≤ 100000) (h1 : 1 ≤ a) (ha : a + 1 < d.size) (hs : s ≤ 1000) : slices_medianAdjacentOrdered_uint64 d.toList (a : Int) (s : Int) = some (c2 (medianAdjacent ltInt d a s)) := by
  unfold slices_medianAdjacentOrdered_uint64 medianAdjacent
  rw [is1 h1 (by omega), ia1 (by omega), median_eq hn2 (by omega) (by omega) (by omega) hs]
  rfl
def hc : Hint → Int
  | .unknown => 0
  | .increasing => 1
  | .decreasing => 2
theorem hint_eq (p : Int) (s : Nat) : (bif decide ((s : Int) = 0) then some (p, (1 : Int)) else bif decide ((s : Int) = 12) then some (p, 2) else some (p, 0)) = some (p, hc (if s = 0 then .increasing else if s = 12 then .decreasing else .unknown)) := by
  by_cases h : s = 0
  · rw [dt (by omega), if_pos h]; rfl
  · rw [df (by omega), if_neg h, cond_false]
    by_cases h2 : s = 12
    · rw [dt (by omega), if_pos h2]; rfl
    · rw [df (by omega), if_neg h2]; rfl
theorem choosePivot_eq' {d : Array Int} {a b : Nat} (hn2 : d.size ≤ 100000) (hab : a + 12 < b) (hb : b ≤ d.size) : slices_choosePivotOrdered_uint64 d.toList (a : Int) (b : Int) = some (((choosePivot ltInt d a b).1 : Int), hc (choosePivot ltInt d a b).2) := by
  unfold slices_choosePivotOrdered_uint64 choosePivot
  have e0 : isub .i64 (b : Int) (a : Int) = ((b - a : Nat) : Int) := is_ (by omega) (by omega)
  have e4 : iquo .i64 ((b - a : Nat) : Int) 4 = (((b - a) / 4 : Nat) : Int) := iq (b := 4) (by omega)
  have ek : ∀ k : Nat, k ≤ 3 → imul .i64 (((b - a) / 4 : Nat) : Int) (k : Int) = (((b - a) / 4 * k : Nat) : Int) := fun k hk => imk (Nat.le_trans (Nat.mul_le_mul_left _ hk) (by omega))
  have k1 := ek 1 (by omega)
  have k2 := ek 2 (by omega)
  have k3 := ek 3 (by omega)
  rw [show ((1 : Nat) : Int) = 1 from rfl] at k1
  rw [show ((2 : Nat) : Int) = 2 from rfl] at k2
  rw [show ((3 : Nat) : Int) = 3 from rfl] at k3
  rw [e0, e4, k1, k2, k3, ia (by omega), ia (by omega), ia (by omega), dt (by omega), cond_true]
  simp only []
  rw [if_pos (show b - a ≥ 8 by omega)]
  by_cases h50 : b - a ≥ 50
  · rw [dt (by omega), cond_true, if_pos h50]
    have m1 := medianAdjacent_mem ltInt d (a + (b - a) / 4 * 1) 0
    have q1 := med_count d (a + (b - a) / 4 * 1 - 1) (a + (b - a) / 4 * 1) (a + (b - a) / 4 * 1 + 1) 0
    have g1 := medianAdjacent_eq (d := d) (a := a + (b - a) / 4 * 1) (s := 0) hn2 (by omega) (by omega) (by omega)
    simp only [Int.natCast_zero] at g1
    rw [g1, Option.bind_some]
    rw [show median ltInt d (a + (b - a) / 4 * 1 - 1) (a + (b - a) / 4 * 1) (a + (b - a) / 4 * 1 + 1) 0 = medianAdjacent ltInt d (a + (b - a) / 4 * 1) 0 from rfl] at q1
    generalize medianAdjacent ltInt d (a + (b - a) / 4 * 1) 0 = r1 at m1 q1
    have m2 := medianAdjacent_mem ltInt d (a + (b - a) / 4 * 2) r1.2
    have q2 := med_count d (a + (b - a) / 4 * 2 - 1) (a + (b - a) / 4 * 2) (a + (b - a) / 4 * 2 + 1) r1.2
    simp only [c2]
    rw [medianAdjacent_eq hn2 (by omega) (by omega) (by omega), Option.bind_some]
    rw [show median ltInt d (a + (b - a) / 4 * 2 - 1) (a + (b - a) / 4 * 2) (a + (b - a) / 4 * 2 + 1) r1.2 = medianAdjacent ltInt d (a + (b - a) / 4 * 2) r1.2 from rfl] at q2
    generalize medianAdjacent ltInt d (a + (b - a) / 4 * 2) r1.2 = r2 at m2 q2
    have m3 := medianAdjacent_mem ltInt d (a + (b - a) / 4 * 3) r2.2
    have q3 := med_count d (a + (b - a) / 4 * 3 - 1) (a + (b - a) / 4 * 3) (a + (b - a) / 4 * 3 + 1) r2.2
    simp only [c2]
    rw [medianAdjacent_eq hn2 (by omega) (by omega) (by omega), Option.bind_some]
    rw [show median ltInt d (a + (b - a) / 4 * 3 - 1) (a + (b - a) / 4 * 3) (a + (b - a) / 4 * 3 + 1) r2.2 = medianAdjacent ltInt d (a + (b - a) / 4 * 3) r2.2 from rfl] at q3
    generalize medianAdjacent ltInt d (a + (b - a) / 4 * 3) r2.2 = r3 at m3 q3
    simp only [c2]
    rw [median_eq hn2 (by omega) (by omega) (by omega) (by omega), Option.bind_some]
    exact hint_eq _ _
  · rw [df (by omega), cond_false, if_neg h50]
    have g1 := median_eq (d := d) (a := a + (b - a) / 4 * 1) (b := a + (b - a) / 4 * 2) (c := a + (b - a) / 4 * 3) (s := 0) hn2 (by omega) (by omega) (by omega) (by omega)
    simp only [Int.natCast_zero] at g1
    rw [g1, Option.bind_some]
    exact hint_eq _ _

/-! ### The reversal -/
theorem reverse_eq {n : Nat} (hn2 : n ≤ 100000) : ∀ {k i j : Nat} {d : Array Int}, j - i ≤ k → j < n → i ≤ n → d.size = n →
    runL (slices_reverseRangeOrdered_uint64_L0_step n) ((i : Int), (j : Int), d.toList) = some (reverseLoop i j d).toList := by
  intro k
  induction k with
  | zero =>
    intro i j d hk hj hi hd
    refine runL_done ?_
    rw [reverseLoop, if_neg (by omega), slices_reverseRangeOrdered_uint64_L0_step, df (by omega)]
    rfl
  | succ k ih =>
    intro i j d hk hj hi hd
    rw [reverseLoop]
    by_cases h : i < j
    · rw [if_pos h, runL_next (s' := (((i + 1 : Nat) : Int), ((j - 1 : Nat) : Int), (swp d i j).toList))]
      · exact ih (by omega) (by omega) (by omega) (by rw [size_swp, hd])
      · rw [slices_reverseRangeOrdered_uint64_L0_step]
        simp (disch := omega) only [im2, imk, ia, ia1, is_, is1, iq, dt, df, cond_true, cond_false, Bool.and_self, Bool.not_true, Bool.not_false, less_arr, Option.bind_some, Int.toNat_natCast, Nat.zero_add, getL, swpL]
    · refine runL_done ?_
      rw [if_neg h, slices_reverseRangeOrdered_uint64_L0_step, df (by omega)]
      rfl
theorem reverseRange_eq {n a b : Nat} {d : Array Int} (hn2 : n ≤ 100000) (hab : a < b) (hb : b ≤ n) (hd : d.size = n) : slices_reverseRangeOrdered_uint64 n (a : Int) (b : Int) d.toList = some (reverseRange d a b).toList := by
  unfold slices_reverseRangeOrdered_uint64 reverseRange
  rw [is1 (by omega) (by omega), reverse_eq hn2 (k := b - 1 - a) (Nat.le_refl _) (by omega) (by omega) hd]
  rfl
end Go.Proofs.Ytgimaogkhblaiaa
