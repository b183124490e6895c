/- What the library's sort makes of a short row; the keys of a disk's segments, sorted; the segments' copy. -/
import Derived.Test.YtgimaogkhblaiaaA2
import Derived.Test.YtgimaogkhblaiaaQ3
import Derived.Sort.AssemblyPlain
set_option linter.unusedVariables false
set_option linter.unusedSimpArgs false
namespace Go.Ev
theorem WkPss.take : ∀ {l m : List (List PV)}, WkPss l m → ∀ n : Nat, WkPss (l.take n) (m.take n)
  | _, _, .eq h, n => .eq (by rw [h])
  | _, _, .nil, n => by rw [List.take_nil]; exact .nil
  | _, _, .cons _ _, 0 => .nil
  | _, _, .cons h1 h2, n + 1 => .cons h1 (WkPss.take h2 n)
  | _, _, .app (f := f) (a := a) (b := b) (l := l) (m := m) h1 h2, n => by
    have hl := WkPss.len h1
    rw [List.length_map] at hl
    have g1 := WkPss.take h1 n
    have g2 := WkPss.take h2 (n - a.length)
    rw [← List.map_take] at g1 g2
    rw [List.take_append, ← List.map_take, List.take_append, ← hl]
    exact .app g1 g2
theorem WkPss.takeM {α : Type} {f : α → List PV} {l : List (List PV)} {m : List α} {n : Nat} (h : WkPss l (List.map f m)) : WkPss (List.take n l) (List.map f (List.take n m)) := by
  rw [List.map_take]
  exact h.take n
end Go.Ev
namespace Go.Proofs.Ytgimaogkhblaiaa
open Go.Ev Go.RowKit Go.Shelf Go.Sort

theorem less_eq (x y : Int) : cmp_Less_uint64 x y = some (decide (x < y)) := by
  simp [cmp_Less_uint64, cmp_isNaN_uint64]
theorem arr_get (l : List Int) (j : Nat) : l.toArray[j]! = l.getD j 0 := by
  simp [List.getD, getElem!_def]
  cases l[j]? <;> rfl
theorem swp_list (l : List Int) (i j : Nat) : swp l.toArray i j = ((l.set i (l.getD j 0)).set j (l.getD i 0)).toArray := by
  simp only [swp, arr_get]
  simp
theorem swp_len (d : Array Int) (i j : Nat) : (swp d i j).size = d.size := by simp [swp]
theorem ins_inner {a : Nat} {b i : Int} : ∀ {j : Nat} {l : List Int}, l.length ≤ 536870912 → j < l.length →
    runL (slices_insertionSortOrdered_uint64_L1_step l.length a b i) ((j : Int), l) = some (insInner ltInt a j l.toArray).toList
  | 0, l, hl, hj => by
    refine runL_done ?_
    rw [slices_insertionSortOrdered_uint64_L1_step]
    rw [df (by omega)]
    simp [insInner]
  | j + 1, l, hl, hj => by
    have e1 : isub .i64 ((j + 1 : Nat) : Int) 1 = (j : Int) := by rw [isub64 (by omega) (by omega)]; omega
    by_cases ha : a < j + 1
    · have c1 : (decide ((0 : Int) ≤ ((j + 1 : Nat) : Int)) && decide (((j + 1 : Nat) : Int) < (l.length : Int))) = true := by simp; omega
      have c2 : (decide ((0 : Int) ≤ (j : Int)) && decide ((j : Int) < (l.length : Int))) = true := by simp; omega
      by_cases hlt : l.getD (j + 1) 0 < l.getD j 0
      · rw [runL_next (s' := ((j : Int), (l.set (j + 1) (l.getD j 0)).set j (l.getD (j + 1) 0)))]
        · have h2 := ins_inner (a := a) (b := b) (i := i) (j := j) (l := (l.set (j + 1) (l.getD j 0)).set j (l.getD (j + 1) 0)) (by simpa using hl) (by simp; omega)
          simp only [List.length_set] at h2
          rw [h2, insInner]
          simp only [arr_get, ltInt]
          rw [if_pos (by simp; exact ⟨by omega, by simpa using hlt⟩), swp_list]
        · rw [slices_insertionSortOrdered_uint64_L1_step]
          simp only [e1, c1, c2, dt (show ((a : Nat) : Int) < ((j + 1 : Nat) : Int) by omega), cond_true, less_eq, Option.bind_some, Int.toNat_natCast, Nat.zero_add, dt hlt]
      · refine runL_done ?_
        rw [slices_insertionSortOrdered_uint64_L1_step]
        simp only [e1, c1, c2, dt (show ((a : Nat) : Int) < ((j + 1 : Nat) : Int) by omega), cond_true, less_eq, Option.bind_some, Int.toNat_natCast, Nat.zero_add, df hlt, cond_false]
        rw [insInner]
        simp only [arr_get, ltInt]
        rw [if_neg (by simp; intro _; simpa using hlt)]
    · refine runL_done ?_
      rw [slices_insertionSortOrdered_uint64_L1_step, df (by omega)]
      rw [insInner, if_neg (by simp; omega)]
      rfl
theorem insInner_size {a : Nat} : ∀ {j : Nat} {d : Array Int}, (insInner ltInt a j d).size = d.size
  | 0, d => rfl
  | j + 1, d => by
    rw [insInner]
    split
    · rw [insInner_size, swp_len]
    · rfl
theorem ins_outer {a b : Nat} : ∀ {k i : Nat} {l : List Int}, b - i = k → l.length ≤ 536870912 → b ≤ l.length →
    runL (slices_insertionSortOrdered_uint64_L0_step l.length a b) ((i : Int), l) = some (insOuter ltInt a b i l.toArray).toList
  | k, i, l, hk, hl, hb => by
    rw [insOuter]
    by_cases hi : i < b
    · have e1 : iadd .i64 (i : Int) 1 = ((i + 1 : Nat) : Int) := by rw [iadd64 (by omega) (by omega)]; omega
      rw [if_pos hi, runL_next (s' := (((i + 1 : Nat) : Int), (insInner ltInt a i l.toArray).toList))]
      · have hs := insInner_size (a := a) (j := i) (d := l.toArray)
        have h2 := ins_outer (a := a) (b := b) (k := b - (i + 1)) (i := i + 1) (l := (insInner ltInt a i l.toArray).toList) rfl (by simpa [hs] using hl) (by simpa [hs] using hb)
        simp only [Array.length_toList, hs, List.size_toArray] at h2
        rw [h2]
      · rw [slices_insertionSortOrdered_uint64_L0_step, dt (by omega), ins_inner hl (by omega)]
        simp only [cond_true, Option.bind_some, e1]
    · rw [if_neg hi]
      refine runL_done ?_
      rw [slices_insertionSortOrdered_uint64_L0_step, df (by omega)]
      rfl
termination_by k => k
decreasing_by omega
theorem insertion {a b : Nat} {l : List Int} (hl : l.length ≤ 536870912) (hb : b ≤ l.length) (ha : a ≤ l.length) : slices_insertionSortOrdered_uint64 l.length a b l = some (Go.Sort.insertionSort ltInt l.toArray a b).toList := by
  unfold slices_insertionSortOrdered_uint64
  have e1 : iadd .i64 (a : Int) 1 = ((a + 1 : Nat) : Int) := by rw [iadd64 (by omega) (by omega)]; omega
  rw [e1, ins_outer rfl hl hb]
  rfl
theorem len64 {n : Nat} (h : n < 256) : bits_Len64 (n : Int) = some (bitsLen n : Int) := by
  have key : ∀ i : Fin 256, bits_Len64 ((i.val : Nat) : Int) = some ((bitsLen i.val : Nat) : Int) := by
    intro i
    unfold bits_Len64
    have h1 : ¬ (4294967296 : Int) ≤ ((i.val : Nat) : Int) := by have := i.isLt; omega
    have h2 : ¬ (65536 : Int) ≤ ((i.val : Nat) : Int) := by have := i.isLt; omega
    have h3 : ¬ (256 : Int) ≤ ((i.val : Nat) : Int) := by have := i.isLt; omega
    rw [df h1, cond_false, df h2, cond_false, df h3, cond_false]
    clear h1 h2 h3
    revert i
    decide +kernel
  exact key ⟨n, h⟩
theorem bits_len {n : Nat} (h : n < 256) : bits_Len (IntKind.u64.wrap (n : Int)) = some (bitsLen n : Int) := by
  unfold bits_Len
  rw [u64_in (by omega) (by omega), len64 h]
  rfl
theorem sort_short {N : Nat} {l : List Int} (h : l.length ≤ 12) : slices_Sort_uint64 (N + 1) l.length l = some (sortI l) := by
  unfold slices_Sort_uint64
  rw [bits_len (by omega)]
  simp only [Option.bind_some]
  have h2 : slices_pdqsortOrdered_uint64_2 (N + 1) l.length 0 (l.length : Int) (bitsLen l.length : Int) l = some (sortI l) := by
    rw [slices_pdqsortOrdered_uint64_2, slices_pdqsortOrdered_uint64_2_b]
    have h3 : runL (slices_pdqsortOrdered_uint64_L0_2_step (slices_pdqsortOrdered_uint64_2 N) l.length) (0, (l.length : Int), (bitsLen l.length : Int), true, true, l) = some (sortI l) := by
      refine runL_done ?_
      rw [slices_pdqsortOrdered_uint64_L0_2_step]
      have e1 : isub .i64 (l.length : Int) 0 = (l.length : Int) := by rw [isub64 (by omega) (by omega)]; omega
      have hi := insertion (a := 0) (b := l.length) (l := l) (by omega) (Nat.le_refl _) (Nat.zero_le _)
      simp only [e1, dt (show (l.length : Int) ≤ 12 by omega), cond_true]
      rw [show ((0 : Int)) = ((0 : Nat) : Int) from rfl, hi]
      simp only [Option.bind_some]
      congr 2
      have hs : Go.Sort.sort ltInt l.toArray = Go.Sort.insertionSort ltInt l.toArray 0 l.length := by
        unfold Go.Sort.sort
        rw [pdq, if_pos (by simpa using h)]
        simp
      rw [← hs, Go.Sort.sortInt]
      rfl
    rw [h3]
    rfl
  rw [h2]
  rfl
end Go.Proofs.Ytgimaogkhblaiaa
