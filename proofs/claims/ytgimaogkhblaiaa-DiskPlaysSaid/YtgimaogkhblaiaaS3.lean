/- What the library's sort makes of a row of any length: the broken patterns, the whole. Plain. -/
import Derived.Test.YtgimaogkhblaiaaS2
set_option linter.unusedVariables false
set_option linter.unusedSimpArgs false
namespace Go.Proofs.Ytgimaogkhblaiaa
open Go.Ev Go.Sort

/-! ### The patterns broken -/
def nextN (x : Nat) : Nat :=
  let a := x ^^^ (x * 8192 % 18446744073709551616)
  let b := a ^^^ (a / 128)
  b ^^^ (b * 131072 % 18446744073709551616)
theorem next_nat (r : UInt64) : (xorNext r).toNat = nextN r.toNat := by
  simp [xorNext, nextN, UInt64.toNat_xor, UInt64.toNat_shiftLeft, UInt64.toNat_shiftRight, Nat.shiftLeft_eq, Nat.shiftRight_eq_div_pow]
theorem shl_u64 (x k : Nat) (hk : k ≤ 64) : ishl .u64 (x : Int) (k : Int) = ((x * 2 ^ k % 18446744073709551616 : Nat) : Int) := by
  unfold ishl
  rw [IntKind.wrap_u64, Int.toNat_natCast, show IntKind.bits .u64 = 64 from rfl, Nat.min_eq_left hk, pow_cast, ← Int.natCast_mul]
  exact (Int.natCast_emod _ _).symm
theorem next_eq {x : Nat} (h : x < 18446744073709551616) : slices_xorshift_Next (x : Int) = some (((nextN x : Nat) : Int), ((nextN x : Nat) : Int)) := by
  have p : (18446744073709551616 : Nat) = 2 ^ 64 := by decide
  have h64 : x < 2 ^ 64 := h
  have s1 : ishl .u64 (x : Int) 13 = ((x * 8192 % 18446744073709551616 : Nat) : Int) := shl_u64 x 13 (by decide)
  have x1 : ixor .u64 (x : Int) ((x * 8192 % 18446744073709551616 : Nat) : Int) = ((x ^^^ (x * 8192 % 18446744073709551616) : Nat) : Int) := ixor_nat rfl h64 (Nat.mod_lt _ (by decide))
  have l1 : x ^^^ (x * 8192 % 18446744073709551616) < 2 ^ 64 := Nat.xor_lt_two_pow h64 (Nat.mod_lt _ (by decide))
  unfold slices_xorshift_Next nextN
  rw [s1, x1]
  simp only []
  generalize x ^^^ (x * 8192 % 18446744073709551616) = y at l1
  have s2 : ishr .u64 (y : Int) 7 = ((y / 128 : Nat) : Int) := ishr_nat (k := .u64) (a := y) (n := 7) (by decide)
  have x2 : ixor .u64 (y : Int) ((y / 128 : Nat) : Int) = ((y ^^^ (y / 128) : Nat) : Int) := ixor_nat rfl l1 (Nat.lt_of_le_of_lt (Nat.div_le_self _ _) l1)
  have l2 : y ^^^ (y / 128) < 2 ^ 64 := Nat.xor_lt_two_pow l1 (Nat.lt_of_le_of_lt (Nat.div_le_self _ _) l1)
  rw [s2, x2]
  generalize y ^^^ (y / 128) = z at l2
  have s3 : ishl .u64 (z : Int) 17 = ((z * 131072 % 18446744073709551616 : Nat) : Int) := shl_u64 z 17 (by decide)
  have x3 : ixor .u64 (z : Int) ((z * 131072 % 18446744073709551616 : Nat) : Int) = ((z ^^^ (z * 131072 % 18446744073709551616) : Nat) : Int) := ixor_nat rfl l2 (Nat.mod_lt _ (by decide))
  rw [s3, x3]
theorem break_step {n a b idx : Nat} {st : UInt64 × Array Int} (hn2 : n ≤ 200) (hab : a + 8 ≤ b) (hb : b ≤ n) (hi : idx < n) (hi2 : idx ≤ a + (b - a) / 4 * 2 + 1) (hd : st.2.size = n) :
    slices_breakPatternsOrdered_uint64_L0_step n (a : Int) ((b - a : Nat) : Int) ((1 <<< bitsLen (b - a) : Nat) : Int) ((idx : Int), ((st.1.toNat : Nat) : Int), st.2.toList) = some (.inl (((idx + 1 : Nat) : Int), (((breakStep a (b - a) (1 <<< bitsLen (b - a)) st idx).1.toNat : Nat) : Int), (breakStep a (b - a) (1 <<< bitsLen (b - a)) st idx).2.toList)) := by
  have hm : 1 <<< bitsLen (b - a) ≤ 2 * (b - a) := by rw [Nat.one_shiftLeft]; exact two_pow_bitsLen_le (by omega)
  have hm0 : 1 ≤ 1 <<< bitsLen (b - a) := by rw [Nat.one_shiftLeft]; exact Nat.one_le_two_pow
  obtain ⟨r, d⟩ := st
  simp only at hd
  have hx := next_eq (x := r.toNat) r.toNat_lt
  unfold breakStep
  simp only [next_nat]
  have hl : nextN r.toNat < 2 ^ 64 := by rw [← next_nat]; exact (xorNext r).toNat_lt
  generalize nextN r.toNat = y at hx hl
  generalize 1 <<< bitsLen (b - a) = m at hm hm0
  have e1 : isub .u64 (m : Int) 1 = ((m - 1 : Nat) : Int) := by
    show IntKind.u64.wrap ((m : Int) - 1) = _
    rw [u64_in (by omega) (by omega)]
    omega
  have e2 : iand .u64 (y : Int) ((m - 1 : Nat) : Int) = ((y &&& (m - 1) : Nat) : Int) := iand_nat rfl hl (by show m - 1 < 2 ^ 64; omega)
  have e3 : y &&& (m - 1) ≤ m - 1 := Nat.and_le_right
  rw [slices_breakPatternsOrdered_uint64_L0_step]
  have hf : iadd .i64 (iadd .i64 (a : Int) (imul .i64 (iquo .i64 ((b - a : Nat) : Int) 4) 2)) 1 = ((a + (b - a) / 4 * 2 + 1 : Nat) : Int) := by
    have q1 : iquo .i64 ((b - a : Nat) : Int) 4 = (((b - a) / 4 : Nat) : Int) := iq (b := 4) (by omega)
    have q2 : imul .i64 (((b - a) / 4 : Nat) : Int) 2 = (((b - a) / 4 * 2 : Nat) : Int) := imk (b := 2) (by omega)
    rw [q1, q2, ia (by omega), ia1 (by omega)]
  rw [hf, hx]
  simp only [Option.bind_some, e1, e2]
  generalize y &&& (m - 1) = o at e3
  rw [i64_in (by omega) (by omega)]
  by_cases ho : b - a ≤ o
  · rw [if_pos ho]
    simp (disch := omega) only [im2, imk, ia, ia1, is_, is1, iq, dt, df, cond_true, cond_false, Bool.and_self, Bool.not_true, Bool.not_false, less_arr, Option.bind_some, Int.toNat_natCast, Nat.zero_add, getL, swpL]
  · rw [if_neg ho]
    simp (disch := omega) only [im2, imk, ia, ia1, is_, is1, iq, dt, df, cond_true, cond_false, Bool.and_self, Bool.not_true, Bool.not_false, less_arr, Option.bind_some, Int.toNat_natCast, Nat.zero_add, getL, swpL]
theorem shl_one {n : Nat} (h : n ≤ 60) : ishl .u64 1 (n : Int) = ((1 <<< n : Nat) : Int) := by
  have := shl_u64 1 n (by omega)
  rw [show ((1 : Nat) : Int) = 1 from rfl] at this
  rw [this, Nat.one_shiftLeft, Nat.one_mul, Nat.mod_eq_of_lt]
  exact Nat.lt_of_le_of_lt (Nat.pow_le_pow_right (by decide) h) (by decide)
theorem break_eq {n a b : Nat} {d : Array Int} (hn2 : n ≤ 200) (hab : a + 12 < b) (hb : b ≤ n) (hd : d.size = n) : slices_breakPatternsOrdered_uint64 n (a : Int) (b : Int) d.toList = some (breakPatterns d a b).toList := by
  unfold slices_breakPatternsOrdered_uint64 breakPatterns slices_nextPowerOfTwo
  simp only []
  have e0 : isub .i64 (b : Int) (a : Int) = ((b - a : Nat) : Int) := is_ (by omega) (by omega)
  have q1 : iquo .i64 ((b - a : Nat) : Int) 4 = (((b - a) / 4 : Nat) : Int) := iq (b := 4) (by omega)
  have q2 : imul .i64 (((b - a) / 4 : Nat) : Int) 2 = (((b - a) / 4 * 2 : Nat) : Int) := imk (b := 2) (by omega)
  have hbl : bitsLen (b - a) ≤ 8 := (bitsLen_le_iff _ _).2 (by omega)
  have eu : IntKind.u64.wrap ((b - a : Nat) : Int) = ((b - a : Nat) : Int) := u64_in (by omega) (by omega)
  have hL := bits_len (n := b - a) (by omega)
  rw [if_pos (by omega), e0, dt (by omega), cond_true, hL]
  simp only [Option.bind_some]
  rw [dt (by omega), cond_true, shl_one (by omega), Option.bind_some, q1, q2, ia (by omega), is1 (by omega) (by omega), eu]
  have hu : (UInt64.ofNat (b - a)).toNat = b - a := by
    rw [UInt64.toNat_ofNat']
    exact Nat.mod_eq_of_lt (by omega)
  generalize hst0 : ((UInt64.ofNat (b - a), d) : UInt64 × Array Int) = st0
  have z0 : st0.2.size = n := by rw [← hst0]; exact hd
  have s0 := break_step (idx := a + (b - a) / 4 * 2 - 1) hn2 (show a + 8 ≤ b by omega) hb (by omega) (by omega) z0
  have hst : st0.1.toNat = b - a ∧ st0.2 = d := by rw [← hst0]; exact ⟨hu, rfl⟩
  rw [hst.1, hst.2] at s0
  rw [runL_next s0]
  have bz : ∀ (st : UInt64 × Array Int) (idx : Nat), st.2.size = n → (breakStep a (b - a) (1 <<< bitsLen (b - a)) st idx).2.size = n := by
    intro st idx h
    unfold breakStep
    simp only [size_swp]
    exact h
  have z1 := bz st0 (a + (b - a) / 4 * 2 - 1) z0
  generalize breakStep a (b - a) (1 <<< bitsLen (b - a)) st0 (a + (b - a) / 4 * 2 - 1) = st1 at z1
  have s1 := break_step (idx := a + (b - a) / 4 * 2 - 1 + 1) hn2 (show a + 8 ≤ b by omega) hb (by omega) (by omega) z1
  rw [runL_next s1]
  have z2 := bz st1 (a + (b - a) / 4 * 2 - 1 + 1) z1
  generalize breakStep a (b - a) (1 <<< bitsLen (b - a)) st1 (a + (b - a) / 4 * 2 - 1 + 1) = st2 at z2
  have s2 := break_step (idx := a + (b - a) / 4 * 2 - 1 + 1 + 1) hn2 (show a + 8 ≤ b by omega) hb (by omega) (by omega) z2
  rw [runL_next s2]
  rw [show a + (b - a) / 4 * 2 - 1 + 1 + 1 = a + (b - a) / 4 * 2 - 1 + 2 by omega]
  generalize breakStep a (b - a) (1 <<< bitsLen (b - a)) st2 (a + (b - a) / 4 * 2 - 1 + 2) = st3
  rw [runL_done (r := (((st3.1.toNat : Nat) : Int), st3.2.toList))]
  · rfl
  · rw [slices_breakPatternsOrdered_uint64_L0_step, q1, q2, ia (by omega), ia1 (by omega), df (by omega)]
    rfl
/-! ### The whole -/
theorem insOuter_size {a b : Nat} : ∀ {k i : Nat} {d : Array Int}, b - i ≤ k → (insOuter ltInt a b i d).size = d.size := by
  intro k
  induction k with
  | zero => intro i d hk; rw [insOuter, if_neg (by omega)]
  | succ k ih =>
    intro i d hk
    rw [insOuter]
    split
    · rw [ih (by omega), insInner_size]
    · rfl
theorem heapPop_size {first : Nat} : ∀ {k : Nat} {d : Array Int}, (heapPop ltInt first k d).size = d.size
  | 0, d => rfl
  | k + 1, d => by rw [heapPop, heapPop_size, siftDown_size (Nat.le_refl _), size_swp]
abbrev PS := Int × Int × Int × Bool × Bool × List Int
noncomputable def tailS (rc : Nat → Int → Int → Int → List Int → Option (List Int)) (data : Nat) (a b n : Int) (wb wp : Bool) (n4 : Int) (l_3 : List Int) : Option (PS ⊕ (List Int)) :=
  bif (decide ((0 : Int) < a)) then
    bif decide ((0 : Int) ≤ (isub .i64 a 1)) && decide (((isub .i64 a 1) : Int) < (data : Int)) then
    bif decide ((0 : Int) ≤ n4) && decide ((n4 : Int) < (data : Int)) then
    (cmp_Less_uint64 (l_3.getD (0 + ((isub .i64 a 1)).toNat) 0) (l_3.getD (0 + (n4).toNat) 0)).bind fun b2 =>
    bif b2 then
      (slices_partitionOrdered_uint64 data a b n4 l_3).bind fun (n6, b3, l_4) =>
      (slices_pdqsortOrdered_uint64_C113_5 rc data a b n b3 n6 (isub .i64 n6 a) (isub .i64 b n6) (iquo .i64 (isub .i64 b a) 8) (decide (((isub .i64 n6 a) : Int) < (isub .i64 b n6))) l_4).bind fun (n7, n8, b4, l_5) =>
      some (.inl (n7, n8, n, b4, b3, l_5))
    else
      (slices_partitionEqualOrdered_uint64 data a b n4 l_3).bind fun (n6, l_4) =>
      some (.inl (n6, b, n, wb, wp, l_4))
    else none
    else none
  else
    (slices_partitionOrdered_uint64 data a b n4 l_3).bind fun (n6, b2, l_4) =>
    (slices_pdqsortOrdered_uint64_C113_5 rc data a b n b2 n6 (isub .i64 n6 a) (isub .i64 b n6) (iquo .i64 (isub .i64 b a) 8) (decide (((isub .i64 n6 a) : Int) < (isub .i64 b n6))) l_4).bind fun (n7, n8, b3, l_5) =>
    some (.inl (n7, n8, n, b3, b2, l_5))
/-- The rest of a round, behind the pivot. -/
def tailD (d3 : Array Int) (a b limit : Nat) (wb wp : Bool) (pivot : Nat) : Array Int :=
  if a > 0 && !ltInt d3[a - 1]! d3[pivot]! then
    match partitionEqual ltInt d3 a b pivot with
    | (mid, d4) => if _h : a < mid ∧ mid ≤ b then pdq ltInt d4 mid b limit wb wp else d4
  else
    match Go.Sort.partition ltInt d3 a b pivot with
    | (mid, alreadyPartitioned, d4) =>
      if _h : a ≤ mid ∧ mid < b then
        if mid - a < b - mid then
          pdq ltInt (pdq ltInt d4 a mid limit true true) (mid + 1) b limit (decide (mid - a ≥ (b - a) / 8)) alreadyPartitioned
        else
          pdq ltInt (pdq ltInt d4 (mid + 1) b limit true true) a mid limit (decide (b - mid ≥ (b - a) / 8)) alreadyPartitioned
      else d4
theorem pdq_unfold (d : Array Int) (a b limit : Nat) (wb wp : Bool) : pdq ltInt d a b limit wb wp =
    (if b - a ≤ 12 then insertionSort ltInt d a b else
    if limit = 0 then heapSort ltInt d a b else
    let d1 := if !wb then breakPatterns d a b else d
    let limit := if !wb then limit - 1 else limit
    let c := choosePivot ltInt d1 a b
    let d2 := if c.2 = .decreasing then reverseRange d1 a b else d1
    let pivot := if c.2 = .decreasing then (b - 1) - (c.1 - a) else c.1
    let hint := if c.2 = .decreasing then Hint.increasing else c.2
    let pi := if wb && wp && hint = .increasing then partialInsertionSort ltInt d2 a b else (d2, false)
    if pi.2 then pi.1 else tailD pi.1 a b limit wb wp pivot) := by
  rw [pdq]
  rfl
/-- What is to be shown of a part: the printed loop ends with what the plain sort makes. -/
def PdqOk (n N : Nat) (d : Array Int) (a b limit : Nat) (wb wp : Bool) : Prop :=
  runL (slices_pdqsortOrdered_uint64_L0_2_step (slices_pdqsortOrdered_uint64_2 N) n) ((a : Int), (b : Int), (limit : Int), wb, wp, d.toList) = some (pdq ltInt d a b limit wb wp).toList ∧ (pdq ltInt d a b limit wb wp).size = n
theorem rec_ok {n N : Nat} {d : Array Int} {a b limit : Nat} (h : PdqOk n N d a b limit true true) : slices_pdqsortOrdered_uint64_2 (N + 1) n (a : Int) (b : Int) (limit : Int) d.toList = some (pdq ltInt d a b limit true true).toList := by
  rw [slices_pdqsortOrdered_uint64_2, slices_pdqsortOrdered_uint64_2_b, h.1]
  rfl
theorem tail_ok {n N : Nat} (hn2 : n ≤ 200) {d3 : Array Int} {a b limit : Nat} {wb wp : Bool} {pivot : Nat} (hap : a ≤ pivot) (hpb : pivot < b) (hab : a + 12 < b) (hb : b ≤ n) (hd : d3.size = n)
    (ih : ∀ (N' : Nat) (d : Array Int) (a' b' : Nat) (wb wp : Bool), b' - a' < b - a → b' - a' ≤ N' → a' ≤ b' → b' ≤ n → d.size = n → PdqOk n N' d a' b' limit wb wp) (hN : b - a ≤ N) :
    ∃ s', tailS (slices_pdqsortOrdered_uint64_2 N) n (a : Int) (b : Int) (limit : Int) wb wp (pivot : Int) d3.toList = some (.inl s') ∧ runL (slices_pdqsortOrdered_uint64_L0_2_step (slices_pdqsortOrdered_uint64_2 N) n) s' = some (tailD d3 a b limit wb wp pivot).toList ∧ (tailD d3 a b limit wb wp pivot).size = n := by
  obtain ⟨N', rfl⟩ : ∃ N', N = N' + 1 := ⟨N - 1, by omega⟩
  have part : ∃ s', ((slices_partitionOrdered_uint64 n (a : Int) (b : Int) (pivot : Int) d3.toList).bind fun (n6, b2, l_4) =>
      (slices_pdqsortOrdered_uint64_C113_5 (slices_pdqsortOrdered_uint64_2 (N' + 1)) n (a : Int) (b : Int) (limit : Int) b2 n6 (isub .i64 n6 (a : Int)) (isub .i64 (b : Int) n6) (iquo .i64 (isub .i64 (b : Int) (a : Int)) 8) (decide (((isub .i64 n6 (a : Int)) : Int) < (isub .i64 (b : Int) n6))) l_4).bind fun (n7, n8, b3, l_5) =>
      (some (.inl (n7, n8, (limit : Int), b3, b2, l_5)) : Option (PS ⊕ List Int))) = some (.inl s') ∧ ∀ X : Array Int, X = (match Go.Sort.partition ltInt d3 a b pivot with
    | (mid, alreadyPartitioned, d4) =>
      if _h : a ≤ mid ∧ mid < b then
        if mid - a < b - mid then
          pdq ltInt (pdq ltInt d4 a mid limit true true) (mid + 1) b limit (decide (mid - a ≥ (b - a) / 8)) alreadyPartitioned
        else
          pdq ltInt (pdq ltInt d4 (mid + 1) b limit true true) a mid limit (decide (b - mid ≥ (b - a) / 8)) alreadyPartitioned
      else d4) → runL (slices_pdqsortOrdered_uint64_L0_2_step (slices_pdqsortOrdered_uint64_2 (N' + 1)) n) s' = some X.toList ∧ X.size = n := by
    obtain ⟨p1, ⟨p2, p3⟩, p4⟩ := partition_eq (n := n) (a := a) (b := b) (pivot := pivot) (d := d3) (by omega) hap hpb (by omega) hb hd
    rw [p1, Option.bind_some]
    generalize Go.Sort.partition ltInt d3 a b pivot = r at p2 p3 p4
    obtain ⟨mid, ap, d4⟩ := r
    simp only at p2 p3 p4 ⊢
    have e0 : isub .i64 (b : Int) (a : Int) = ((b - a : Nat) : Int) := is_ (by omega) (by omega)
    have e8 : iquo .i64 ((b - a : Nat) : Int) 8 = (((b - a) / 8 : Nat) : Int) := iq (b := 8) (by omega)
    have e1 : isub .i64 (mid : Int) (a : Int) = ((mid - a : Nat) : Int) := is_ (by omega) (by omega)
    have e2 : isub .i64 (b : Int) (mid : Int) = ((b - mid : Nat) : Int) := is_ (by omega) (by omega)
    have e3 : iadd .i64 (mid : Int) 1 = ((mid + 1 : Nat) : Int) := ia1 (by omega)
    have dc : ∀ x y : Nat, decide ((x : Int) ≤ (y : Int)) = decide (y ≥ x) := fun x y => by
      by_cases h : x ≤ y
      · rw [dt (by omega), dt h]
      · rw [df (by omega), df h]
    rw [e0, e8, e1, e2]
    unfold slices_pdqsortOrdered_uint64_C113_5
    rw [e3]
    by_cases hlt : mid - a < b - mid
    · have h1 := ih N' d4 a mid true true (by omega) (by omega) (by omega) (by omega) p4
      have h2 := ih (N' + 1) (pdq ltInt d4 a mid limit true true) (mid + 1) b (decide (mid - a ≥ (b - a) / 8)) ap (by omega) (by omega) (by omega) hb h1.2
      refine ⟨(((mid + 1 : Nat) : Int), (b : Int), (limit : Int), decide (mid - a ≥ (b - a) / 8), ap, (pdq ltInt d4 a mid limit true true).toList), ?_, ?_⟩
      · rw [dt (show ((mid - a : Nat) : Int) < ((b - mid : Nat) : Int) by omega), cond_true, rec_ok h1]
        simp only [Option.bind_some, dc]
      · intro X hX
        rw [dif_pos ⟨p2, p3⟩, if_pos hlt] at hX
        subst hX
        exact h2
    · have h1 := ih N' d4 (mid + 1) b true true (by omega) (by omega) (by omega) hb p4
      have h2 := ih (N' + 1) (pdq ltInt d4 (mid + 1) b limit true true) a mid (decide (b - mid ≥ (b - a) / 8)) ap (by omega) (by omega) (by omega) (by omega) h1.2
      refine ⟨((a : Int), (mid : Int), (limit : Int), decide (b - mid ≥ (b - a) / 8), ap, (pdq ltInt d4 (mid + 1) b limit true true).toList), ?_, ?_⟩
      · rw [df (show ¬ ((mid - a : Nat) : Int) < ((b - mid : Nat) : Int) by omega), cond_false, rec_ok h1]
        simp only [Option.bind_some, dc]
      · intro X hX
        rw [dif_pos ⟨p2, p3⟩, if_neg hlt] at hX
        subst hX
        exact h2
  obtain ⟨sp, part1, part2⟩ := part
  unfold tailS
  by_cases ha : 0 < a
  · have ea : isub .i64 (a : Int) 1 = ((a - 1 : Nat) : Int) := is1 (by omega) (by omega)
    have ck1 : (decide ((0 : Int) ≤ ((a - 1 : Nat) : Int)) && decide (((a - 1 : Nat) : Int) < (n : Int))) = true := by simp; omega
    have ck2 : (decide ((0 : Int) ≤ (pivot : Int)) && decide ((pivot : Int) < (n : Int))) = true := by simp; omega
    rw [dt (by omega), cond_true, ea, ck1, cond_true, ck2, cond_true, Int.toNat_natCast, Int.toNat_natCast, Nat.zero_add, Nat.zero_add, getL, getL, less_arr, Option.bind_some]
    cases hlt : ltInt d3[a - 1]! d3[pivot]!
    · obtain ⟨p1, ⟨p2, p3⟩, p4⟩ := partitionEqual_eq (n := n) (a := a) (b := b) (pivot := pivot) (d := d3) (by omega) hap hpb (by omega) hb hd
      have hT : tailD d3 a b limit wb wp pivot = (match partitionEqual ltInt d3 a b pivot with
          | (mid, d4) => if _h : a < mid ∧ mid ≤ b then pdq ltInt d4 mid b limit wb wp else d4) := by
        unfold tailD
        rw [if_pos (by simp [hlt]; exact ha)]
      rw [hT, p1, cond_false, Option.bind_some]
      generalize partitionEqual ltInt d3 a b pivot = r at p2 p3 p4
      obtain ⟨mid, d4⟩ := r
      simp only at p2 p3 p4 ⊢
      rw [dif_pos ⟨p2, p3⟩]
      have h2 := ih (N' + 1) d4 mid b wb wp (by omega) (by omega) p3 hb p4
      exact ⟨_, rfl, h2.1, h2.2⟩
    · have hT : tailD d3 a b limit wb wp pivot = (match Go.Sort.partition ltInt d3 a b pivot with
          | (mid, alreadyPartitioned, d4) =>
            if _h : a ≤ mid ∧ mid < b then
              if mid - a < b - mid then
                pdq ltInt (pdq ltInt d4 a mid limit true true) (mid + 1) b limit (decide (mid - a ≥ (b - a) / 8)) alreadyPartitioned
              else
                pdq ltInt (pdq ltInt d4 (mid + 1) b limit true true) a mid limit (decide (b - mid ≥ (b - a) / 8)) alreadyPartitioned
            else d4) := by
        unfold tailD
        rw [if_neg (by simp [hlt])]
      have := part2 _ hT
      exact ⟨sp, part1, this.1, this.2⟩
  · have hT : tailD d3 a b limit wb wp pivot = (match Go.Sort.partition ltInt d3 a b pivot with
        | (mid, alreadyPartitioned, d4) =>
          if _h : a ≤ mid ∧ mid < b then
            if mid - a < b - mid then
              pdq ltInt (pdq ltInt d4 a mid limit true true) (mid + 1) b limit (decide (mid - a ≥ (b - a) / 8)) alreadyPartitioned
            else
              pdq ltInt (pdq ltInt d4 (mid + 1) b limit true true) a mid limit (decide (b - mid ≥ (b - a) / 8)) alreadyPartitioned
          else d4) := by
      unfold tailD
      rw [if_neg (by simp; omega)]
    rw [df (by omega), cond_false]
    have := part2 _ hT
    exact ⟨sp, part1, this.1, this.2⟩
theorem pdq_ok {n : Nat} (hn2 : n ≤ 200) : ∀ (k : Nat) (N : Nat) (d : Array Int) (a b limit : Nat) (wb wp : Bool), b - a = k → k ≤ N → a ≤ b → b ≤ n → limit ≤ 1000 → d.size = n → PdqOk n N d a b limit wb wp := by
  intro k
  induction k using Nat.strongRecOn with
  | ind k ih =>
    intro N d a b limit wb wp hk hN hab hb hlim hd
    have e0 : isub .i64 (b : Int) (a : Int) = ((b - a : Nat) : Int) := is_ (by omega) (by omega)
    unfold PdqOk
    rw [pdq_unfold]
    by_cases h12 : b - a ≤ 12
    · rw [if_pos h12]
      have hl : d.toList.length = n := by rw [Array.length_toList, hd]
      have hi := insertion (a := a) (b := b) (l := d.toList) (by omega) (by omega) (by omega)
      rw [hl, Array.toArray_toList] at hi
      refine ⟨runL_done ?_, ?_⟩
      · rw [slices_pdqsortOrdered_uint64_L0_2_step, e0, dt (by omega), cond_true, hi]
        rfl
      · rw [insertionSort, insOuter_size (Nat.le_refl _), hd]
    · rw [if_neg h12]
      by_cases hz : limit = 0
      · rw [if_pos hz]
        refine ⟨runL_done ?_, ?_⟩
        · rw [slices_pdqsortOrdered_uint64_L0_2_step, e0, df (by omega), cond_false, dt (by omega), cond_true, heap_eq (by omega) (by omega) hb hd]
          rfl
        · rw [heapSort, heapPop_size, heapBuild_size, hd]
      · rw [if_neg hz]
        simp only []
        -- the patterns
        have q1 : slices_pdqsortOrdered_uint64_C35 n (a : Int) (b : Int) (limit : Int) wb wp ((b - a : Nat) : Int) (!wb) d.toList = some ((((if (!wb) = true then limit - 1 else limit) : Nat) : Int), (if (!wb) = true then breakPatterns d a b else d).toList) := by
          unfold slices_pdqsortOrdered_uint64_C35
          cases wb
          · rw [show (!false) = true from rfl, cond_true, break_eq hn2 (by omega) hb hd, is1 (by omega) (by omega), if_pos rfl, if_pos rfl]
            rfl
          · rfl
        have z1 : (if (!wb) = true then breakPatterns d a b else d).size = n := by
          split
          · rw [(breakPatterns_holds d a b hab (by omega)).1, hd]
          · exact hd
        have hl1 : (if (!wb) = true then limit - 1 else limit) ≤ 1000 := by split <;> omega
        generalize (if (!wb) = true then breakPatterns d a b else d) = d1 at q1 z1
        generalize (if (!wb) = true then limit - 1 else limit) = limit1 at q1 hl1
        -- the pivot
        have q2 := choosePivot_eq' (d := d1) (a := a) (b := b) (by omega) (by omega) (by omega)
        have r2 := choosePivot_holds ltInt d1 a b (by omega)
        generalize choosePivot ltInt d1 a b = c at q2 r2
        obtain ⟨cp, ch⟩ := c
        simp only at q2 r2 ⊢
        have ht : List.take n d1.toList = d1.toList := List.take_of_length_le (by rw [Array.length_toList]; omega)
        have q3 : slices_pdqsortOrdered_uint64_C50_2 n (a : Int) (b : Int) (limit1 : Int) wb wp ((b - a : Nat) : Int) (cp : Int) (hc ch) (decide (hc ch = 2)) d1.toList = some ((((if ch = .decreasing then (b - 1) - (cp - a) else cp) : Nat) : Int), hc (if ch = .decreasing then Hint.increasing else ch), (if ch = .decreasing then reverseRange d1 a b else d1).toList) := by
          unfold slices_pdqsortOrdered_uint64_C50_2
          by_cases hch : ch = .decreasing
          · subst hch
            rw [if_pos rfl, if_pos rfl, if_pos rfl, show decide (hc Hint.decreasing = 2) = true from rfl, cond_true, reverseRange_eq (by omega) (by omega) hb z1, is1 (by omega) (by omega), is_ (by omega) (by omega), is_ (by omega) (by omega)]
            rfl
          · rw [if_neg hch, if_neg hch, if_neg hch]
            cases ch
            · rfl
            · rfl
            · exact absurd rfl hch
        have z2 : (if ch = .decreasing then reverseRange d1 a b else d1).size = n := by
          split
          · rw [(reverseRange_holds d1 a b hab (by omega)).1, z1]
          · exact z1
        have rp : a ≤ (if ch = .decreasing then (b - 1) - (cp - a) else cp) ∧ (if ch = .decreasing then (b - 1) - (cp - a) else cp) < b := by split <;> omega
        generalize (if ch = .decreasing then reverseRange d1 a b else d1) = d2 at q3 z2
        generalize (if ch = .decreasing then (b - 1) - (cp - a) else cp) = pivot at q3 rp
        generalize (if ch = .decreasing then Hint.increasing else ch) = hint at q3
        have hh : decide (hc hint = 1) = decide (hint = .increasing) := by cases hint <;> rfl
        have ih2 : ∀ (N' : Nat) (d : Array Int) (a' b' : Nat) (wb wp : Bool), b' - a' < b - a → b' - a' ≤ N' → a' ≤ b' → b' ≤ n → d.size = n → PdqOk n N' d a' b' limit1 wb wp := fun N' d a' b' wb wp h1 h2 h3 h4 h5 => ih (b' - a') (by omega) N' d a' b' limit1 wb wp rfl h2 h3 h4 hl1 h5
        -- a round that no partial sort ends
        have plain : (wb && wp && decide (hint = .increasing)) = false → runL (slices_pdqsortOrdered_uint64_L0_2_step (slices_pdqsortOrdered_uint64_2 N) n) ((a : Int), (b : Int), (limit : Int), wb, wp, d.toList) = some (tailD d2 a b limit1 wb wp pivot).toList ∧ (tailD d2 a b limit1 wb wp pivot).size = n := by
          intro hw
          obtain ⟨s', t1, t2, t3⟩ := tail_ok hn2 (wb := wb) (wp := wp) rp.1 rp.2 (by omega) hb z2 ih2 (by omega : b - a ≤ N)
          unfold tailS at t1
          rw [e0] at t1
          refine ⟨?_, t3⟩
          rw [runL_next (s' := s'), t2]
          rw [slices_pdqsortOrdered_uint64_L0_2_step, e0, df (by omega), cond_false, df (by omega), cond_false, q1, Option.bind_some]
          simp only []
          rw [ht, q2, Option.bind_some]
          simp only []
          rw [q3, Option.bind_some]
          simp only []
          cases wb
          · exact t1
          · cases wp
            · exact t1
            · have : hint ≠ .increasing := by
                intro h
                rw [h] at hw
                exact absurd hw (by decide)
              rw [hh, df this]
              unfold slices_pdqsortOrdered_uint64_C68_2
              exact t1
        by_cases hw : (wb && wp && decide (hint = .increasing)) = true
        · rw [if_pos hw]
          simp only [Bool.and_eq_true, decide_eq_true_eq] at hw
          obtain ⟨⟨rfl, rfl⟩, rfl⟩ := hw
          have q4 := partialInsertion_eq (n := n) (a := a) (b := b) (d := d2) (by omega) (by omega) hb z2
          have z3 : (partialInsertionSort ltInt d2 a b).1.size = n := by rw [partialInsertionSort, partialIns_size, z2]
          generalize partialInsertionSort ltInt d2 a b = pi at q4 z3
          obtain ⟨d3, done⟩ := pi
          simp only at q4 z3 ⊢
          cases done
          · rw [if_neg (by decide)]
            obtain ⟨s', t1, t2, t3⟩ := tail_ok hn2 (wb := true) (wp := true) rp.1 rp.2 (by omega) hb z3 ih2 (by omega : b - a ≤ N)
            unfold tailS at t1
            rw [e0] at t1
            refine ⟨?_, t3⟩
            rw [runL_next (s' := s'), t2]
            rw [slices_pdqsortOrdered_uint64_L0_2_step, e0, df (by omega), cond_false, df (by omega), cond_false, q1, Option.bind_some]
            simp only []
            rw [ht, q2, Option.bind_some]
            simp only []
            rw [q3, Option.bind_some]
            simp only []
            rw [hh]
            unfold slices_pdqsortOrdered_uint64_C68_2
            rw [q4]
            exact t1
          · rw [if_pos rfl]
            refine ⟨runL_done ?_, z3⟩
            rw [slices_pdqsortOrdered_uint64_L0_2_step, e0, df (by omega), cond_false, df (by omega), cond_false, q1, Option.bind_some]
            simp only []
            rw [ht, q2, Option.bind_some]
            simp only []
            rw [q3, Option.bind_some]
            simp only []
            rw [hh]
            unfold slices_pdqsortOrdered_uint64_C68_2
            rw [q4]
            rfl
        · rw [if_neg hw]
          simp only []
          rw [if_neg (by decide)]
          exact plain (by simpa using hw)
theorem sort_full {l : List Int} (h : l.length ≤ 200) : slices_Sort_uint64 201 l.length l = some (sortI l) := by
  unfold slices_Sort_uint64
  rw [bits_len (by omega)]
  simp only [Option.bind_some]
  have hbl : bitsLen l.length ≤ 8 := (bitsLen_le_iff _ _).2 (by omega)
  have h1 := pdq_ok h l.length 200 l.toArray 0 l.length (bitsLen l.length) true true (by omega) h (Nat.zero_le _) (Nat.le_refl _) (by omega) (by simp)
  have h2 := rec_ok h1
  simp only [Int.natCast_zero] at h2
  rw [h2, Option.bind_some]
  congr 1
  have hs : pdq ltInt l.toArray 0 l.length (bitsLen l.length) true true = Go.Sort.sort ltInt l.toArray := by
    unfold Go.Sort.sort
    simp
  rw [hs, Go.Sort.sortInt]
  rfl
end Go.Proofs.Ytgimaogkhblaiaa
