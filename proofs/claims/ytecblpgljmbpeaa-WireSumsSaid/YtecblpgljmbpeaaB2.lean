/- What the printed functions are: sums, frames. -/
import Derived.Test.YtecblpgljmbpeaaB1
set_option linter.unusedVariables false
set_option linter.unusedSimpArgs false
namespace Go.Proofs.Ytecblpgljmbpeaa
open Go.Ev

theorem iadd64 {a b : Int} (h : -1000000000000 ≤ a + b) (h' : a + b ≤ 1000000000000) : iadd .i64 a b = a + b := i64_in h h'
theorem isub64 {a b : Int} (h : -1000000000000 ≤ a - b) (h' : a - b ≤ 1000000000000) : isub .i64 a b = a - b := i64_in h h'
theorem fits_le {n : Nat} : fits n = decide (n ≤ 536870912) := rfl

/-! ### sums -/
theorem wire_Sum_byte (l : List Int) (n n2 : Int) : ∀ (m : Nat) (k r : Int), k + m = 8 → 0 ≤ k → runL (wire_Sum_L1_2_step l n n2) (r, k) = some (iter wstep m r)
  | 0, k, r, hk, h0 => by
    obtain rfl : k = 8 := by omega
    exact runL_done (by simp [wire_Sum_L1_2_step, iter])
  | m + 1, k, r, hk, h0 => by
    have ih := wire_Sum_byte l n n2 m (k + 1) (wstep r) (by omega) (by omega)
    rw [runL_next (s' := (wstep r, k + 1)), ih, iter]
    simp only [wire_Sum_L1_2_step, iadd64 (show -1000000000000 ≤ k + 1 by omega) (by omega), show k < 8 by omega, wstep]
    by_cases ho : iand .u32 r 1 = 1 <;> simp [ho]
theorem wire_Sum_all (l : List Int) (hl : l.length ≤ 1000000000) : ∀ (m i : Nat) (r : Int), i + m = l.length → runL (wire_Sum_L0_step l l.length) (r, (i : Int)) = some (wfold (l.drop i) r)
  | 0, i, r, h => by
    obtain rfl : i = l.length := by omega
    exact runL_done (by simp [wire_Sum_L0_step, wfold])
  | m + 1, i, r, h => by
    have ih := wire_Sum_all l hl m (i + 1) (iter wstep 8 (ixor .u32 r (IntKind.u32.wrap (l.getD i 0)))) (by omega)
    rw [runL_next (s' := (iter wstep 8 (ixor .u32 r (IntKind.u32.wrap (l.getD i 0))), ((i + 1 : Nat) : Int))), ih, drop_cons (by omega : i < l.length), wfold, wfold, List.foldl_cons]
    simp [wire_Sum_L0_step, wire_Sum_byte l l.length i 8 0 _ (by omega) (by omega), iadd64 (show -1000000000000 ≤ (i : Int) + 1 by omega) (by omega), show i < l.length by omega]
theorem wire_Sum_eq {l : List Int} (hl : l.length ≤ 1000000000) : wire_Sum l = some (wsum l) := by
  have := wire_Sum_all l hl l.length 0 4294967295 (by omega)
  simp only [wire_Sum, Int.ofNat_eq_natCast, Int.natCast_zero] at this ⊢
  rw [this]; rfl
theorem ref_Sum_byte (l : List Int) (n n2 : Int) : ∀ (m : Nat) (k r b : Int), k + m = 8 → 0 ≤ k → runL (kinfolkref06_Sum_L1_2_step l n n2) (r, b, k) = some (iter rstep m (r, b)).1
  | 0, k, r, b, hk, h0 => by
    obtain rfl : k = 8 := by omega
    exact runL_done (by simp [kinfolkref06_Sum_L1_2_step, iter])
  | m + 1, k, r, b, hk, h0 => by
    have ih := ref_Sum_byte l n n2 m (k + 1) (rstep (r, b)).1 (rstep (r, b)).2 (by omega) (by omega)
    rw [runL_next (s' := ((rstep (r, b)).1, (rstep (r, b)).2, k + 1)), ih, iter]
    simp only [kinfolkref06_Sum_L1_2_step, iadd64 (show -1000000000000 ≤ k + 1 by omega) (by omega), show k < 8 by omega, rstep]
    by_cases ho : irem .u32 r 2 = IntKind.u32.wrap (irem .u8 b 2) <;> simp [ho]
theorem ref_Sum_all (l : List Int) (hl : l.length ≤ 1000000000) : ∀ (m i : Nat) (r : Int), i + m = l.length → runL (kinfolkref06_Sum_L0_step l l.length) (r, (i : Int)) = some (rfold (l.drop i) r)
  | 0, i, r, h => by
    obtain rfl : i = l.length := by omega
    exact runL_done (by simp [kinfolkref06_Sum_L0_step, rfold])
  | m + 1, i, r, h => by
    have ih := ref_Sum_all l hl m (i + 1) (iter rstep 8 (r, l.getD i 0)).1 (by omega)
    rw [runL_next (s' := ((iter rstep 8 (r, l.getD i 0)).1, ((i + 1 : Nat) : Int))), ih, drop_cons (by omega : i < l.length), rfold, rfold, List.foldl_cons]
    simp [kinfolkref06_Sum_L0_step, ref_Sum_byte l l.length i 8 0 _ _ (by omega) (by omega), iadd64 (show -1000000000000 ≤ (i : Int) + 1 by omega) (by omega), show i < l.length by omega]
theorem ref_Sum_eq {l : List Int} (h : Bytes l) (hl : l.length ≤ 1000000000) : kinfolkref06_Sum l = some (wsum l) := by
  have := ref_Sum_all l hl l.length 0 4294967295 (by omega)
  simp only [kinfolkref06_Sum, Int.ofNat_eq_natCast, Int.natCast_zero] at this ⊢
  rw [this, sums_one h]; rfl

/-! ### small ones -/
theorem cut_eq {p : List Int} {n : Int} (hn : 0 ≤ n) (hp : n ≤ 500000000) : kinfolklaw06_cut p n = some (List.take n.toNat p) := by
  have e : (if (n : Int) < (p.length : Int) then n else (p.length : Int)) = ((min n.toNat p.length : Nat) : Int) := by split <;> omega
  unfold kinfolklaw06_cut
  rw [e]
  simp only [Int.sub_zero, Int.toNat_natCast, List.nil_append]
  have e2 : List.take (min n.toNat p.length) p = List.take n.toNat p := by
    rcases Nat.le_total n.toNat p.length with h | h
    · rw [Nat.min_eq_left h]
    · rw [Nat.min_eq_right h, List.take_length, List.take_of_length_le h]
  rw [e2]
  have h3 : (List.take n.toNat p).length ≤ 500000000 := by simp; omega
  have h4 : (min n.toNat p.length) ≤ p.length := Nat.min_le_right _ _
  have h5 : ((min n.toNat p.length : Nat) : Int) ≤ (p.length : Int) := by omega
  have h6 : (0 : Int) ≤ ((min n.toNat p.length : Nat) : Int) := by omega
  generalize ((min n.toNat p.length : Nat) : Int) = z at h5 h6
  by_cases h0 : (List.take n.toNat p).length = 0
  · rw [List.eq_nil_of_length_eq_zero h0]
    simp [h5, h6]
  · have : Nat.beq (List.take n.toNat p).length 0 = false := by
      cases hb : Nat.beq (List.take n.toNat p).length 0 with
      | false => rfl
      | true => exact absurd (Nat.eq_of_beq_eq_true hb) h0
    rw [this]
    have h7 : fits (List.take n.toNat p).length = true := by simp only [fits_le, decide_eq_true_eq]; omega
    rw [h7]
    simp [h5, h6]
theorem same_go {a b : List Int} (hab : a.length = b.length) (ha : a.length ≤ 1000000000) : ∀ (m i : Nat), i + m = a.length → runL (kinfolkref06_Same_L0_step a b a.length) (i : Int) = some (if a.drop i = b.drop i then .inr () else .inl ())
  | 0, i, h => by
    obtain rfl : i = a.length := by omega
    exact runL_done (by simp [kinfolkref06_Same_L0_step, hab])
  | m + 1, i, h => by
    have hi : i < a.length := by omega
    rw [drop_cons hi, drop_cons (l := b) (by omega)]
    by_cases he : a.getD i 0 = b.getD i 0
    · have ih := same_go hab ha m (i + 1) (by omega)
      rw [runL_next (s' := ((i + 1 : Nat) : Int)), ih, he]
      · simp
      · simp [-List.getD_eq_getElem?_getD, kinfolkref06_Same_L0_step, iadd64 (show -1000000000000 ≤ (i : Int) + 1 by omega) (by omega), hi, show i < b.length by omega, he]
    · refine runL_done ?_
      simp [-List.getD_eq_getElem?_getD, kinfolkref06_Same_L0_step, hi, show i < b.length by omega, he]
theorem same_eq {a b : List Int} (ha : a.length ≤ 1000000000) : kinfolkref06_Same a b = some (decide (a = b)) := by
  unfold kinfolkref06_Same
  by_cases h : a.length = b.length
  · have := same_go h ha a.length 0 (by omega)
    simp only [Int.natCast_zero, Int.ofNat_eq_natCast, List.drop_zero] at this
    rw [this]
    by_cases he : a = b <;> simp [he, h]
  · have : a ≠ b := fun he => h (by rw [he])
    simp [show ¬ ((a.length : Int) = (b.length : Int)) by omega, this]
theorem take_go {l : List Int} (h : Bytes l) (hl : 4 ≤ l.length) : ∀ (m i : Nat), i + m = 4 → runL (wire_take_L0_step l) ((take4n l i : Nat), (i : Int)) = some ((take4n l 4 : Nat) : Int)
  | 0, i, hi => by
    obtain rfl : i = 4 := by omega
    exact runL_done (by simp [wire_take_L0_step])
  | m + 1, i, hi => by
    have ih := take_go h hl m (i + 1) (by omega)
    obtain ⟨b, hb, hb2⟩ := bytes_getD h i
    have e2 : take4n l i + b * 2 ^ (8 * i) = take4n l (i + 1) := by simp only [take4n, hb, Int.toNat_natCast]
    have e3 := take_step (take4n_lt h i) hb2 (show i < 4 by omega)
    rw [e2, ← hb] at e3
    have e4 : imul .i64 8 (i : Int) = 8 * i := i64_in (by omega) (by omega)
    rw [runL_next (s' := (((take4n l (i + 1) : Nat) : Int), ((i + 1 : Nat) : Int))), ih]
    simp only [wire_take_L0_step, iadd64 (show -1000000000000 ≤ (i : Int) + 1 by omega) (by omega), Int.toNat_natCast, e3]
    simp [e4, show i < l.length by omega, show (i : Int) < 4 by omega, show (0 : Int) ≤ 8 * i by omega]
theorem wire_take_eq {l : List Int} (h : Bytes l) (hl : 4 ≤ l.length) : wire_take l = some (take4 l) := by
  have := take_go h hl 4 0 (by omega)
  simp only [take4n, Int.natCast_zero, Int.ofNat_eq_natCast] at this
  unfold wire_take
  rw [this, ← take4_eq h]; rfl
end Go.Proofs.Ytecblpgljmbpeaa
