/- Bits that are left: the document's reader. Plain. -/
import Derived.Test.YtjjakdmcnkldoaaDoorCR2
set_option linter.unusedVariables false
set_option linter.unusedSimpArgs false
namespace Go.Proofs.YtjjakdmcnkldoaaDoor
open Go.Ev Go.Lib

theorem valB_snoc : ∀ (l : List Bool) (b : Bool), valB (l ++ [b]) = 2 * valB l + (if b = true then 1 else 0)
  | [], b => by cases b <;> rfl
  | a :: l, b => by
    have := valB_snoc l b
    simp only [List.cons_append, valB, List.length_append, List.length_singleton, Nat.pow_succ, this]
    split <;> omega
theorem rPower_go {b : Nat} (hb : b < 64) : ∀ (m i : Nat), i + m = b → runL (kinfolkref05_power_L0_step (b : Int)) (((2 ^ i : Nat) : Int), (i : Int)) = some ((2 ^ b : Nat) : Int)
  | 0, i, hi => by
    obtain rfl : i = b := by omega
    refine runL_done ?_
    unfold kinfolkref05_power_L0_step
    simp only [df (show ¬ (i : Int) < (i : Int) by omega), cond_false]
  | m + 1, i, hi => by
    rw [← rPower_go hb m (i + 1) (by omega)]
    refine runL_next ?_
    have h2 : 2 ^ i < 2 ^ 63 := Nat.pow_lt_pow_right (by decide) (by omega)
    rw [Nat.pow_succ]
    generalize 2 ^ i = w at *
    have e1 : imul .u64 (w : Int) 2 = ((w * 2 : Nat) : Int) := by
      rw [imul, u64_in (by omega) (by omega)]; omega
    have e3 : iadd .i64 (i : Int) 1 = ((i + 1 : Nat) : Int) := by rw [iadd64 (by omega) (by omega)]; omega
    unfold kinfolkref05_power_L0_step
    simp only [dt (show (i : Int) < (b : Int) by omega), cond_true, e1, e3]
theorem rPower {b : Nat} (hb : b < 64) : kinfolkref05_power (b : Int) = some ((2 ^ b : Nat) : Int) := by
  have h := rPower_go hb b 0 (by omega)
  rw [Nat.pow_zero] at h
  have h' : runL (kinfolkref05_power_L0_step (b : Int)) (1, 0) = _ := h
  unfold kinfolkref05_power
  rw [h']
  rfl
theorem rget2_go {B l2 : List Bool} {k n2 : Int} (hk : B.length ≤ 64) : ∀ (m j : Nat), j + m = B.length → runL (kinfolkref05_Get_L0_2_step k B (B.length : Int) l2 n2) ((valB (B.take j) : Int), (j : Int)) = some ((valB B : Nat) : Int)
  | 0, j, h => by
    refine runL_done ?_
    unfold kinfolkref05_Get_L0_2_step
    dsimp only
    rw [df (show ¬ (j : Int) < (B.length : Int) by omega), cond_false, List.take_of_length_le (by omega)]
  | m + 1, j, h => by
    have hj : j < B.length := by omega
    rw [← rget2_go hk m (j + 1) (by omega)]
    refine runL_next ?_
    have hlt := valB_lt (B.take j)
    have h63 : 2 ^ (B.take j).length ≤ 2 ^ 63 := Nat.pow_le_pow_right (by decide) (by rw [List.length_take]; omega)
    have e1 : imul .u64 (valB (B.take j) : Int) 2 = ((2 * valB (B.take j) : Nat) : Int) := by
      generalize valB (B.take j) = x at *
      rw [imul, u64_in (by omega) (by omega)]; omega
    have e2 : B.getD j false = B[j] := by rw [List.getD_eq_getElem?_getD, List.getElem?_eq_getElem hj]; rfl
    have e3 : iadd .i64 (j : Int) 1 = ((j + 1 : Nat) : Int) := by rw [iadd64 (by omega) (by omega)]; omega
    rw [List.take_succ_eq_append_getElem hj, valB_snoc]
    unfold kinfolkref05_Get_L0_2_step
    simp only [Int.toNat_natCast, Nat.zero_add, dt (show (j : Int) < (B.length : Int) by omega), dt (show (0 : Int) ≤ (j : Int) by omega), Bool.and_self, cond_true, e1, e2, e3]
    generalize valB (B.take j) = x at *
    cases B[j] with
    | false => rfl
    | true =>
      simp only [cond_true, if_true]
      rw [iaddU (by omega) (by omega)]
      rfl
theorem rnum1_go {B l l3 : List Bool} {b base n2 : Int} (hk : B.length ≤ 64) : ∀ (m j : Nat), j + m = B.length → runL (kinfolkref05_GetNum_L1_step l b base B (B.length : Int) l3 n2) ((valB (B.take j) : Int), (j : Int)) = some ((valB B : Nat) : Int)
  | 0, j, h => by
    refine runL_done ?_
    unfold kinfolkref05_GetNum_L1_step
    dsimp only
    rw [df (show ¬ (j : Int) < (B.length : Int) by omega), cond_false, List.take_of_length_le (by omega)]
  | m + 1, j, h => by
    have hj : j < B.length := by omega
    rw [← rnum1_go hk m (j + 1) (by omega)]
    refine runL_next ?_
    have hlt := valB_lt (B.take j)
    have h63 : 2 ^ (B.take j).length ≤ 2 ^ 63 := Nat.pow_le_pow_right (by decide) (by rw [List.length_take]; omega)
    have e1 : imul .u64 (valB (B.take j) : Int) 2 = ((2 * valB (B.take j) : Nat) : Int) := by
      generalize valB (B.take j) = x at *
      rw [imul, u64_in (by omega) (by omega)]; omega
    have e2 : B.getD j false = B[j] := by rw [List.getD_eq_getElem?_getD, List.getElem?_eq_getElem hj]; rfl
    have e3 : iadd .i64 (j : Int) 1 = ((j + 1 : Nat) : Int) := by rw [iadd64 (by omega) (by omega)]; omega
    rw [List.take_succ_eq_append_getElem hj, valB_snoc]
    unfold kinfolkref05_GetNum_L1_step
    simp only [Int.toNat_natCast, Nat.zero_add, dt (show (j : Int) < (B.length : Int) by omega), dt (show (0 : Int) ≤ (j : Int) by omega), Bool.and_self, cond_true, e1, e2, e3]
    generalize valB (B.take j) = x at *
    cases B[j] with
    | false => rfl
    | true =>
      simp only [cond_true, if_true]
      rw [iaddU (by omega) (by omega)]
      rfl
theorem rget1_go {l : List Bool} {k c n2 : Nat} {n : Int} (hc : c ≤ l.length) (hk : c ≤ 64) : ∀ (m j : Nat), j + m = c → runL (kinfolkref05_Get_L0_step (c : Int) c (c : Int) n l) ((valB (l.take j) : Int), (j : Int)) = some ((valB (l.take c) : Nat) : Int)
  | 0, j, h => by
    refine runL_done ?_
    unfold kinfolkref05_Get_L0_step
    dsimp only
    rw [df (show ¬ (j : Int) < (c : Int) by omega), cond_false, show j = c by omega]
  | m + 1, j, h => by
    have hj : j < l.length := by omega
    rw [← rget1_go (k := k) (n2 := n2) hc hk m (j + 1) (by omega)]
    refine runL_next ?_
    have hlt := valB_lt (l.take j)
    have h63 : 2 ^ (l.take j).length ≤ 2 ^ 63 := Nat.pow_le_pow_right (by decide) (by rw [List.length_take]; omega)
    have e1 : imul .u64 (valB (l.take j) : Int) 2 = ((2 * valB (l.take j) : Nat) : Int) := by
      generalize valB (l.take j) = x at *
      rw [imul, u64_in (by omega) (by omega)]; omega
    have e2 : l.getD j false = l[j] := by rw [List.getD_eq_getElem?_getD, List.getElem?_eq_getElem hj]; rfl
    have e3 : iadd .i64 (j : Int) 1 = ((j + 1 : Nat) : Int) := by rw [iadd64 (by omega) (by omega)]; omega
    rw [List.take_succ_eq_append_getElem hj, valB_snoc]
    unfold kinfolkref05_Get_L0_step
    simp only [Int.toNat_natCast, Nat.zero_add, dt (show (j : Int) < (c : Int) by omega), dt (show (0 : Int) ≤ (j : Int) by omega), Bool.and_self, cond_true, e1, e2, e3]
    generalize valB (l.take j) = x at *
    cases l[j] with
    | false => rfl
    | true =>
      simp only [cond_true, if_true]
      rw [iaddU (by omega) (by omega)]
      rfl
theorem rwithin {k : Nat} (hk : k ≤ 64) : kinfolkref05_within (k : Int) = some (k : Int) := by
  unfold kinfolkref05_within
  rw [df (show ¬ (k : Int) < 0 by omega), df (show ¬ (64 : Int) < (k : Int) by omega)]
  rfl
theorem rGet2 {k : Nat} {l : List Bool} (hk : k ≤ 64) (hl : l.length ≤ 1000000) : kinfolkref05_Get_2 (k : Int) l 0 = some (if l.length < k then (0, l, 6) else ((valB (l.take k) : Int), l.drop k, 0)) := by
  unfold kinfolkref05_Get_2
  rw [rwithin hk]
  simp only [Option.bind_some, decide_true, cond_true]
  by_cases h : l.length < k
  · rw [if_pos h, dt (show (l.length : Int) < (k : Int) by omega), cond_true]
  · have hlen : (l.take k).length = k := by rw [List.length_take]; omega
    have hg' : runL (kinfolkref05_Get_L0_2_step (k : Int) (l.take k) ((l.take k).length : Int) l 0) (0, 0) = some ((valB (l.take k) : Nat) : Int) := by
      have := rget2_go (B := l.take k) (l2 := l) (k := (k : Int)) (n2 := 0) (by omega) (l.take k).length 0 (by omega)
      exact this
    have e1 : List.take ((k : Int) - 0).toNat l = l.take k := by rw [Int.sub_zero, Int.toNat_natCast]
    have e2 : List.take ((l.length : Int) - (k : Int)).toNat (List.drop ((k : Int)).toNat l) = l.drop k := by
      rw [Int.toNat_natCast]
      exact List.take_of_length_le (by rw [List.length_drop]; omega)
    rw [if_neg h, df (show ¬ (l.length : Int) < (k : Int) by omega), cond_false]
    simp only [e1, hg', Option.bind_some, e2, dt (Int.le_refl 0), dt (Nat.le_refl 0), dt (show (0 : Int) ≤ (k : Int) by omega), dt (show (k : Int) ≤ (l.length : Int) by omega), dt (Int.le_refl (l.length : Int)), decide_true, Bool.and_self, cond_true]
theorem rGet2_bad {k e : Int} {l : List Bool} (he : e ≠ 0) (hk : 0 ≤ k ∧ k ≤ 64) : kinfolkref05_Get_2 k l e = some (0, l, e) := by
  obtain ⟨m, rfl⟩ : ∃ m : Nat, k = (m : Int) := ⟨k.toNat, by omega⟩
  unfold kinfolkref05_Get_2
  rw [rwithin (by omega)]
  simp only [Option.bind_some, df he, cond_false]
theorem rGet1 {k : Nat} {l : List Bool} (hk : k ≤ 64) (hl : l.length ≤ 1000000) : kinfolkref05_Get (k : Int) 0 l = some (if l.length < k then (0, l, 6) else ((valB (l.take k) : Int), l.drop k, 0)) := by
  unfold kinfolkref05_Get
  rw [rwithin hk]
  simp only [Option.bind_some, decide_true, cond_true]
  by_cases h : l.length < k
  · rw [if_pos h, dt (show (l.length : Int) < (k : Int) by omega), cond_true]
  · have hg' : runL (kinfolkref05_Get_L0_step (k : Int) k (k : Int) 0 l) (0, 0) = some ((valB (l.take k) : Nat) : Int) := rget1_go (k := 0) (n2 := 0) (by omega) hk k 0 (by omega)
    have e1 : ((k : Int) - 0).toNat = k := by rw [Int.sub_zero, Int.toNat_natCast]
    have e2 : List.take ((l.length : Int) - (k : Int)).toNat (List.drop (0 + ((k : Int)).toNat) l) = l.drop k := by
      rw [Int.toNat_natCast, Nat.zero_add]
      exact List.take_of_length_le (by rw [List.length_drop]; omega)
    rw [if_neg h, df (show ¬ (l.length : Int) < (k : Int) by omega), cond_false]
    simp only [e1, hg', Option.bind_some, e2, dt (Int.le_refl 0), dt (Nat.le_refl 0), dt (show (0 : Int) ≤ (k : Int) by omega), dt (show (k : Int) ≤ (l.length : Int) by omega), dt (Int.le_refl (l.length : Int)), decide_true, Bool.and_self, cond_true]
end Go.Proofs.YtjjakdmcnkldoaaDoor
