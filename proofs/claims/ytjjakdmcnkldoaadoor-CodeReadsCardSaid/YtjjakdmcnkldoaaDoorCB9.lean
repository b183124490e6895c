/- The reader: bits, numbers. Plain. -/
import Derived.Test.YtjjakdmcnkldoaaDoorCB3
set_option linter.unusedVariables false
set_option linter.unusedSimpArgs false
namespace Go.Proofs.YtjjakdmcnkldoaaDoor
open Go.Ev

/-- These bits stand at that place. -/
structure Has (p : List Int) (n : Nat) (B : List Bool) : Prop where
  room : n + B.length ≤ 8 * p.length
  bit : ∀ i, i < B.length → (p.getD ((n + i) / 8) 0).toNat.testBit (7 - (n + i) % 8) = B.getD i false
theorem Pk.has {p : List Int} {A B C : List Bool} (h : Pk p (A ++ (B ++ C))) : Has p A.length B := by
  have hl := h.len
  simp only [List.length_append] at hl
  refine ⟨by omega, fun i hi => ?_⟩
  have := h.bit ((A.length + i) / 8) ((A.length + i) % 8) (Nat.mod_lt _ (by decide)) (by omega)
  rw [this, show 8 * ((A.length + i) / 8) + (A.length + i) % 8 = A.length + i by omega]
  simp only [List.getD]
  rw [List.getElem?_append_right (by omega), List.getElem?_append_left (by omega), show A.length + i - A.length = i by omega]
theorem Has.left {p : List Int} {n : Nat} {B C : List Bool} (h : Has p n (B ++ C)) : Has p n B := by
  have hr := h.room
  simp only [List.length_append] at hr
  refine ⟨by omega, fun i hi => ?_⟩
  rw [h.bit i (by simp; omega)]
  simp only [List.getD]
  rw [List.getElem?_append_left hi]
theorem Has.right {p : List Int} {n : Nat} {B C : List Bool} (h : Has p n (B ++ C)) : Has p (n + B.length) C := by
  have hr := h.room
  simp only [List.length_append] at hr
  refine ⟨by omega, fun i hi => ?_⟩
  have := h.bit (B.length + i) (by simp; omega)
  rw [show n + B.length + i = n + (B.length + i) by omega, this]
  simp only [List.getD]
  rw [List.getElem?_append_right (by omega), show B.length + i - B.length = i by omega]
theorem read_bit {p : List Int} {n : Nat} (hb : Bytes p) (hn : n < 8 * p.length) (hp : p.length ≤ 100000) :
    IntKind.u64.wrap (iand .u8 (ishr .u8 (p.getD (n / 8) 0) (isub .i64 7 ((n % 8 : Nat) : Int))) 1) = (((p.getD (n / 8) 0).toNat.testBit (7 - n % 8)).toNat : Int) := by
  have h0 := hb.at (show n / 8 < p.length by omega)
  obtain ⟨c, hc⟩ : ∃ c : Nat, p.getD (n / 8) 0 = (c : Int) := ⟨_, (Int.toNat_of_nonneg h0.1).symm⟩
  have e1 : isub .i64 7 ((n % 8 : Nat) : Int) = ((7 - n % 8 : Nat) : Int) := by rw [isub64 (by omega) (by omega)]; omega
  have hc8 : c < 256 := by rw [hc] at h0; omega
  rw [e1, hc, ishr_nat (k := .u8) (show 7 - n % 8 ≤ 8 by omega)]
  have h1 : c / 2 ^ (7 - n % 8) < 2 ^ 8 := Nat.lt_of_le_of_lt (Nat.div_le_self _ _) hc8
  have h2 := iand_nat (k := .u8) rfl (a := c / 2 ^ (7 - n % 8)) (b := 1) h1 (by decide)
  rw [show ((1 : Nat) : Int) = 1 from rfl] at h2
  rw [h2, Nat.and_one_is_mod, Int.toNat_natCast, Nat.testBit_eq_decide_div_mod_eq, u64_in (by omega) (by omega)]
  rcases Nat.mod_two_eq_zero_or_one (c / 2 ^ (7 - n % 8)) with h | h <;> rw [h] <;> rfl
theorem bits_at : ∀ {k v i : Nat}, i < k → (bitsN k v).getD i false = v.testBit (k - 1 - i)
  | 0, v, i, h => by omega
  | k + 1, v, 0, h => by simp [bitsN]
  | k + 1, v, i + 1, h => by
    rw [bitsN, List.getD_cons_succ, bits_at (by omega)]
    congr 1
    omega
theorem div_bit (v m : Nat) : v / 2 ^ m = 2 * (v / 2 ^ (m + 1)) + (v.testBit m).toNat := by
  rw [Nat.testBit_eq_decide_div_mod_eq, Nat.pow_succ, ← Nat.div_div_eq_div_mul]
  rcases Nat.mod_two_eq_zero_or_one (v / 2 ^ m) with h | h
  · have : decide (v / 2 ^ m % 2 = 1) = false := df (by omega)
    rw [this]; simp only [Bool.toNat_false]; omega
  · have : decide (v / 2 ^ m % 2 = 1) = true := dt h
    rw [this]; simp only [Bool.toNat_true]; omega
theorem get_go {p : List Int} {k v n : Nat} (hb : Bytes p) (hp : p.length ≤ 100000) (hk : k ≤ 64) (hv : v < 2 ^ k) (h : Has p n (bitsN k v)) :
    ∀ (m j : Nat), j + m = k → runL (bits_Reader_Get_L0_step (k : Int) p 0) (((v / 2 ^ m : Nat) : Int), (j : Int), ((n + j : Nat) : Int)) = some ((v : Int), ((n + k : Nat) : Int))
  | 0, j, hj => by
    obtain rfl : j = k := by omega
    refine runL_done ?_
    simp [bits_Reader_Get_L0_step]
  | m + 1, j, hj => by
    have hr := h.room
    rw [bitsN_len] at hr
    have ih := get_go hb hp hk hv h m (j + 1) (by omega)
    have hbit := h.bit j (by rw [bitsN_len]; omega)
    rw [bits_at (by omega), show k - 1 - j = m by omega] at hbit
    have hrb := read_bit (n := n + j) hb (by omega) hp
    rw [hbit] at hrb
    rw [runL_next (s' := (((v / 2 ^ m : Nat) : Int), ((j + 1 : Nat) : Int), ((n + (j + 1) : Nat) : Int))), ih]
    have e1 : iquo .i64 ((n + j : Nat) : Int) 8 = (((n + j) / 8 : Nat) : Int) := iquo64 (b := 8) (by omega)
    have e2 : irem .i64 ((n + j : Nat) : Int) 8 = (((n + j) % 8 : Nat) : Int) := irem64 (b := 8) (by omega)
    have e3 : isub .i64 7 (((n + j) % 8 : Nat) : Int) = ((7 - (n + j) % 8 : Nat) : Int) := by rw [isub64 (by omega) (by omega)]; omega
    have e4 : iadd .i64 (j : Int) 1 = ((j + 1 : Nat) : Int) := by rw [iadd64 (by omega) (by omega)]; omega
    have e5 : iadd .i64 ((n + j : Nat) : Int) 1 = ((n + (j + 1) : Nat) : Int) := by rw [iadd64 (by omega) (by omega)]; omega
    have hq : v / 2 ^ (m + 1) < 2 ^ 63 := by
      have h1 : 2 ^ k = 2 ^ j * 2 ^ (m + 1) := by rw [← Nat.pow_add, hj]
      have h2 : v / 2 ^ (m + 1) < 2 ^ j := (Nat.div_lt_iff_lt_mul (Nat.two_pow_pos _)).2 (by rw [← h1]; exact hv)
      exact Nat.lt_of_lt_of_le h2 (Nat.pow_le_pow_right (by decide) (by omega))
    have e6 : ior .u64 (ishl .u64 ((v / 2 ^ (m + 1) : Nat) : Int) 1) ((v.testBit m).toNat : Int) = ((v / 2 ^ m : Nat) : Int) := by
      have h1 := ishl_nat (k := .u64) rfl (a := v / 2 ^ (m + 1)) (n := 1) (by decide) (show _ < 2 ^ 64 by omega)
      rw [show ((1 : Nat) : Int) = 1 from rfl] at h1
      have hbl : (v.testBit m).toNat < 2 := by cases v.testBit m <;> decide
      rw [h1, ior_nat (k := .u64) rfl (show _ < 2 ^ 64 by omega) (show _ < 2 ^ 64 by omega)]
      have h3 : v / 2 ^ (m + 1) * 2 ^ 1 ||| (v.testBit m).toNat = 2 * (v / 2 ^ (m + 1)) + (v.testBit m).toNat := by
        have := Nat.two_pow_add_eq_or_of_lt (i := 1) (b := (v.testBit m).toNat) (by simpa using hbl) (v / 2 ^ (m + 1))
        rw [Nat.mul_comm]
        simpa using this.symm
      rw [h3, ← div_bit]
    unfold bits_Reader_Get_L0_step
    simp only [e1, e2, e4, e5, Int.toNat_natCast, hrb, e6, dt (show (j : Int) < (k : Int) by omega), dt (show (0 : Int) ≤ (((n + j) / 8 : Nat) : Int) by omega), dt (show (((n + j) / 8 : Nat) : Int) < (p.length : Int) by omega), Bool.and_self, cond_true]
    rw [e3, dt (show (0 : Int) ≤ ((7 - (n + j) % 8 : Nat) : Int) by omega)]
    rfl
theorem get_eq {p : List Int} {k v n : Nat} (hb : Bytes p) (hp : p.length ≤ 100000) (hk : k ≤ 64) (hv : v < 2 ^ k) (h : Has p n (bitsN k v)) :
    bits_Reader_Get (k : Int) p (n : Int) 0 = some ((v : Int), ((n + k : Nat) : Int), 0) := by
  have hr := h.room
  rw [bitsN_len] at hr
  have hg := get_go hb hp hk hv h k 0 (by omega)
  rw [Nat.div_eq_of_lt hv, Nat.add_zero] at hg
  have hg' : runL (bits_Reader_Get_L0_step (k : Int) p 0) (0, 0, (n : Int)) = _ := hg
  unfold bits_Reader_Get bits_within bits_Reader_Err bits_Reader_Left
  rw [if_neg (show ¬ (k : Int) < 0 by omega), if_neg (show ¬ (64 : Int) < k by omega)]
  have e1 : isub .i64 (imul .i64 8 (p.length : Int)) (n : Int) = 8 * p.length - n := by
    rw [imul64 (by omega) (by omega), isub64 (by omega) (by omega)]
  simp only [Option.bind_some, decide_true, cond_true, e1, df (show ¬ (8 * (p.length : Int) - n < k) by omega), cond_false, hg']
end Go.Proofs.YtjjakdmcnkldoaaDoor
