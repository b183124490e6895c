/- Bytes as bits. Plain. -/
import Derived.Test.YtjjakdmcnkldoaaDoorCR12
set_option linter.unusedVariables false
set_option linter.unusedSimpArgs false
namespace Go.Proofs.YtjjakdmcnkldoaaDoor
open Go.Ev Go.Lib

def bitsOf : List Int → List Bool
  | [] => []
  | x :: p => bitsN 8 x.toNat ++ bitsOf p
theorem bitsOf_len : ∀ (p : List Int), (bitsOf p).length = 8 * p.length
  | [] => rfl
  | x :: p => by simp only [bitsOf, List.length_append, bitsN_len, bitsOf_len p, List.length_cons]; omega
theorem bitsOf_app : ∀ (p q : List Int), bitsOf (p ++ q) = bitsOf p ++ bitsOf q
  | [], q => rfl
  | x :: p, q => by simp only [List.cons_append, bitsOf, bitsOf_app p q, List.append_assoc]
theorem bitsOf_at : ∀ {p : List Int} {i : Nat}, i < 8 * p.length → (p.getD (i / 8) 0).toNat.testBit (7 - i % 8) = (bitsOf p).getD i false
  | [], i, h => by simp at h
  | x :: p, i, h => by
    simp only [bitsOf]
    rw [List.getD_eq_getElem?_getD (l := bitsN 8 x.toNat ++ bitsOf p)]
    by_cases hi : i < 8
    · rw [List.getElem?_append_left (by rw [bitsN_len]; exact hi), ← List.getD_eq_getElem?_getD, bits_at hi, Nat.div_eq_of_lt hi, Nat.mod_eq_of_lt hi]
      rfl
    · rw [List.getElem?_append_right (by rw [bitsN_len]; omega), bitsN_len, ← List.getD_eq_getElem?_getD, ← bitsOf_at (p := p) (i := i - 8) (by simp only [List.length_cons] at h; omega)]
      rw [show i / 8 = (i - 8) / 8 + 1 by omega, show i % 8 = (i - 8) % 8 by omega, List.getD_cons_succ]
theorem rem_all (p : List Int) : Rem p 0 (bitsOf p) := by
  have hl := bitsOf_len p
  refine ⟨⟨by omega, fun i hi => ?_⟩, by omega⟩
  rw [Nat.zero_add]
  exact bitsOf_at (by omega)
theorem byte_bit : ∀ x : Fin 256, ∀ k : Fin 8, decide (128 ≤ (x.val * 2 ^ k.val) % 256) = x.val.testBit (7 - k.val) := by decide +kernel
theorem bitsN_take : ∀ {k j v : Nat}, j < k → (bitsN k v).take (j + 1) = (bitsN k v).take j ++ [v.testBit (k - 1 - j)] := by
  intro k j v h
  rw [List.take_succ_eq_append_getElem (by rw [bitsN_len]; exact h)]
  have := bits_at (v := v) h
  rw [List.getD_eq_getElem?_getD, List.getElem?_eq_getElem (by rw [bitsN_len]; exact h)] at this
  simp only [Option.getD_some] at this
  rw [this]
theorem rbyte_go {p : List Int} {n n2 : Int} {x : Nat} {l0 : List Bool} (hx : x < 256) (hl : l0.length ≤ 1000000) : ∀ (m k : Nat), k + m = 8 →
    runL (kinfolkref05_Bits_L1_3_step p n n2) (((x * 2 ^ k % 256 : Nat) : Int), (k : Int), l0 ++ (bitsN 8 x).take k) = some (l0 ++ bitsN 8 x)
  | 0, k, h => by
    obtain rfl : k = 8 := by omega
    refine runL_done ?_
    unfold kinfolkref05_Bits_L1_3_step
    simp only [df (show ¬ ((8 : Nat) : Int) < 8 by decide), cond_false]
    rw [List.take_of_length_le (by rw [bitsN_len]; exact Nat.le_refl _)]
  | m + 1, k, h => by
    have hk : k < 8 := by omega
    rw [← rbyte_go (p := p) (n := n) (n2 := n2) hx hl m (k + 1) (by omega)]
    refine runL_next ?_
    have hb := byte_bit ⟨x, hx⟩ ⟨k, hk⟩
    simp only at hb
    have e1 : imul .u8 ((x * 2 ^ k % 256 : Nat) : Int) 2 = ((x * 2 ^ (k + 1) % 256 : Nat) : Int) := by
      rw [Nat.pow_succ, ← Nat.mul_assoc]
      generalize x * 2 ^ k = w
      rw [imul, IntKind.wrap_u8]; omega
    have e2 : decide ((128 : Int) ≤ ((x * 2 ^ k % 256 : Nat) : Int)) = x.testBit (7 - k) := by
      rw [← hb]
      apply decide_eq_decide.2
      omega
    have e3 : iadd .i64 (k : Int) 1 = ((k + 1 : Nat) : Int) := by rw [iadd64 (by omega) (by omega)]; omega
    have e4 : l0 ++ (bitsN 8 x).take (k + 1) = (l0 ++ (bitsN 8 x).take k) ++ [x.testBit (7 - k)] := by
      rw [bitsN_take hk, List.append_assoc]
    unfold kinfolkref05_Bits_L1_3_step
    simp only [dt (show (k : Int) < 8 by omega), cond_true, e1, e2, e3]
    rw [fits_ok (by simp only [List.length_append, List.length_take, bitsN_len, List.length_singleton]; omega), cond_true, e4]
theorem rbits_go {p : List Int} (hb : Bytes p) (hp : p.length ≤ 10000) : ∀ (m j : Nat), j + m = p.length → runL (kinfolkref05_Bits_L0_2_step p (p.length : Int)) ((j : Int), bitsOf (p.take j)) = some (bitsOf p)
  | 0, j, h => by
    refine runL_done ?_
    unfold kinfolkref05_Bits_L0_2_step
    dsimp only
    rw [df (show ¬ (j : Int) < (p.length : Int) by omega), cond_false, List.take_of_length_le (by omega)]
  | m + 1, j, h => by
    have hj : j < p.length := by omega
    rw [← rbits_go hb hp m (j + 1) (by omega)]
    refine runL_next ?_
    have hx := hb.at hj
    have ex : p.getD j 0 = p[j] := by rw [List.getD_eq_getElem?_getD, List.getElem?_eq_getElem hj]; rfl
    rw [ex] at hx
    obtain ⟨v, hv⟩ : ∃ v : Nat, p[j] = (v : Int) := ⟨_, (Int.toNat_of_nonneg hx.1).symm⟩
    have hv256 : v < 256 := by omega
    have hr := rbyte_go (p := p) (n := (p.length : Int)) (n2 := (j : Int)) (l0 := bitsOf (p.take j)) hv256 (by rw [bitsOf_len, List.length_take]; omega) 8 0 (by omega)
    rw [Nat.pow_zero, Nat.mul_one, Nat.mod_eq_of_lt hv256, List.take_zero, List.append_nil] at hr
    have hr' : runL (kinfolkref05_Bits_L1_3_step p (p.length : Int) (j : Int)) ((v : Int), 0, bitsOf (p.take j)) = some (bitsOf (p.take j) ++ bitsN 8 v) := hr
    have e3 : iadd .i64 (j : Int) 1 = ((j + 1 : Nat) : Int) := by rw [iadd64 (by omega) (by omega)]; omega
    have e4 : bitsOf (p.take (j + 1)) = bitsOf (p.take j) ++ bitsN 8 v := by
      rw [List.take_succ_eq_append_getElem hj, bitsOf_app]
      simp only [bitsOf, List.append_nil, hv, Int.toNat_natCast]
    unfold kinfolkref05_Bits_L0_2_step
    simp only [dt (show (j : Int) < (p.length : Int) by omega), dt (show (0 : Int) ≤ (j : Int) by omega), Bool.and_self, cond_true, Int.toNat_natCast, ex, hv, hr', Option.bind_some, e3, e4]
theorem rBits {p : List Int} (hb : Bytes p) (hp : p.length ≤ 10000) : kinfolkref05_Bits p = some (bitsOf p) := by
  have h := rbits_go hb hp p.length 0 (by omega)
  have h' : runL (kinfolkref05_Bits_L0_2_step p (p.length : Int)) (0, []) = _ := h
  unfold kinfolkref05_Bits
  rw [h']
  rfl
end Go.Proofs.YtjjakdmcnkldoaaDoor
