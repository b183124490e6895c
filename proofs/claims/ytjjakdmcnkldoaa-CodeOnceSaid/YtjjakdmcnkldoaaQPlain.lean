/- Plain facts of numbers, bytes, lists. No program in sight. -/
import Derived.Test.YtjjakdmcnkldoaaQTop
import Derived.Test.YtjjakdmcnkldoaaQInts
set_option linter.unusedVariables false
set_option linter.unusedSimpArgs false
namespace Go.Ev

theorem i64_in {n : Int} (h : -1000000000000 ≤ n) (h' : n ≤ 1000000000000) : IntKind.i64.wrap n = n := IntWalk.i64_in n ⟨by omega, by omega⟩
theorem u64_in {n : Int} (h : 0 ≤ n) (h' : n < 18446744073709551616) : IntKind.u64.wrap n = n := IntWalk.u64_in n ⟨by omega, by omega⟩
theorem iadd64 {a b : Int} (h : -1000000000000 ≤ a + b) (h' : a + b ≤ 1000000000000) : iadd .i64 a b = a + b := i64_in h h'
theorem isub64 {a b : Int} (h : -1000000000000 ≤ a - b) (h' : a - b ≤ 1000000000000) : isub .i64 a b = a - b := i64_in h h'
theorem imul64 {a b : Int} (h : -1000000000000 ≤ a * b) (h' : a * b ≤ 1000000000000) : imul .i64 a b = a * b := i64_in h h'
theorem iaddU {a b : Int} (h : 0 ≤ a + b) (h' : a + b < 18446744073709551616) : iadd .u64 a b = a + b := u64_in h h'
theorem isubU {a b : Int} (h : 0 ≤ a - b) (h' : a - b < 18446744073709551616) : isub .u64 a b = a - b := u64_in h h'
theorem iquo64 {a b : Nat} (h : a ≤ 1000000000000) : iquo .i64 (a : Int) (b : Int) = ((a / b : Nat) : Int) := by
  rw [iquo, Int.tdiv_eq_ediv_of_nonneg (by omega), ← Int.natCast_ediv]
  have h1 : ((a / b : Nat) : Int) ≤ a := by exact_mod_cast Nat.div_le_self a b
  have h0 : (0 : Int) ≤ ((a / b : Nat) : Int) := Int.natCast_nonneg _
  generalize ((a / b : Nat) : Int) = d at *
  exact i64_in (by omega) (by omega)
theorem irem64 {a b : Nat} (h : a ≤ 1000000000000) : irem .i64 (a : Int) (b : Int) = ((a % b : Nat) : Int) := by
  rw [irem, Int.tmod_eq_emod_of_nonneg (by omega), ← Int.natCast_emod]
theorem fits_le {n : Nat} : fits n = decide (n ≤ 536870912) := rfl
theorem fits_ok {n : Nat} (h : n ≤ 536870912) : fits n = true := by simp [fits_le, h]
def Bytes (l : List Int) : Prop := ∀ x ∈ l, 0 ≤ x ∧ x < 256
theorem Bytes.at {l : List Int} (h : Bytes l) {i : Nat} (hi : i < l.length) : 0 ≤ l.getD i 0 ∧ l.getD i 0 < 256 := by
  have : l.getD i 0 ∈ l := by simp [List.getD, hi]
  exact h _ this
theorem Bytes.app {l m : List Int} (h : Bytes l) (k : Bytes m) : Bytes (l ++ m) := by
  intro x hx
  rcases List.mem_append.1 hx with hx | hx
  · exact h x hx
  · exact k x hx
theorem drop_cons {l : List Int} {i : Nat} (h : i < l.length) : l.drop i = l.getD i 0 :: l.drop (i + 1) := by
  rw [List.drop_eq_getElem_cons h]
  simp [List.getD, h]
theorem dt {p : Prop} [Decidable p] (h : p) : decide p = true := decide_eq_true h
theorem df {p : Prop} [Decidable p] (h : ¬ p) : decide p = false := decide_eq_false h

/-! ### bits in bytes, the highest first -/
/-- The k lowest bits, the highest of them first. -/
def bitsN : Nat → Nat → List Bool
  | 0, _ => []
  | k + 1, v => v.testBit k :: bitsN k v
theorem bitsN_len : ∀ (k v : Nat), (bitsN k v).length = k
  | 0, _ => rfl
  | k + 1, v => by simp [bitsN, bitsN_len k v]
structure Pk (l : List Int) (B : List Bool) : Prop where
  len : l.length = (B.length + 7) / 8
  byte : Bytes l
  bit : ∀ q j, j < 8 → q < l.length → (l.getD q 0).toNat.testBit (7 - j) = B.getD (8 * q + j) false
theorem Pk.nil : Pk [] [] := ⟨rfl, fun x hx => by simp at hx, fun q j _ h => by simp at h⟩
theorem getD_app {α : Type} (B : List α) (b d : α) (i : Nat) : (B ++ [b]).getD i d = if i < B.length then B.getD i d else if i = B.length then b else d := by
  simp only [List.getD]
  split
  · rename_i h; rw [List.getElem?_append_left h]
  · rename_i h
    rw [List.getElem?_append_right (by omega)]
    split
    · rename_i h2; subst h2; simp
    · rename_i h2
      rw [List.getElem?_eq_none (by simp; omega)]
      rfl
theorem getD_none {α : Type} {B : List α} {d : α} {i : Nat} (h : B.length ≤ i) : B.getD i d = d := by
  simp [List.getD, List.getElem?_eq_none h]
/-- The same bits, with a place for one more. -/
structure Pk1 (l : List Int) (B : List Bool) : Prop where
  len : l.length = B.length / 8 + 1
  byte : Bytes l
  bit : ∀ q j, j < 8 → q < l.length → (l.getD q 0).toNat.testBit (7 - j) = B.getD (8 * q + j) false
theorem Pk.room {l : List Int} {B : List Bool} (h : Pk l B) (h8 : B.length % 8 = 0) : Pk1 (l ++ [0]) B where
  len := by have := h.len; simp only [List.length_append, List.length_cons, List.length_nil]; omega
  byte := h.byte.app (by intro x hx; simp only [List.mem_singleton] at hx; omega)
  bit := by
    intro q j hj hq
    have hl := h.len
    rw [getD_app]
    split
    · rename_i hlt; exact h.bit q j hj hlt
    · rename_i hlt
      have : q = l.length := by simp only [List.length_append, List.length_cons, List.length_nil] at hq; omega
      rw [if_pos this, getD_none (by omega)]
      simp
theorem Pk.room' {l : List Int} {B : List Bool} (h : Pk l B) (h8 : ¬ B.length % 8 = 0) : Pk1 l B := ⟨by have := h.len; omega, h.byte, h.bit⟩
theorem Pk1.no {l : List Int} {B : List Bool} (h : Pk1 l B) : Pk l (B ++ [false]) where
  len := by have := h.len; simp only [List.length_append, List.length_cons, List.length_nil]; omega
  byte := h.byte
  bit := by
    intro q j hj hq
    rw [h.bit q j hj hq, getD_app]
    split
    · rfl
    · rename_i hlt; rw [getD_none (by omega)]; split <;> rfl
theorem top_bit (r : Nat) (hr : r < 8) : 128 / 2 ^ r = 2 ^ (7 - r) := by
  rw [show (128 : Nat) = 2 ^ (7 - r) * 2 ^ r by rw [← Nat.pow_add, show 7 - r + r = 7 by omega]]
  exact Nat.mul_div_cancel _ (Nat.two_pow_pos r)
theorem Pk1.yes {l : List Int} {B : List Bool} (h : Pk1 l B) : Pk (l.set (B.length / 8) (ior .u8 (l.getD (B.length / 8) 0) (ishr .u8 128 ((B.length % 8 : Nat) : Int)))) (B ++ [true]) := by
  have hl := h.len
  have hq : B.length / 8 < l.length := by omega
  have h0 := h.byte.at hq
  have hr : B.length % 8 < 8 := Nat.mod_lt _ (by decide)
  have e1 : ishr .u8 128 ((B.length % 8 : Nat) : Int) = ((2 ^ (7 - B.length % 8) : Nat) : Int) := by
    have := ishr_nat (k := .u8) (a := 128) (n := B.length % 8) (show _ ≤ 8 by omega)
    rw [top_bit _ hr] at this
    exact this
  have h2 : 2 ^ (7 - B.length % 8) < 2 ^ 8 := Nat.pow_lt_pow_right (by decide) (by omega)
  obtain ⟨c, hc⟩ : ∃ c : Nat, l.getD (B.length / 8) 0 = (c : Int) := ⟨_, (Int.toNat_of_nonneg h0.1).symm⟩
  have hc8 : c < 2 ^ 8 := by rw [hc] at h0; omega
  rw [e1, hc, ior_nat (k := .u8) rfl hc8 h2]
  have ho : c ||| 2 ^ (7 - B.length % 8) < 256 := Nat.or_lt_two_pow hc8 h2
  refine ⟨by simp only [List.length_set, List.length_append, List.length_cons, List.length_nil]; omega, fun x hx => ?_, fun q j hj hq2 => ?_⟩
  · rcases List.mem_or_eq_of_mem_set hx with hx | rfl
    · exact h.byte x hx
    · omega
  · rw [List.length_set] at hq2
    have hb := h.bit q j hj hq2
    rw [getD_app]
    by_cases he : q = B.length / 8
    · subst he
      rw [hc, Int.toNat_natCast] at hb
      have hg : (l.set (B.length / 8) ((c ||| 2 ^ (7 - B.length % 8) : Nat) : Int)).getD (B.length / 8) 0 = ((c ||| 2 ^ (7 - B.length % 8) : Nat) : Int) := by
        simp [List.getD, hq]
      rw [hg, Int.toNat_natCast, Nat.testBit_or, hb, Nat.testBit_two_pow]
      by_cases hlt : 8 * (B.length / 8) + j < B.length
      · rw [if_pos hlt]
        have : ¬ (7 - B.length % 8 = 7 - j) := by omega
        simp [this]
      · rw [if_neg hlt, getD_none (by omega)]
        by_cases he2 : 8 * (B.length / 8) + j = B.length
        · rw [if_pos he2]
          have : 7 - B.length % 8 = 7 - j := by omega
          simp [this]
        · rw [if_neg he2]
          have : ¬ (7 - B.length % 8 = 7 - j) := by omega
          simp [this]
    · have hg : (l.set (B.length / 8) ((c ||| 2 ^ (7 - B.length % 8) : Nat) : Int)).getD q 0 = l.getD q 0 := by
        simp only [List.getD]
        rw [List.getElem?_set_ne (Ne.symm he)]
      rw [hg, hb]
      by_cases hlt : 8 * q + j < B.length
      · rw [if_pos hlt]
      · exact absurd hlt (by omega)
/-- Bytes of the same bits are the same. -/
theorem byte_ext {a b : Nat} (ha : a < 256) (hb : b < 256) (h : ∀ j, j < 8 → a.testBit (7 - j) = b.testBit (7 - j)) : a = b := by
  apply Nat.eq_of_testBit_eq
  intro i
  rcases Nat.lt_or_ge i 8 with hi | hi
  · have := h (7 - i) (by omega)
    rwa [show 7 - (7 - i) = i by omega] at this
  · rw [Nat.testBit_lt_two_pow (Nat.lt_of_lt_of_le ha (Nat.pow_le_pow_right (n := 2) (by decide) hi)), Nat.testBit_lt_two_pow (Nat.lt_of_lt_of_le hb (Nat.pow_le_pow_right (n := 2) (by decide) hi))]
theorem Pk.uniq {l m : List Int} {B : List Bool} (h : Pk l B) (k : Pk m B) : l = m := by
  have hlen : l.length = m.length := by rw [h.len, k.len]
  apply List.ext_getElem hlen
  intro q h1 h2
  have a := h.byte.at h1
  have b := k.byte.at h2
  have e1 : l.getD q 0 = l[q] := by simp [List.getD, h1]
  have e2 : m.getD q 0 = m[q] := by simp [List.getD, h2]
  have := byte_ext (a := (l.getD q 0).toNat) (b := (m.getD q 0).toNat) (by omega) (by omega) (fun j hj => by rw [h.bit q j hj h1, k.bit q j hj h2])
  rw [e1] at a this
  rw [e2] at b this
  omega
end Go.Ev
