/- The writer: bits, numbers. Plain. -/
import Derived.Test.YtjjakdmcnkldoaaDoorCT5
import Derived.Test.YtjjakdmcnkldoaaDoorSQ2
set_option linter.unusedVariables false
set_option linter.unusedSimpArgs false
namespace Go.Proofs.YtjjakdmcnkldoaaDoor
open Go.Ev

theorem bit_test {v i : Nat} (hv : v < 2 ^ 64) (hi : i ≤ 64) : decide (iand .u64 (ishr .u64 (v : Int) (i : Int)) 1 = 1) = v.testBit i := by
  rw [ishr_nat (k := .u64) (show i ≤ 64 from hi)]
  have h1 : v / 2 ^ i < 2 ^ 64 := Nat.lt_of_le_of_lt (Nat.div_le_self _ _) hv
  have h2 := iand_nat (k := .u64) rfl (a := v / 2 ^ i) (b := 1) h1 (by decide)
  rw [show ((1 : Nat) : Int) = 1 from rfl] at h2
  rw [h2, Nat.and_one_is_mod, Nat.testBit_eq_decide_div_mod_eq]
  apply decide_eq_decide.2
  omega
theorem put_step {v m : Nat} {l : List Int} {B : List Bool} (hv : v < 2 ^ 64) (hm : m < 64) (hB : B.length ≤ 1000000) (h : Pk l B) :
    ∃ l', bits_Writer_Put_L0_3_step (v : Int) ((m : Int), (B.length : Int), l) = some (.inl ((m : Int) - 1, ((B.length + 1 : Nat) : Int), l')) ∧ Pk l' (B ++ [v.testBit m]) := by
  have hbt := bit_test hv (show m ≤ 64 by omega)
  have e1 : irem .i64 (B.length : Int) 8 = ((B.length % 8 : Nat) : Int) := irem64 (b := 8) (by omega)
  have e2 : iquo .i64 (B.length : Int) 8 = ((B.length / 8 : Nat) : Int) := iquo64 (b := 8) (by omega)
  have e3 : isub .i64 (m : Int) 1 = (m : Int) - 1 := isub64 (by omega) (by omega)
  have e4 : iadd .i64 (B.length : Int) 1 = ((B.length + 1 : Nat) : Int) := by rw [iadd64 (by omega) (by omega)]; omega
  have hl := h.len
  have c0 : (0 : Int) ≤ (m : Int) := by omega
  have c1 : (0 : Int) ≤ ((B.length % 8 : Nat) : Int) := by omega
  have c2 : (0 : Int) ≤ ((B.length / 8 : Nat) : Int) := by omega
  unfold bits_Writer_Put_L0_3_step
  simp only [e1, e2, e3, e4, dt c0, dt c1, dt c2, cond_true, Int.toNat_natCast, Nat.zero_add, hbt]
  by_cases h8 : B.length % 8 = 0
  · have hr := h.room h8
    have hf : fits (l ++ [0]).length = true := fits_ok (by have := hr.len; omega)
    have c3 : ((B.length / 8 : Nat) : Int) < ((l ++ [0]).length : Int) := by have := hr.len; omega
    rw [dt (show ((B.length % 8 : Nat) : Int) = 0 by omega)]
    simp only [cond_true, hf, dt c3, Bool.and_self]
    cases hb : v.testBit m with
    | true => exact ⟨_, rfl, hr.yes⟩
    | false => exact ⟨_, rfl, hr.no⟩
  · have hr := h.room' h8
    have c3 : ((B.length / 8 : Nat) : Int) < (l.length : Int) := by have := hr.len; omega
    rw [df (show ¬ ((B.length % 8 : Nat) : Int) = 0 by omega)]
    simp only [cond_false, cond_true, dt c3, Bool.and_self]
    cases hb : v.testBit m with
    | true => exact ⟨_, rfl, hr.yes⟩
    | false => exact ⟨_, rfl, hr.no⟩
theorem put_go {v : Nat} (hv : v < 2 ^ 64) : ∀ (m : Nat) {l : List Int} {B : List Bool}, m ≤ 64 → B.length + m ≤ 1000000 → Pk l B →
    ∃ l', runL (bits_Writer_Put_L0_3_step (v : Int)) ((m : Int) - 1, (B.length : Int), l) = some (((B.length + m : Nat) : Int), l') ∧ Pk l' (B ++ bitsN m v)
  | 0, l, B, hm, hB, h => by
    refine ⟨l, runL_done ?_, by simpa [bitsN] using h⟩
    simp [bits_Writer_Put_L0_3_step]
  | m + 1, l, B, hm, hB, h => by
    obtain ⟨l1, h1, p1⟩ := put_step hv (show m < 64 by omega) (by omega) h
    obtain ⟨l2, h2, p2⟩ := put_go hv m (l := l1) (B := B ++ [v.testBit m]) (by omega) (by simp; omega) p1
    refine ⟨l2, ?_, by simpa [bitsN] using p2⟩
    rw [show ((m + 1 : Nat) : Int) - 1 = (m : Int) by omega, runL_next h1]
    rw [List.length_append, List.length_singleton] at h2
    rw [h2]
    congr 3
    omega
theorem put_eq {v k : Nat} (hv : v < 2 ^ 64) (hk : k ≤ 64) {l : List Int} {B : List Bool} (hB : B.length + k ≤ 1000000) (h : Pk l B) :
    ∃ l', bits_Writer_Put_2 (v : Int) (k : Int) (B.length : Int) l = some (((B.length + k : Nat) : Int), l') ∧ Pk l' (B ++ bitsN k v) := by
  obtain ⟨l', h1, h2⟩ := put_go hv k hk hB h
  refine ⟨l', ?_, h2⟩
  unfold bits_Writer_Put_2 bits_within
  rw [if_neg (show ¬ (k : Int) < 0 by omega), if_neg (show ¬ (64 : Int) < k by omega)]
  simp only [Option.bind_some]
  rw [isub64 (by omega) (by omega), h1]
  rfl
theorem put_first : ∀ (v k n : Int), bits_Writer_Put v k n = bits_Writer_Put_2 v k n [] := by
  intro v k n
  have : bits_Writer_Put_L0_2_step v = bits_Writer_Put_L0_3_step v := by
    funext s
    rcases s with ⟨i, n2, l⟩
    rfl
  unfold bits_Writer_Put bits_Writer_Put_2
  rw [this]

/-! ### numbers -/
/-- As many ones as it is long beyond; then the rest. -/
def encGo : Nat → Nat → Nat → List Bool
  | 0, b, n => false :: bitsN b n
  | f + 1, b, n => if 2 ^ b ≤ n then true :: encGo f (b + 1) (n - 2 ^ b) else false :: bitsN b n
def encNum (n : Nat) : List Bool := encGo 62 2 n
theorem encGo_len : ∀ (f b n : Nat), (encGo f b n).length ≤ 2 * f + b + 1
  | 0, b, n => by simp [encGo, bitsN_len]
  | f + 1, b, n => by
    have := encGo_len f (b + 1) (n - 2 ^ b)
    simp only [encGo]
    split <;> simp [bitsN_len] <;> omega
theorem bitsN_one (b : Bool) : bitsN 1 b.toNat = [b] := by cases b <;> rfl
theorem num_go : ∀ (f b : Nat) {n : Nat} {l : List Int} {B : List Bool}, f + b = 64 → 2 ≤ b → n < 2 ^ 64 → B.length + f ≤ 900000 → Pk l B →
    ∃ (n2 b2 : Nat) (l' : List Int) (B' : List Bool), runL bits_Writer_Num_L0_step ((n : Int), (b : Int), (B.length : Int), l) = some ((n2 : Int), (b2 : Int), (B'.length : Int), l') ∧ Pk l' B' ∧ n2 < 2 ^ 64 ∧ b2 ≤ 64 ∧ B'.length ≤ B.length + f ∧ B ++ encGo f b n = B' ++ false :: bitsN b2 n2
  | 0, b, n, l, B, hb, h2, hn, hB, h => by
    obtain rfl : b = 64 := by omega
    refine ⟨n, 64, l, B, runL_done ?_, h, hn, by decide, by omega, rfl⟩
    simp [bits_Writer_Num_L0_step]
  | f + 1, b, n, l, B, hb, h2, hn, hB, h => by
    have e1 : ishr .u64 (n : Int) (b : Int) = ((n / 2 ^ b : Nat) : Int) := ishr_nat (k := .u64) (show b ≤ 64 by omega)
    have hp : 2 ^ b < 2 ^ 64 := Nat.pow_lt_pow_right (by decide) (by omega)
    by_cases hle : 2 ^ b ≤ n
    · have hpos : 0 < n / 2 ^ b := Nat.div_pos hle (Nat.two_pow_pos b)
      obtain ⟨l1, h1, p1⟩ := put_eq (v := 1) (k := 1) (by decide) (by decide) (B := B) (by omega) h
      have e2 : ishl .u64 1 (b : Int) = ((2 ^ b : Nat) : Int) := by
        have := ishl_nat (k := .u64) rfl (a := 1) (n := b) (show b ≤ 64 by omega) (by rw [Nat.one_mul]; exact hp)
        rw [Nat.one_mul] at this
        exact this
      have e3' : ∀ q : Nat, q ≤ n → isub .u64 (n : Int) (q : Int) = ((n - q : Nat) : Int) := fun q hq => by
        rw [isubU (by omega) (by omega)]; omega
      have e3 := e3' (2 ^ b) hle
      have e4 : iadd .i64 (b : Int) 1 = ((b + 1 : Nat) : Int) := by rw [iadd64 (by omega) (by omega)]; omega
      obtain ⟨n2, b2, l', B', r1, r2, r3, r4, r5, r6⟩ := num_go f (b + 1) (n := n - 2 ^ b) (l := l1) (B := B ++ bitsN 1 1) (by omega) (by omega) (Nat.lt_of_le_of_lt (Nat.sub_le _ _) hn) (by simp [bitsN_len]; omega) p1
      refine ⟨n2, b2, l', B', ?_, r2, r3, r4, by simp [bitsN_len] at r5; omega, ?_⟩
      · rw [List.length_append, bitsN_len] at r1
        rw [runL_next (s' := (((n - 2 ^ b : Nat) : Int), ((b + 1 : Nat) : Int), ((B.length + 1 : Nat) : Int), l1)), r1]
        unfold bits_Writer_Num_L0_step
        have h1' : bits_Writer_Put_2 1 1 (B.length : Int) l = some (((B.length + 1 : Nat) : Int), l1) := h1
        simp only [e1, e2, e3, e4, h1', dt (show (b : Int) < 64 by omega), dt (show (0 : Int) ≤ b by omega), dt (show (0 : Int) < ((n / 2 ^ b : Nat) : Int) by omega), cond_true, Option.bind_some]
      · rw [encGo, if_pos hle, ← r6]
        simp [bitsN]
    · have hz : n / 2 ^ b = 0 := Nat.div_eq_of_lt (by omega)
      refine ⟨n, b, l, B, runL_done ?_, h, hn, by omega, by omega, ?_⟩
      · unfold bits_Writer_Num_L0_step
        simp only [e1, hz, dt (show (b : Int) < 64 by omega), dt (show (0 : Int) ≤ b by omega), df (show ¬ (0 : Int) < ((0 : Nat) : Int) by omega), cond_true, cond_false]
      · rw [encGo, if_neg hle]
theorem num_eq {n : Nat} {l : List Int} {B : List Bool} (hn : n < 2 ^ 64) (hB : B.length ≤ 800000) (h : Pk l B) :
    ∃ l', bits_Writer_Num (n : Int) (B.length : Int) l = some (((B ++ encNum n).length : Int), l') ∧ Pk l' (B ++ encNum n) := by
  obtain ⟨n2, b2, l1, B1, r1, r2, r3, r4, r5, r6⟩ := num_go 62 2 (n := n) (by decide) (by decide) hn (by omega) h
  obtain ⟨l2, s1, s2⟩ := put_eq (v := 0) (k := 1) (by decide) (by decide) (B := B1) (by omega) r2
  obtain ⟨l3, t1, t2⟩ := put_eq (v := n2) (k := b2) r3 r4 (B := B1 ++ bitsN 1 0) (by simp [bitsN_len]; omega) s2
  have e : B1 ++ bitsN 1 0 ++ bitsN b2 n2 = B ++ encNum n := by rw [encNum, r6]; simp [bitsN]
  rw [e] at t2
  refine ⟨l3, ?_, t2⟩
  unfold bits_Writer_Num
  have r1' : runL bits_Writer_Num_L0_step ((n : Int), 2, (B.length : Int), l) = some ((n2 : Int), (b2 : Int), (B1.length : Int), l1) := r1
  have s1' : bits_Writer_Put_2 0 1 (B1.length : Int) l1 = some (((B1.length + 1 : Nat) : Int), l2) := s1
  rw [List.length_append, bitsN_len] at t1
  rw [r1']
  simp only [Option.bind_some, s1', t1]
  rw [← e]
  simp only [List.length_append, bitsN_len]
end Go.Proofs.YtjjakdmcnkldoaaDoor
