/- What wire's inner functions do. -/
import Derived.Test.YtecblpgljmbpeaaKa
import Derived.Test.YtecblpgljmbpeaaQInts
namespace Go.Proofs.Ytecblpgljmbpeaa
open Go.Ev

theorem i64_in {n : Int} (h : -1000000000000 ≤ n) (h' : n ≤ 1000000000000) : IntKind.i64.wrap n = n := IntWalk.i64_in n ⟨by omega, by omega⟩

/-! ### wire.Sum -/
theorem in11 (l : List Int) (t : Bool) (i : Int) : ∀ (m : Nat) (k r : Int), k + m = 8 → 0 ≤ k → LR 11 1 (S11i l t r i k) (.exit 2) (E11i l t (iter wstep m r) i 8)
  | 0, k, r, hk, h0 => by
    obtain rfl : k = 8 := by omega
    exact loop_last (Says.of (f11_in l t r i 8) ⟨by decide, trivial⟩) (by simp)
  | m + 1, k, r, hk, h0 => by
    have ih := in11 l t i m (iadd .i64 k 1) (wstep r) (by rw [iadd, i64_in (by omega) (by omega)]; omega) (by rw [iadd, i64_in (by omega) (by omega)]; omega)
    by_cases ho : iand .u32 r 1 = 1
    · rw [wstep, if_pos ho] at ih
      refine loop_next (Says.of (f11_odd l t r i k) ⟨by simp; omega, by simp [ho], rfl, trivial⟩) ?_
      rw [iter, wstep, if_pos ho]
      exact ih
    · rw [wstep, if_neg ho] at ih
      refine loop_next (Says.of (f11_even l t r i k) ⟨by simp; omega, by simp [ho], rfl, trivial⟩) ?_
      rw [iter, wstep, if_neg ho]
      exact ih
theorem drop_cons {l : List Int} {i : Nat} (h : i < l.length) : l.drop i = l.getD i 0 :: l.drop (i + 1) := by
  rw [List.drop_eq_getElem_cons h]
  simp [List.getD, h]
theorem out11 (l : List Int) (t : Bool) (hl : l.length ≤ 1000000000) : ∀ (m i : Nat) (r : Int), i + m = l.length → LR 11 0 (S11o l t r i) (.exit 0) (E11o l t (wfold (l.drop i) r) l.length)
  | 0, i, r, h => by
    obtain rfl : i = l.length := by omega
    rw [List.drop_length]
    exact loop_last (Says.of (f11_out l t r (l.length : Nat)) ⟨by simp, trivial⟩) (by simp)
  | m + 1, i, r, h => by
    have ih := out11 l t hl m (i + 1) (iter wstep 8 (ixor .u32 r (IntKind.u32.wrap (l.getD i 0)))) (by omega)
    have e : iadd .i64 (i : Int) 1 = ((i + 1 : Nat) : Int) := by rw [iadd, i64_in (by omega) (by omega)]; simp
    refine loop_next (Says.of (f11_round l t r i) ⟨by simp; omega, by simp; omega, in11 l t i 8 0 _ (by omega) (by omega), trivial⟩) ?_
    rw [drop_cons (by omega), wfold, List.foldl_cons, ← wfold, e]
    exact ih
def wsum (l : List Int) : Int := ixor .u32 4294967295 (wfold l 4294967295)
theorem sum_runs {l : List Int} {t : Bool} (hl : l.length ≤ 1000000000) : Runs Try.prog 11 [.one (.pv (.ints .u8 l t))] [] [] ([.one (.pv (.int .u32 (wsum l)))], [], []) :=
  runs_of (Says.of (f11_fn l t) ⟨out11 l t hl l.length 0 4294967295 (by omega), trivial⟩)

/-! ### the document's Sum -/
def Bytes (l : List Int) : Prop := ∀ x ∈ l, 0 ≤ x ∧ x < 256
theorem Bytes.at {l : List Int} (h : Bytes l) {i : Nat} (hi : i < l.length) : 0 ≤ l.getD i 0 ∧ l.getD i 0 < 256 := by
  have : l.getD i 0 ∈ l := by simp [List.getD, hi]
  exact h _ this
theorem in12 (l : List Int) (t : Bool) (i : Int) : ∀ (m : Nat) (k r b : Int), k + m = 8 → 0 ≤ k → LR 12 1 (S12i l t r i b k) (.exit 2) (E12i l t (iter rstep m (r, b)).1 i (iter rstep m (r, b)).2 8)
  | 0, k, r, b, hk, h0 => by
    obtain rfl : k = 8 := by omega
    exact loop_last (Says.of (f12_in l t r i b 8) ⟨by decide, trivial⟩) (by simp)
  | m + 1, k, r, b, hk, h0 => by
    have ih := in12 l t i m (iadd .i64 k 1) (rstep (r, b)).1 (rstep (r, b)).2 (by rw [iadd, i64_in (by omega) (by omega)]; omega) (by rw [iadd, i64_in (by omega) (by omega)]; omega)
    rw [iter]
    by_cases ho : irem .u32 r 2 = IntKind.u32.wrap (irem .u8 b 2)
    · have e : rstep (r, b) = (iquo .u32 r 2, iquo .u8 b 2) := by simp only [rstep, if_pos ho]
      rw [e] at ih ⊢
      exact loop_next (Says.of (f12_even l t r i b k) ⟨by simp; omega, rfl, rfl, rfl, rfl, by simpa using ho, trivial⟩) ih
    · have e : rstep (r, b) = (ixor .u32 (iquo .u32 r 2) 3988292384, iquo .u8 b 2) := by simp only [rstep, if_neg ho]
      rw [e] at ih ⊢
      exact loop_next (Says.of (f12_odd l t r i b k) ⟨by simp; omega, rfl, rfl, rfl, rfl, by simpa using ho, trivial⟩) ih
theorem out12 (l : List Int) (t : Bool) (hl : l.length ≤ 1000000000) : ∀ (m i : Nat) (r : Int), i + m = l.length → LR 12 0 (S12o l t r i) (.exit 0) (E12o l t (rfold (l.drop i) r) l.length)
  | 0, i, r, h => by
    obtain rfl : i = l.length := by omega
    rw [List.drop_length]
    exact loop_last (Says.of (f12_out l t r (l.length : Nat)) ⟨by simp, trivial⟩) (by simp)
  | m + 1, i, r, h => by
    have ih := out12 l t hl m (i + 1) (iter rstep 8 (r, l.getD i 0)).1 (by omega)
    have e : iadd .i64 (i : Int) 1 = ((i + 1 : Nat) : Int) := by rw [iadd, i64_in (by omega) (by omega)]; simp
    refine loop_next (Says.of (f12_round l t r i) ⟨by simp; omega, by simp; omega, in12 l t i 8 0 _ _ (by omega) (by omega), trivial⟩) ?_
    rw [drop_cons (by omega), rfold, List.foldl_cons, ← rfold, e]
    exact ih
def rsum (l : List Int) : Int := isub .u32 4294967295 (rfold l 4294967295)
theorem rsum_runs {l : List Int} {t : Bool} (hl : l.length ≤ 1000000000) : Runs Try.prog 12 [.one (.pv (.ints .u8 l t))] [] [] ([.one (.pv (.int .u32 (rsum l)))], [], []) :=
  runs_of (Says.of (f12_fn l t) ⟨out12 l t hl l.length 0 4294967295 (by omega), trivial⟩)
/-! ### bytes of a number -/
theorem bytes_getD {l : List Int} (h : Bytes l) (i : Nat) : ∃ b : Nat, l.getD i 0 = (b : Int) ∧ b < 256 := by
  by_cases hi : i < l.length
  · obtain ⟨h1, h2⟩ := h.at hi
    exact ⟨(l.getD i 0).toNat, by omega, by omega⟩
  · exact ⟨0, by simp [List.getD, List.getElem?_eq_none (Nat.le_of_not_lt hi)], by decide⟩
theorem or_add {a b n : Nat} (ha : a < 2 ^ n) : a ||| b * 2 ^ n = a + b * 2 ^ n := by
  rw [Nat.or_comm, Nat.mul_comm, ← Nat.two_pow_add_eq_or_of_lt ha, Nat.add_comm]
theorem take_step {a b i : Nat} (ha : a < 2 ^ (8 * i)) (hb : b < 256) (hi : i < 4) : ior .u32 a (ishl .u32 (IntKind.u32.wrap b) (imul .i64 8 i)) = ((a + b * 2 ^ (8 * i) : Nat) : Int) := by
  have h1 : IntKind.u32.wrap (b : Int) = (b : Int) := wrap_nat rfl (show b < 2 ^ 32 by omega)
  have h2 : imul .i64 8 (i : Int) = ((8 * i : Nat) : Int) := by rw [imul, i64_in (by omega) (by omega)]; simp
  have hp : b * 2 ^ (8 * i) < 2 ^ 32 := by
    have : 2 ^ (8 * i) ≤ 2 ^ 24 := Nat.pow_le_pow_right (by decide) (by omega)
    calc b * 2 ^ (8 * i) ≤ 255 * 2 ^ 24 := Nat.mul_le_mul (by omega) this
      _ < 2 ^ 32 := by decide
  have ha2 : a < 2 ^ 32 := Nat.lt_of_lt_of_le ha (Nat.pow_le_pow_right (by decide) (by omega))
  rw [h1, h2, ishl_nat (k := .u32) rfl (show 8 * i ≤ 32 by omega) hp, ior_nat (k := .u32) rfl ha2 hp, or_add ha]
def take4n (l : List Int) : Nat → Nat
  | 0 => 0
  | i + 1 => take4n l i + (l.getD i 0).toNat * 2 ^ (8 * i)
theorem take4n_lt {l : List Int} (h : Bytes l) : ∀ i, take4n l i < 2 ^ (8 * i)
  | 0 => by simp [take4n]
  | i + 1 => by
    have ih := take4n_lt h i
    obtain ⟨b, hb, hb2⟩ := bytes_getD h i
    simp only [take4n, hb, Int.toNat_natCast]
    have : 2 ^ (8 * (i + 1)) = 256 * 2 ^ (8 * i) := by rw [Nat.mul_add, Nat.pow_add, Nat.mul_comm]
    rw [this]
    calc take4n l i + b * 2 ^ (8 * i) < 2 ^ (8 * i) + b * 2 ^ (8 * i) := by omega
      _ = (b + 1) * 2 ^ (8 * i) := by rw [Nat.add_mul, Nat.one_mul, Nat.add_comm]
      _ ≤ 256 * 2 ^ (8 * i) := Nat.mul_le_mul_right _ (by omega)
theorem loop36 {l : List Int} {t : Bool} (h : Bytes l) (hl : 4 ≤ l.length) (hl2 : l.length ≤ 1000000000) : ∀ (m i : Nat), i + m = 4 → LR 36 0 (S36 l t (take4n l i) i) (.exit 0) (E36 l t (take4n l 4) 4)
  | 0, i, hi => by
    obtain rfl : i = 4 := by omega
    exact loop_last (Says.of (f36_out l t _ 4) ⟨by decide, trivial⟩) (by simp)
  | m + 1, i, hi => by
    have ih := loop36 (t := t) h hl hl2 m (i + 1) (by omega)
    have e : iadd .i64 (i : Int) 1 = ((i + 1 : Nat) : Int) := by rw [iadd, i64_in (by omega) (by omega)]; simp
    obtain ⟨b, hb, hb2⟩ := bytes_getD h i
    refine loop_next (Says.of (f36_round l t _ i) ⟨by simp; omega, by simp; omega, by rw [imul, i64_in (by omega) (by omega)]; simp; omega, trivial⟩) ?_
    rw [e, Int.toNat_natCast, hb, take_step (take4n_lt h i) hb2 (by omega)]
    have e2 : take4n l i + b * 2 ^ (8 * i) = take4n l (i + 1) := by simp only [take4n, hb, Int.toNat_natCast]
    rw [e2]
    exact ih
theorem take4_eq {l : List Int} (h : Bytes l) : ((take4n l 4 : Nat) : Int) = take4 l := by
  obtain ⟨a, ha, _⟩ := bytes_getD h 0
  obtain ⟨b, hb, _⟩ := bytes_getD h 1
  obtain ⟨c, hc, _⟩ := bytes_getD h 2
  obtain ⟨d, hd, _⟩ := bytes_getD h 3
  simp only [take4n, take4, ha, hb, hc, hd, Int.toNat_natCast, Nat.reduceMul, Nat.reducePow]
  omega
theorem take_runs {l : List Int} {t : Bool} (h : Bytes l) (hl : 4 ≤ l.length) (hl2 : l.length ≤ 1000000000) : Runs Try.prog 36 [.one (.pv (.ints .u8 l t))] [] [] ([.one (.pv (.int .u32 (take4 l)))], [], []) :=
  runs_of (Says.of (f36_fn l t) ⟨by have := loop36 (t := t) h hl hl2 4 0 (by omega); rw [take4_eq h] at this; exact this, trivial⟩)
theorem four_runs {l : List Int} {t : Bool} (h : Bytes l) (hl : 4 ≤ l.length) (hl2 : l.length ≤ 1000000000) : Runs Try.prog 38 [.one (.pv (.ints .u8 l t))] [] [] ([.one (.pv (.int .u32 (take4 l)))], [], []) := by
  obtain ⟨a, ha, _⟩ := bytes_getD h 0
  obtain ⟨b, hb, _⟩ := bytes_getD h 1
  obtain ⟨c, hc, _⟩ := bytes_getD h 2
  obtain ⟨d, hd, _⟩ := bytes_getD h 3
  have e : iadd .u32 (iadd .u32 (iadd .u32 (IntKind.u32.wrap (l.getD 0 0)) (imul .u32 256 (IntKind.u32.wrap (l.getD 1 0)))) (imul .u32 65536 (IntKind.u32.wrap (l.getD 2 0)))) (imul .u32 16777216 (IntKind.u32.wrap (l.getD 3 0))) = take4 l := by
    simp only [iadd, imul, take4, ha, hb, hc, hd, IntKind.wrap_u32]
    omega
  rw [← e]
  exact runs_of (Says.of (f38_fn l t) ⟨by simp; omega, by simp; omega, by simp; omega, by simp; omega, trivial⟩)
end Go.Proofs.Ytecblpgljmbpeaa
