/- Numbers of the bits that are left: the document's reader. Plain. -/
import Derived.Test.YtjjakdmcnkldoaaDoorCR3
set_option linter.unusedVariables false
set_option linter.unusedSimpArgs false
namespace Go.Proofs.YtjjakdmcnkldoaaDoor
open Go.Ev Go.Lib

/-- What is read where the ones end. -/
def endL (b base : Nat) : List Bool → Option (Nat × List Bool)
  | [] => none
  | c :: l => if c = true ∨ l.length < b ∨ 2 ^ 64 ≤ base + valB (l.take b) then none else some (base + valB (l.take b), l.drop b)
theorem rnum0_go {l2 : List Bool} {n : Int} : ∀ (f b : Nat) {base : Nat} {l : List Bool}, f + b = 64 → base + 4 = 2 ^ b → l.length ≤ 1000000 →
    ∃ (l' : List Bool) (b' base' : Nat), runL (kinfolkref05_GetNum_L0_step l2 n) (l, (b : Int), (base : Int)) = some (l', (b' : Int), (base' : Int)) ∧ b' ≤ 64 ∧ base' + 4 = 2 ^ b' ∧ l'.length ≤ l.length ∧ goL f b base l = endL b' base' l'
  | f, b, base, [], hfb, hbase, hl => by
    refine ⟨[], b, base, runL_done ?_, by omega, hbase, Nat.le_refl _, ?_⟩
    · unfold kinfolkref05_GetNum_L0_step
      dsimp only
      rw [df (show ¬ (0 : Int) < (([] : List Bool).length : Int) by simp), cond_false]
    · cases f <;> rfl
  | 0, b, base, c :: l, hfb, hbase, hl => by
    refine ⟨c :: l, b, base, runL_done ?_, by omega, hbase, Nat.le_refl _, rfl⟩
    simp only [List.length_cons] at hl
    unfold kinfolkref05_GetNum_L0_step
    simp only [List.length_cons, List.getD_cons_zero, dt (show (0 : Int) < ((l.length + 1 : Nat) : Int) by omega), dt (Int.le_refl 0), dt (Nat.le_refl 0), Bool.and_self, cond_true, df (show ¬ (b : Int) < 64 by omega), cond_false]
    cases c <;> rfl
  | f + 1, b, base, c :: l, hfb, hbase, hl => by
    simp only [List.length_cons] at hl
    cases c with
    | false =>
      refine ⟨false :: l, b, base, runL_done ?_, by omega, hbase, Nat.le_refl _, by simp only [goL, endL, Bool.false_eq_true, if_false, false_or]⟩
      unfold kinfolkref05_GetNum_L0_step
      simp only [List.length_cons, List.getD_cons_zero, dt (show (0 : Int) < ((l.length + 1 : Nat) : Int) by omega), dt (Int.le_refl 0), dt (Nat.le_refl 0), Bool.and_self, cond_true, cond_false]
    | true =>
      have hpow : 2 ^ b ≤ 2 ^ 63 := Nat.pow_le_pow_right (by decide) (by omega)
      have hpow1 : 2 ^ (b + 1) = 2 ^ b + 2 ^ b := by rw [Nat.pow_succ]; omega
      obtain ⟨l', b', base', r1, r2, r3, r4, r5⟩ := rnum0_go (l2 := l2) (n := n) f (b + 1) (base := base + 2 ^ b) (l := l) (by omega) (by omega) (by omega)
      refine ⟨l', b', base', ?_, r2, r3, by simp only [List.length_cons]; omega, by simp only [goL, if_true]; exact r5⟩
      rw [← r1]
      refine runL_next ?_
      have e1 : iadd .i64 (b : Int) 1 = ((b + 1 : Nat) : Int) := by rw [iadd64 (by omega) (by omega)]; omega
      have e2 := rPower (b := b) (by omega)
      have e3 : iadd .u64 (base : Int) ((2 ^ b : Nat) : Int) = ((base + 2 ^ b : Nat) : Int) := by
        generalize 2 ^ b = w at *
        rw [iaddU (by omega) (by omega)]; omega
      have e4 : List.take (((l.length + 1 : Nat) : Int) - 1).toNat (List.drop 1 (true :: l)) = l := by
        rw [List.drop_one, List.tail_cons]
        exact List.take_of_length_le (by omega)
      unfold kinfolkref05_GetNum_L0_step
      simp only [List.length_cons, List.getD_cons_zero, dt (show (0 : Int) < ((l.length + 1 : Nat) : Int) by omega), dt (Int.le_refl 0), dt (Nat.le_refl 0), Bool.and_self, cond_true, dt (show (b : Int) < 64 by omega), e2, Option.bind_some, dt (show (0 : Int) ≤ 1 by decide), dt (show (1 : Int) ≤ ((l.length + 1 : Nat) : Int) by omega), dt (Int.le_refl ((l.length + 1 : Nat) : Int)), decide_true, e1, e3, e4]
theorem rNumL {l : List Bool} (hl : l.length ≤ 1000000) : kinfolkref05_GetNum l 0 = some (match numL l with | some (v, L') => ((v : Int), L', 0) | none => (0, l, 6)) := by
  obtain ⟨l', b', base', r1, r2, r3, r4, r5⟩ := rnum0_go (l2 := l) (n := 0) 62 2 (base := 0) (l := l) rfl rfl hl
  have r1' : runL (kinfolkref05_GetNum_L0_step l 0) (l, 2, 0) = some (l', (b' : Int), (base' : Int)) := r1
  have hp64 : 2 ^ b' ≤ 2 ^ 64 := Nat.pow_le_pow_right (by decide) r2
  unfold numL
  rw [r5]
  unfold kinfolkref05_GetNum
  rw [dt (show (0 : Int) = 0 from rfl), cond_true, r1']
  simp only [Option.bind_some]
  cases l' with
  | nil => rfl
  | cons c t =>
    simp only [List.length_cons] at r4
    have e0 : iadd .i64 1 (b' : Int) = ((b' + 1 : Nat) : Int) := by rw [iadd64 (by omega) (by omega)]; omega
    simp only [List.length_cons, List.getD_cons_zero, df (show ¬ ((t.length + 1 : Nat) : Int) = 0 by omega), dt (show (0 : Int) < ((t.length + 1 : Nat) : Int) by omega), dt (Int.le_refl 0), dt (Nat.le_refl 0), Bool.and_self, cond_true, cond_false, e0]
    cases c with
    | true => simp only [cond_true, endL, true_or, if_true]
    | false =>
      simp only [cond_false, endL, Bool.false_eq_true, false_or]
      by_cases hlen : t.length < b'
      · rw [if_pos (.inl hlen), dt (show ((t.length + 1 : Nat) : Int) < ((b' + 1 : Nat) : Int) by omega), cond_true]
      · have hlt := valB_lt (t.take b')
        have htl : (t.take b').length = b' := by rw [List.length_take]; omega
        rw [htl] at hlt
        have e1 : List.take (((b' + 1 : Nat) : Int) - 1).toNat (List.drop 1 (false :: t)) = t.take b' := by
          rw [List.drop_one, List.tail_cons, show (((b' + 1 : Nat) : Int) - 1).toNat = b' by omega]
        have hgo : runL (kinfolkref05_GetNum_L1_step (false :: t) (b' : Int) (base' : Int) (t.take b') ((t.take b').length : Int) l 0) (0, 0) = some ((valB (t.take b') : Nat) : Int) :=
          rnum1_go (B := t.take b') (l := false :: t) (l3 := l) (b := (b' : Int)) (base := (base' : Int)) (n2 := 0) (by omega) (t.take b').length 0 (by omega)
        have e2 : List.take (((t.length + 1 : Nat) : Int) - ((b' + 1 : Nat) : Int)).toNat (List.drop (((b' + 1 : Nat) : Int)).toNat (false :: t)) = t.drop b' := by
          rw [Int.toNat_natCast, List.drop_succ_cons]
          exact List.take_of_length_le (by rw [List.length_drop]; omega)
        simp only [df (show ¬ ((t.length + 1 : Nat) : Int) < ((b' + 1 : Nat) : Int) by omega), cond_false, dt (show (0 : Int) ≤ 1 by decide), dt (show (1 : Int) ≤ ((b' + 1 : Nat) : Int) by omega), dt (show ((b' + 1 : Nat) : Int) ≤ ((t.length + 1 : Nat) : Int) by omega), decide_true, Bool.and_self, cond_true, e1, hgo, Option.bind_some, e2, dt (show (0 : Int) ≤ ((b' + 1 : Nat) : Int) by omega), dt (Int.le_refl ((t.length + 1 : Nat) : Int))]
        generalize valB (t.take b') = v at *
        by_cases hv : 2 ^ 64 ≤ base' + v
        · have e3 : iadd .u64 (base' : Int) (v : Int) = (base' : Int) + v - 18446744073709551616 := by
            rw [iadd, IntKind.wrap_u64]; omega
          rw [if_pos (.inr hv), e3, dt (show (base' : Int) + v - 18446744073709551616 < (base' : Int) by omega), cond_true]
        · have e3 : iadd .u64 (base' : Int) (v : Int) = ((base' + v : Nat) : Int) := by rw [iaddU (by omega) (by omega)]; omega
          rw [if_neg (fun hc => hc.elim hlen hv), e3, df (show ¬ ((base' + v : Nat) : Int) < (base' : Int) by omega), cond_false]
theorem rNumL_bad {l : List Bool} {e : Int} (he : e ≠ 0) : kinfolkref05_GetNum l e = some (0, l, e) := by
  unfold kinfolkref05_GetNum
  rw [df he]
  rfl
end Go.Proofs.YtjjakdmcnkldoaaDoor
