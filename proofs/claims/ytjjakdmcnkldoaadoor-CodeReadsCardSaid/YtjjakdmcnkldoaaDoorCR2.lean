/- Numbers of the bits that are left: both readers. Plain. -/
import Derived.Test.YtjjakdmcnkldoaaDoorCR1
set_option linter.unusedVariables false
set_option linter.unusedSimpArgs false
namespace Go.Proofs.YtjjakdmcnkldoaaDoor
open Go.Ev Go.Lib

/-- A number at the head: 'f' more ones may come; 'b' bits; 'base': what the ones count. -/
def goL : Nat → Nat → Nat → List Bool → Option (Nat × List Bool)
  | _, _, _, [] => none
  | 0, b, base, c :: l => if c = true ∨ l.length < b ∨ 2 ^ 64 ≤ base + valB (l.take b) then none else some (base + valB (l.take b), l.drop b)
  | f + 1, b, base, c :: l => if c = true then goL f (b + 1) (base + 2 ^ b) l else if l.length < b ∨ 2 ^ 64 ≤ base + valB (l.take b) then none else some (base + valB (l.take b), l.drop b)
def numL (l : List Bool) : Option (Nat × List Bool) := goL 62 2 0 l
theorem fail0 {p : List Int} {n : Int} : bits_Reader_fail p n 0 = some 6 := rfl
theorem fail6 {p : List Int} {n : Int} : bits_Reader_fail p n 6 = some 6 := rfl
theorem shl_is {b : Nat} (hb : b ≤ 63) : ishl .u64 1 (b : Int) = ((2 ^ b : Nat) : Int) := by
  have h63 : 2 ^ b ≤ 2 ^ 63 := Nat.pow_le_pow_right (by decide) hb
  have := ishl_nat (k := .u64) rfl (a := 1) (n := b) (show b ≤ 64 by omega) (show 1 * 2 ^ b < 2 ^ 64 by omega)
  rw [Nat.one_mul] at this
  exact this
/-- Behind the nought: the number itself. -/
theorem num_tail {p : List Int} {was : Int} {b base n : Nat} {L : List Bool} (hb : Bytes p) (hp : p.length ≤ 100000) (hb64 : b ≤ 64) (hbase : base < 2 ^ 64) (h : Rem p n L) :
    ∃ x m e, bits_Reader_Get (b : Int) p (n : Int) 0 = some (x, m, e) ∧
      (if L.length < b ∨ 2 ^ 64 ≤ base + valB (L.take b) then (e = 6 ∨ (e = 0 ∧ 18446744073709551615 - (base : Int) < x)) else (e = 0 ∧ x = (valB (L.take b) : Int) ∧ m = ((n + b : Nat) : Int) ∧ ¬ 18446744073709551615 - (base : Int) < x)) := by
  by_cases hL : L.length < b
  · exact ⟨_, _, _, rem_none hp hb64 h hL, by rw [if_pos (.inl hL)]; exact .inl rfl⟩
  · refine ⟨_, _, _, rem_get hb hp hb64 h (by omega), ?_⟩
    generalize valB (L.take b) = v
    by_cases hv : 2 ^ 64 ≤ base + v
    · rw [if_pos (.inr hv)]
      exact .inr ⟨rfl, by omega⟩
    · rw [if_neg (fun hc => hc.elim hL hv)]
      exact ⟨rfl, rfl, rfl, by omega⟩
theorem num_rem {p : List Int} {was : Int} (hb : Bytes p) (hp : p.length ≤ 100000) : ∀ (f b : Nat) {base n : Nat} {L : List Bool}, f + b = 64 → 1 ≤ f → base + 4 = 2 ^ b → Rem p n L →
    match goL f b base L with
    | some (v, L') => ∃ m : Nat, runL (bits_Reader_Num_S0_step was p) ((b : Int), (base : Int), (n : Int), 0) = some ((v : Int), (m : Int), 0) ∧ Rem p m L'
    | none => runL (bits_Reader_Num_S0_step was p) ((b : Int), (base : Int), (n : Int), 0) = some (0, was, 6)
  | 0, b, base, n, L, hfb, hf, hbase, h => by omega
  | f + 1, b, base, n, [], hfb, hf, hbase, h => by
    have g1 : bits_Reader_Get 1 p (n : Int) 0 = some (0, (n : Int), 6) := rem_none (k := 1) hp (by decide) h (by simp)
    show runL _ _ = _
    refine runL_done ?_
    unfold bits_Reader_Num_S0_step
    simp only [g1, Option.bind_some, df (show ¬ (0 : Int) = 1 by decide), cond_false, get_bad (show (6 : Int) ≠ 0 by decide), df (show ¬ (6 : Int) = 0 by decide), fail6]
  | f + 1, b, base, n, c :: L, hfb, hf, hbase, h => by
    have hc1 := h.cut (k := 1) (by simp)
    rw [List.drop_one, List.tail_cons] at hc1
    have hpow : 2 ^ b ≤ 2 ^ 63 := Nat.pow_le_pow_right (by decide) (by omega)
    have g1 : bits_Reader_Get 1 p (n : Int) 0 = some (((if c = true then 1 else 0 : Nat) : Int), ((n + 1 : Nat) : Int), 0) := by
      have := rem_get (k := 1) hb hp (by decide) h (by simp)
      simp only [List.take_succ_cons, List.take_zero, valB, List.length_nil, Nat.pow_zero, Nat.add_zero] at this
      exact this
    cases c with
    | false =>
      simp only [goL, Bool.false_eq_true, if_false]
      obtain ⟨x, m, e, t1, t2⟩ := num_tail (was := was) (b := b) (base := base) hb hp (by omega) (by omega) hc1
      have e1 : isub .u64 18446744073709551615 (base : Int) = 18446744073709551615 - base := isubU (by omega) (by omega)
      by_cases hcond : L.length < b ∨ 2 ^ 64 ≤ base + valB (L.take b)
      · rw [if_pos hcond] at t2 ⊢
        show runL _ _ = _
        refine runL_done ?_
        unfold bits_Reader_Num_S0_step
        simp only [g1, Option.bind_some, Bool.false_eq_true, if_false, df (show ¬ ((0 : Nat) : Int) = 1 by decide), cond_false, t1, e1]
        rcases t2 with rfl | ⟨rfl, hx⟩
        · simp only [df (show ¬ (6 : Int) = 0 by decide), cond_false, fail6, Option.bind_some]
        · simp only [decide_true, cond_true, dt hx, fail0, Option.bind_some]
      · rw [if_neg hcond] at t2 ⊢
        obtain ⟨rfl, rfl, rfl, hx⟩ := t2
        have hlt : ¬ 2 ^ 64 ≤ base + valB (L.take b) := fun hc => hcond (.inr hc)
        have hL : ¬ L.length < b := fun hc => hcond (.inl hc)
        refine ⟨n + 1 + b, runL_done ?_, hc1.cut (by omega)⟩
        unfold bits_Reader_Num_S0_step
        generalize valB (L.take b) = v at *
        simp only [g1, Option.bind_some, Bool.false_eq_true, if_false, df (show ¬ ((0 : Nat) : Int) = 1 by decide), cond_false, t1, e1, decide_true, cond_true, df hx]
        rw [iaddU (by omega) (by omega), ← Int.natCast_add]
    | true =>
      simp only [goL, if_true]
      have e1 : iadd .i64 (b : Int) 1 = ((b + 1 : Nat) : Int) := by rw [iadd64 (by omega) (by omega)]; omega
      have e2 := shl_is (b := b) (by omega)
      have hpow1 : 2 ^ (b + 1) = 2 ^ b + 2 ^ b := by rw [Nat.pow_succ]; omega
      have e3 : iadd .u64 (base : Int) ((2 ^ b : Nat) : Int) = ((base + 2 ^ b : Nat) : Int) := by
        generalize 2 ^ b = w at *
        rw [iaddU (by omega) (by omega)]; omega
      cases f with
      | succ f =>
        have hs : bits_Reader_Num_S0_step was p ((b : Int), (base : Int), (n : Int), 0) = some (.inl (((b + 1 : Nat) : Int), ((base + 2 ^ b : Nat) : Int), ((n + 1 : Nat) : Int), 0)) := by
          unfold bits_Reader_Num_S0_step
          simp only [g1, Option.bind_some, if_true, dt (show ((1 : Nat) : Int) = 1 from rfl), cond_true, e1, e2, e3, dt (show (0 : Int) ≤ (b : Int) by omega), dt (show ((b + 1 : Nat) : Int) < 64 by omega)]
        have ih := num_rem (was := was) hb hp (f + 1) (b + 1) (base := base + 2 ^ b) (n := n + 1) (L := L) (by omega) (by omega) (by omega) hc1
        rw [runL_next hs]
        exact ih
      | zero =>
        have hb63 : b = 63 := by omega
        have hw : 2 ^ b = 9223372036854775808 := by rw [hb63]
        have e4 : isub .u64 18446744073709551615 (((base + 2 ^ b : Nat)) : Int) = 18446744073709551615 - ((base + 2 ^ b : Nat) : Int) := isubU (by omega) (by omega)
        cases L with
        | nil =>
          have g2 : bits_Reader_Get 1 p ((n + 1 : Nat) : Int) 0 = some (0, ((n + 1 : Nat) : Int), 6) := rem_none (k := 1) hp (by decide) hc1 (by simp)
          show runL _ _ = _
          refine runL_done ?_
          unfold bits_Reader_Num_S0_step
          simp only [g1, Option.bind_some, if_true, dt (show ((1 : Nat) : Int) = 1 from rfl), cond_true, e1, dt (show (0 : Int) ≤ (b : Int) by omega), df (show ¬ ((b + 1 : Nat) : Int) < 64 by omega), cond_false, g2, df (show ¬ (0 : Int) = 1 by decide), get_bad (show (6 : Int) ≠ 0 by decide), df (show ¬ (6 : Int) = 0 by decide), fail6]
        | cons c L =>
          have hc2 := hc1.cut (k := 1) (by simp)
          rw [List.drop_one, List.tail_cons] at hc2
          have g2 : bits_Reader_Get 1 p ((n + 1 : Nat) : Int) 0 = some (((if c = true then 1 else 0 : Nat) : Int), ((n + 1 + 1 : Nat) : Int), 0) := by
            have := rem_get (k := 1) hb hp (by decide) hc1 (by simp)
            simp only [List.take_succ_cons, List.take_zero, valB, List.length_nil, Nat.pow_zero, Nat.add_zero] at this
            exact this
          cases c with
          | true =>
            simp only [goL, true_or, if_true]
            refine runL_done ?_
            unfold bits_Reader_Num_S0_step
            simp only [g1, Option.bind_some, if_true, dt (show ((1 : Nat) : Int) = 1 from rfl), cond_true, e1, dt (show (0 : Int) ≤ (b : Int) by omega), df (show ¬ ((b + 1 : Nat) : Int) < 64 by omega), cond_false, g2, fail0, get_bad (show (6 : Int) ≠ 0 by decide), df (show ¬ (6 : Int) = 0 by decide), fail6]
          | false =>
            simp only [goL, Bool.false_eq_true, false_or]
            obtain ⟨x, m, e, t1, t2⟩ := num_tail (was := was) (b := b + 1) (base := base + 2 ^ b) hb hp (by omega) (by omega) hc2
            by_cases hcond : L.length < b + 1 ∨ 2 ^ 64 ≤ base + 2 ^ b + valB (L.take (b + 1))
            · rw [if_pos hcond] at t2 ⊢
              show runL _ _ = _
              refine runL_done ?_
              unfold bits_Reader_Num_S0_step
              simp only [g1, Option.bind_some, if_true, Bool.false_eq_true, if_false, dt (show ((1 : Nat) : Int) = 1 from rfl), cond_true, e1, e2, e3, e4, dt (show (0 : Int) ≤ (b : Int) by omega), df (show ¬ ((b + 1 : Nat) : Int) < 64 by omega), cond_false, g2, df (show ¬ ((0 : Nat) : Int) = 1 by decide), t1]
              rcases t2 with rfl | ⟨rfl, hx⟩
              · simp only [df (show ¬ (6 : Int) = 0 by decide), cond_false, fail6, Option.bind_some]
              · simp only [decide_true, cond_true, dt hx, fail0, Option.bind_some]
            · rw [if_neg hcond] at t2 ⊢
              obtain ⟨rfl, rfl, rfl, hx⟩ := t2
              have hlt : ¬ 2 ^ 64 ≤ base + 2 ^ b + valB (L.take (b + 1)) := fun hc => hcond (.inr hc)
              have hL : ¬ L.length < b + 1 := fun hc => hcond (.inl hc)
              refine ⟨n + 1 + 1 + (b + 1), runL_done ?_, hc2.cut (by omega)⟩
              unfold bits_Reader_Num_S0_step
              generalize valB (L.take (b + 1)) = v at *
              simp only [g1, Option.bind_some, if_true, Bool.false_eq_true, if_false, dt (show ((1 : Nat) : Int) = 1 from rfl), cond_true, e1, e2, e3, e4, dt (show (0 : Int) ≤ (b : Int) by omega), df (show ¬ ((b + 1 : Nat) : Int) < 64 by omega), cond_false, g2, df (show ¬ ((0 : Nat) : Int) = 1 by decide), t1, decide_true, df hx]
              rw [iaddU (by omega) (by omega), ← Int.natCast_add]
/-- A number, by the program. -/
theorem readNum_rem {p : List Int} {n : Nat} {L : List Bool} (hb : Bytes p) (hp : p.length ≤ 100000) (h : Rem p n L) :
    match numL L with
    | some (v, L') => ∃ m : Nat, bits_Reader_Num p (n : Int) 0 = some ((v : Int), (m : Int), 0) ∧ Rem p m L'
    | none => bits_Reader_Num p (n : Int) 0 = some (0, (n : Int), 6) := by
  have hr := num_rem (was := (n : Int)) hb hp 62 2 (base := 0) rfl (by decide) rfl h
  unfold numL bits_Reader_Num
  cases hq : goL 62 2 0 L with
  | none =>
    rw [hq] at hr
    have hr' : runL (bits_Reader_Num_S0_step (n : Int) p) (2, 0, (n : Int), 0) = some (0, (n : Int), 6) := hr
    show _ = _
    rw [hr']
    rfl
  | some z =>
    obtain ⟨v, L'⟩ := z
    rw [hq] at hr
    obtain ⟨m, hr, hm⟩ := hr
    have hr' : runL (bits_Reader_Num_S0_step (n : Int) p) (2, 0, (n : Int), 0) = some ((v : Int), (m : Int), 0) := hr
    exact ⟨m, by rw [hr']; rfl, hm⟩
end Go.Proofs.YtjjakdmcnkldoaaDoor
