/- A tree of the bits that are left: the document's reader reads it. Plain. -/
import Derived.Test.YtjjakdmcnkldoaaDoorCR10
set_option linter.unusedVariables false
set_option linter.unusedSimpArgs false
namespace Go.Proofs.YtjjakdmcnkldoaaDoor
open Go.Ev Go.Lib

abbrev leaf0 : T_kinfolkref02_Event := T_kinfolkref02_Event.mk 0 T_kinfolkref02_Event.nil T_kinfolkref02_Event.nil
def RGoodE : RE → Option (T_kinfolkref02_Event × Int × List Bool × Int) → Prop
  | .inl (e, t, r), x => x = some (fromEv e t, 0, r, 0)
  | .inr er, x => er ≠ 0 ∧ ∃ (l : List Bool) (w : Int), x = some (leaf0, er, l, w)
theorem rzero {e : Int} {t : Tr} : kinfolkref07_zero (fromEv e t) = some (zeroEv e t) := by
  cases t with
  | nil => rfl
  | mk a t b u =>
    obtain ⟨x, y, hx⟩ := fromEv_mk a t
    unfold kinfolkref07_zero
    simp only [fromEv, hx]
    rfl
theorem tail_check {α : Type} {x y zt zu pa pb eq : Bool} {X M E : α} (hE : E = bif eq then X else M) (fa : x = false → zt = true) (fb : y = false → zu = true) :
    (bif x then (bif zt then X else (bif y then (bif zu then X else (bif pa then (bif pb then X else E) else E)) else (bif pa then (bif pb then X else E) else E))) else (bif y then (bif zu then X else (bif pa then (bif pb then X else E) else E)) else (bif pa then (bif pb then X else E) else E))) =
      if zt = x ∨ zu = y ∨ (pa = true ∧ pb = true) ∨ eq = true then X else M := by
  subst hE
  cases x <;> cases y <;> cases zt <;> cases zu <;> cases pa <;> cases pb <;> cases eq <;> simp_all
theorem number_is {l : List Bool} (hl : l.length ≤ 1000000) : kinfolkref07_number l 0 = some (match numL l with | some (v, r) => if 1048576 < v then (0, 4, r, 0) else ((v : Int), 0, r, 0) | none => (0, 6, l, 6)) := by
  unfold kinfolkref07_number
  rw [rNumL hl]
  cases numL l with
  | none => rfl
  | some z =>
    obtain ⟨v, r⟩ := z
    simp only [Option.bind_some, decide_true, cond_true]
    by_cases hv : 1048576 < v
    · simp only [if_pos hv, dt (show (1048576 : Int) < (v : Int) by omega), cond_true]
    · simp only [if_neg hv, df (show ¬ (1048576 : Int) < (v : Int) by omega), cond_false]
theorem number_bad {l : List Bool} {e : Int} (he : e ≠ 0) : kinfolkref07_number l e = some (0, 6, l, e) := by
  unfold kinfolkref07_number
  rw [rNumL_bad he]
  simp only [Option.bind_some, df he, cond_false]
def RGoodH : (Bool × Bool × Int × List Bool) ⊕ Int → Option ((Int × List Bool × Int) ⊕ (Bool × Bool × Int × List Bool × Int)) → Prop
  | .inl (x, y, base, r), z => z = some (.inr (x, y, base, r, 0))
  | .inr e, z => e ≠ 0 ∧ ((∃ (l : List Bool) (w : Int), z = some (.inl (e, l, w))) ∨ (e = 6 ∧ ∃ (x y : Bool) (base : Int) (l : List Bool) (w : Int), z = some (.inr (x, y, base, l, w)) ∧ w ≠ 0))
theorem rbase {x y : Bool} {l : List Bool} (hl : l.length ≤ 1000000) : RGoodH (baseL x y l) ((kinfolkref07_number l 0).bind fun (n5, n6, l_3, n7) =>
    bif (decide (n6 = 0)) then
      bif (decide (n5 = 0)) then
        some (.inl (6, l_3, n7))
      else
        some (.inr (x, y, n5, l_3, n7))
    else
      some (.inl (n6, l_3, n7))) := by
  rw [number_is hl]
  unfold baseL
  cases numL l with
  | none => exact ⟨by decide, .inl ⟨l, 6, rfl⟩⟩
  | some z =>
    obtain ⟨v, r⟩ := z
    by_cases hv : 1048576 < v
    · simp only [if_pos hv]
      exact ⟨by decide, .inl ⟨r, 0, rfl⟩⟩
    · simp only [if_neg hv]
      by_cases hv0 : v = 0
      · subst hv0
        simp only [if_true]
        exact ⟨by decide, .inl ⟨r, 0, rfl⟩⟩
      · simp only [if_neg hv0, Option.bind_some, decide_true, cond_true, df (show ¬ (v : Int) = 0 by omega), cond_false]
        rfl
theorem rbit1 {c : Bool} {l : List Bool} (hl : l.length ≤ 999999) : kinfolkref05_Get_2 1 (c :: l) 0 = some (((if c = true then 1 else 0 : Nat) : Int), l, 0) := by
  have := rGet2 (k := 1) (l := c :: l) (by decide) (by simp only [List.length_cons]; omega)
  rw [if_neg (by simp)] at this
  simp only [List.take_succ_cons, List.take_zero, valB, List.length_nil, Nat.pow_zero, Nat.add_zero] at this
  exact this
theorem rbit1_none : kinfolkref05_Get_2 1 [] 0 = some (0, [], 6) := rGet2 (k := 1) (l := []) (by decide) (by simp)
theorem rhead {d : Int} {t0 : T_kinfolkref02_Event} {L : List Bool} (hl : L.length ≤ 999999) :
    RGoodH (headE L) ((kinfolkref05_Get_2 2 L 0).bind fun (n4, l_2, n5) => kinfolkref07_GetEvent_C53 d t0 (!(decide (n4 = 0))) (!(decide (n4 = 1))) (decide (n4 = 3)) l_2 n5) := by
  have n6 : (6 : Int) ≠ 0 := by decide
  have short : L.length < 2 → headE L = .inr 6 → RGoodH (headE L) ((kinfolkref05_Get_2 2 L 0).bind fun (n4, l_2, n5) => kinfolkref07_GetEvent_C53 d t0 (!(decide (n4 = 0))) (!(decide (n4 = 1))) (decide (n4 = 3)) l_2 n5) := by
    intro hlt he
    rw [he]
    have g1 := rGet2 (k := 2) (l := L) (by decide) (by omega)
    rw [if_pos hlt] at g1
    have g1' : kinfolkref05_Get_2 2 L 0 = some (0, L, 6) := g1
    rw [g1']
    exact ⟨n6, .inr ⟨rfl, false, true, 0, L, 6, rfl, n6⟩⟩
  match L, hl, short with
  | [], hl, short => exact short (by simp) rfl
  | [a], hl, short => exact short (by simp) (by cases a <;> rfl)
  | a :: b :: l, hl, short =>
    simp only [List.length_cons] at hl
    have g1 : kinfolkref05_Get_2 2 (a :: b :: l) 0 = some ((valB [a, b] : Int), l, 0) := by
      have := rGet2 (k := 2) (l := a :: b :: l) (by decide) (by simp only [List.length_cons]; omega)
      rw [if_neg (by simp)] at this
      exact this
    rw [g1]
    cases a with
    | false => cases b <;> exact rfl
    | true =>
      cases b with
      | false => exact rfl
      | true =>
        show RGoodH (headE (true :: true :: l)) (kinfolkref07_GetEvent_C53 d t0 true true true l 0)
        unfold kinfolkref07_GetEvent_C53 kinfolkref07_GetEvent_C56
        cases l with
        | nil =>
          rw [rbit1_none]
          refine ⟨n6, .inl ⟨[], 6, ?_⟩⟩
          simp only [cond_true, Option.bind_some, decide_true, rGet2_bad n6 (show (0 : Int) ≤ 1 ∧ (1 : Int) ≤ 64 by decide), number_bad n6, df (show ¬ (6 : Int) = 0 by decide), cond_false]
        | cons c l =>
          simp only [List.length_cons] at hl
          rw [rbit1 (by omega)]
          cases c with
          | true => exact rbase (x := true) (y := true) (by omega)
          | false =>
            cases l with
            | nil =>
              refine ⟨n6, .inl ⟨[], 6, ?_⟩⟩
              simp only [cond_true, Option.bind_some, Bool.false_eq_true, if_false, dt (show ((0 : Nat) : Int) = 0 from rfl), rbit1_none, number_bad n6, df (show ¬ (6 : Int) = 0 by decide), cond_false]
            | cons c l =>
              simp only [List.length_cons] at hl
              have := rbase (x := c) (y := !c) (l := l) (by omega)
              simp only [cond_true, Option.bind_some, Bool.false_eq_true, if_false, dt (show ((0 : Nat) : Int) = 0 from rfl), rbit1 (c := c) (l := l) (by omega)]
              cases c with
              | true => exact this
              | false => exact this
end Go.Proofs.YtjjakdmcnkldoaaDoor
