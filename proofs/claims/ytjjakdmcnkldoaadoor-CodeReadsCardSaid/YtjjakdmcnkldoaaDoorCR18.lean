/- What reads is what is written: shares. Plain. -/
import Derived.Test.YtjjakdmcnkldoaaDoorCR17
set_option linter.unusedVariables false
set_option linter.unusedSimpArgs false
namespace Go.Proofs.YtjjakdmcnkldoaaDoor
open Go.Ev Go.Lib

theorem zeroID_is (i : Bool) (t : Idt) : zeroID i t = zeroI i t := by cases i <;> cases t <;> rfl
theorem decI_enc : ∀ {k : Nat} {L : List Bool} {i : Bool} {t : Idt} {r : List Bool}, decI k L = .inl (i, t, r) → L = encID i t ++ r := by
  have leaf : ∀ {L : List Bool} {i : Bool} {t : Idt} {r : List Bool} {c : Bool} {l : List Bool}, L = false :: false :: c :: l → (Sum.inl (c, T_id_halves.nil, l) : RI) = .inl (i, t, r) → L = encID i t ++ r := by
    rintro L i t r c l rfl h
    cases h
    cases i <;> rfl
  intro k
  induction k with
  | zero =>
    intro L i t r h
    match L, h with
    | false :: false :: c :: l, h => exact leaf rfl h
    | [false, false], h => cases h
    | true :: b :: l, h => cases h
    | false :: true :: l, h => cases h
    | [a], h => cases a <;> cases h
    | [], h => cases h
  | succ k ih =>
    have node : ∀ {a b : Bool} {l : List Bool} {i : Bool} {t : Idt} {r : List Bool}, (a = true ∨ b = true) → nodeI (decI k) a b l = .inl (i, t, r) → a :: b :: l = encID i t ++ r := by
      intro a b l i t r hab h
      unfold nodeI at h
      split at h
      · cases h
      · rename_i i1 t1 l1 h1
        split at h
        · cases h
        · rename_i j1 u1 l2 h2
          split at h
          · cases h
          · rename_i hc
            cases h
            have c1 : ¬ zeroI i1 t1 = a := fun q => hc (.inl q)
            have c2 : ¬ zeroI j1 u1 = b := fun q => hc (.inr (.inl q))
            simp only [encID, zeroID_is]
            cases a with
            | false =>
              cases b with
              | false => rcases hab with h | h <;> cases h
              | true =>
                simp only [if_true] at h1
                cases h1
                simp only [Bool.true_eq_false, if_false] at h2
                rw [show zeroI false .nil = true from rfl, if_pos rfl, ih h2, List.append_assoc]
                rfl
            | true =>
              simp only [Bool.true_eq_false, if_false] at h1
              have z1 : zeroI i1 t1 = false := by cases hz : zeroI i1 t1 <;> simp_all
              cases b with
              | false =>
                simp only [if_true] at h2
                cases h2
                rw [z1, show zeroI false .nil = true from rfl, if_neg (by decide), if_pos rfl, ih h1, List.append_assoc]
                rfl
              | true =>
                simp only [Bool.true_eq_false, if_false] at h2
                have z2 : zeroI j1 u1 = false := by cases hz : zeroI j1 u1 <;> simp_all
                rw [z1, z2, if_neg (by decide), if_neg (by decide), ih h1, ih h2, List.append_assoc, List.append_assoc]
                rfl
    intro L i t r h
    match L, h with
    | false :: false :: c :: l, h => exact leaf rfl h
    | [false, false], h => cases h
    | true :: b :: l, h => exact node (.inl rfl) h
    | false :: true :: l, h => exact node (.inr rfl) h
    | [a], h => cases a <;> cases h
    | [], h => cases h
end Go.Proofs.YtjjakdmcnkldoaaDoor
