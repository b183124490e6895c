/- A share of the bits that are left: the program's reader. Plain. -/
import Derived.Test.YtjjakdmcnkldoaaDoorCR4
set_option linter.unusedVariables false
set_option linter.unusedSimpArgs false
namespace Go.Proofs.YtjjakdmcnkldoaaDoor
open Go.Ev Go.Lib

abbrev RI := (Bool × Idt × List Bool) ⊕ Int
/-- A pair, of what its halves read. -/
def nodeI (rec_ : List Bool → RI) (a b : Bool) (l : List Bool) : RI :=
  match (if a = false then .inl (false, .nil, l) else rec_ l : RI) with
  | .inr e => .inr e
  | .inl (i, t, l1) =>
    match (if b = false then .inl (false, .nil, l1) else rec_ l1 : RI) with
    | .inr e => .inr e
    | .inl (j, u, l2) => if zeroI i t = a ∨ zeroI j u = b ∨ (i = true ∧ j = true) then .inr 6 else .inl (false, .mk i t j u, l2)
/-- The next share: so many levels may be below; where it ends, or the error. -/
def decI : Nat → List Bool → RI
  | 0, l => match l with
    | false :: false :: c :: l => .inl (c, .nil, l)
    | [false, false] => .inr 6
    | _ :: _ :: _ => .inr 3
    | _ => .inr 6
  | k + 1, l => match l with
    | false :: false :: c :: l => .inl (c, .nil, l)
    | [false, false] => .inr 6
    | a :: b :: l => nodeI (decI k) a b l
    | _ => .inr 6

theorem pairTot {N k : Nat} {i j : Bool} {t u : Idt} (hN : k + 1 < N) (hk : k ≤ 1000) (d1 : depthI t ≤ k) (d2 : depthI u ≤ k) : ∃ b v c, id_Pair N i t j u = some (b, v, c) ∧ depthI v ≤ k + 1 := by
  have hp : ∃ b v, id_pair i t j u = some (b, v) ∧ depthI v ≤ k + 1 := by
    unfold id_pair
    simp only [idZero, id_ID_IsOne, id_Zero, id_One, Option.bind_some]
    have hm : depthI (.mk i t j u) ≤ k + 1 := by simp only [depthI]; omega
    cases zeroI i t <;> cases zeroI j u <;> cases i <;> cases j <;> first | exact ⟨_, _, rfl, hm⟩ | exact ⟨_, _, rfl, Nat.zero_le _⟩
  obtain ⟨b, v, h1, h2⟩ := hp
  unfold id_Pair
  rw [h1]
  simp only [Option.bind_some, idDepth (N := N) (i := b) (t := v) (by omega) (by omega), id_Zero]
  cases decide ((16 : Int) < (depthI v : Int))
  · exact ⟨b, v, 0, rfl, h2⟩
  · exact ⟨false, .nil, 3, rfl, Nat.zero_le _⟩
theorem id_bad {N : Nat} {p : List Int} {d e n er : Int} (he : e ≠ 0) : code_source_id_2 (N + 1) d e p n er = some (false, .nil, e, n, er) := by
  show code_source_id_2_b N (code_source_id_2 N) d e p n er = _
  unfold code_source_id_2_b
  simp only [id_Zero, Option.bind_some, bit_bad he, decide_true, cond_true, df (show ¬ (0 : Int) = 1 by decide), cond_false]
theorem pair_ok {N : Nat} {i j : Bool} {t u : Idt} (h1 : nfI i t) (h2 : nfI j u) (h3 : ¬ (t = .nil ∧ u = .nil ∧ i = j)) (hd : depthI t < 16) (hd2 : depthI u < 16) (hN : 20 ≤ N) : id_Pair N i t j u = some (false, .mk i t j u, 0) := by
  unfold id_Pair
  rw [idpair h1 h2, pairF, if_neg h3]
  have hdp := idDepth (N := N) (i := false) (t := .mk i t j u) (by simp only [depthI]; omega) (by simp only [depthI]; omega)
  simp only [Option.bind_some, hdp, df (show ¬ (16 : Int) < ((depthI (.mk i t j u) : Nat) : Int) by simp only [depthI]; omega), cond_false]
theorem decI_ok : ∀ {k : Nat} {L : List Bool} {i : Bool} {t : Idt} {r : List Bool}, decI k L = .inl (i, t, r) → nfI i t ∧ depthI t ≤ k ∧ r.length + 3 ≤ L.length := by
  have leaf : ∀ {k : Nat} {L : List Bool} {i : Bool} {t : Idt} {r : List Bool} {c : Bool} {l : List Bool}, L = false :: false :: c :: l → (Sum.inl (c, T_id_halves.nil, l) : RI) = .inl (i, t, r) → nfI i t ∧ depthI t ≤ k ∧ r.length + 3 ≤ L.length := by
    rintro k L i t r c l rfl h
    cases h
    exact ⟨nfI_nil _, Nat.zero_le _, by simp⟩
  intro k
  induction k with
  | zero =>
    intro L i t r h
    match L, h with
    | false :: false :: c :: l, h => exact leaf rfl h
    | [false, false], h => cases h
    | true :: b :: l, h => cases h
    | false :: true :: l, h => cases h
    | [a], h => cases a <;> cases h
    | [], h => cases h
  | succ k ih =>
    have node : ∀ {a b : Bool} {l : List Bool} {i : Bool} {t : Idt} {r : List Bool}, (a = true ∨ b = true) → nodeI (decI k) a b l = .inl (i, t, r) → nfI i t ∧ depthI t ≤ k + 1 ∧ r.length + 3 ≤ l.length := by
      intro a b l i t r hab h
      unfold nodeI at h
      split at h
      · cases h
      · rename_i i1 t1 l1 h1
        split at h
        · cases h
        · rename_i j1 u1 l2 h2
          split at h
          · cases h
          · rename_i hc
            cases h
            have a1 : nfI i1 t1 ∧ depthI t1 ≤ k ∧ l1.length ≤ l.length ∧ (a = true → l1.length + 3 ≤ l.length) := by
              cases a with
              | false => simp only [if_true] at h1; cases h1; exact ⟨trivial, Nat.zero_le _, Nat.le_refl _, fun h => by cases h⟩
              | true => simp only [Bool.true_eq_false, if_false] at h1; obtain ⟨x, y, z⟩ := ih h1; exact ⟨x, y, by omega, fun _ => z⟩
            have a2 : nfI j1 u1 ∧ depthI u1 ≤ k ∧ r.length ≤ l1.length ∧ (b = true → r.length + 3 ≤ l1.length) := by
              cases b with
              | false => simp only [if_true] at h2; cases h2; exact ⟨trivial, Nat.zero_le _, Nat.le_refl _, fun h => by cases h⟩
              | true => simp only [Bool.true_eq_false, if_false] at h2; obtain ⟨x, y, z⟩ := ih h2; exact ⟨x, y, by omega, fun _ => z⟩
            refine ⟨⟨a1.1, a2.1, fun hx => ?_⟩, by simp only [depthI]; omega, ?_⟩
            · obtain ⟨rfl, rfl, rfl⟩ := hx
              apply hc
              cases i1 with
              | true => exact .inr (.inr ⟨rfl, rfl⟩)
              | false =>
                cases a with
                | true => exact .inl rfl
                | false =>
                  cases b with
                  | true => exact .inr (.inl rfl)
                  | false => rcases hab with hab | hab <;> cases hab
            · rcases hab with hab | hab
              · have := a1.2.2.2 hab; omega
              · have := a2.2.2.2 hab; omega
    intro L i t r h
    match L, h with
    | false :: false :: c :: l, h => exact leaf rfl h
    | [false, false], h => cases h
    | true :: b :: l, h =>
      obtain ⟨x, y, z⟩ := node (.inl rfl) (show nodeI (decI k) true b l = _ from h)
      exact ⟨x, y, by simp only [List.length_cons]; omega⟩
    | false :: true :: l, h =>
      obtain ⟨x, y, z⟩ := node (.inr rfl) (show nodeI (decI k) false true l = _ from h)
      exact ⟨x, y, by simp only [List.length_cons]; omega⟩
    | [a], h => cases a <;> cases h
    | [], h => cases h
end Go.Proofs.YtjjakdmcnkldoaaDoor
