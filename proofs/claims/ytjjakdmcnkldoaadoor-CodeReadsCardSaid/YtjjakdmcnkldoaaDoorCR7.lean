/- A share of the bits that are left: the document's reader reads it. Plain. -/
import Derived.Test.YtjjakdmcnkldoaaDoorCR6
set_option linter.unusedVariables false
set_option linter.unusedSimpArgs false
namespace Go.Proofs.YtjjakdmcnkldoaaDoor
open Go.Ev Go.Lib

theorem kind_one {a : Bool} {v : Idt} : decide (kindI a v = 1) = a := by cases a <;> cases v <;> rfl
theorem kind_z {a : Bool} {v : Idt} : decide (kindI a v = 0) = zeroI a v := by cases a <;> cases v <;> rfl
abbrev zeroR : T_kinfolkref01_ID := T_kinfolkref01_ID.mk 0 T_kinfolkref01_ID.nil T_kinfolkref01_ID.nil
def RGoodI : RI → Option (T_kinfolkref01_ID × Int × List Bool × Int) → Prop
  | .inl (i, t, r), x => x = some (fromI i t, 0, r, 0)
  | .inr e, x => e ≠ 0 ∧ ∃ (l : List Bool) (er : Int), x = some (zeroR, e, l, er)
theorem pair_check {α : Type} {zi zj a b i j : Bool} {X Y : α} (fa : a = false → zi = true) (fb : b = false → zj = true) :
    (bif zi then (bif !a then (bif zj then (bif !b then (bif i then (bif j then X else Y) else Y) else X) else (bif i then (bif j then X else Y) else Y)) else X) else (bif zj then (bif !b then (bif i then (bif j then X else Y) else Y) else X) else (bif i then (bif j then X else Y) else Y))) =
      if zi = a ∨ zj = b ∨ (i = true ∧ j = true) then X else Y := by
  cases a <;> cases b <;> cases zi <;> cases zj <;> cases i <;> cases j <;> simp_all
theorem rprogI : ∀ {N k d : Nat} {L : List Bool}, d + k = 16 → k < N → L.length ≤ 1000000 → RGoodI (decI k L) (kinfolkref07_GetID_4 N (d : Int) L 0)
  | 0, k, d, L, hd, hN, hl => by omega
  | N + 1, k, d, L, hd, hN, hl => by
    show RGoodI (decI k L) (kinfolkref07_GetID_4_b (kinfolkref07_GetID_4 N) (d : Int) L 0)
    have n6 : ¬ (6 : Int) = 0 := by decide
    have short : L.length < 2 → decI k L = .inr 6 → RGoodI (decI k L) (kinfolkref07_GetID_4_b (kinfolkref07_GetID_4 N) (d : Int) L 0) := by
      intro hlt he
      rw [he]
      have g1 := rGet2 (k := 2) (l := L) (by decide) hl
      rw [if_pos hlt] at g1
      have g1' : kinfolkref05_Get_2 2 L 0 = some (0, L, 6) := g1
      refine ⟨by decide, L, 6, ?_⟩
      unfold kinfolkref07_GetID_4_b
      simp only [g1', Option.bind_some, df n6, cond_false, kinfolkref01_Zero]
    match L, hl, short with
    | [], hl, short => exact short (by simp) (by cases k <;> rfl)
    | [a], hl, short => exact short (by simp) (by cases k <;> cases a <;> rfl)
    | a :: b :: l, hl, short =>
      simp only [List.length_cons] at hl
      have g1 : kinfolkref05_Get_2 2 (a :: b :: l) 0 = some ((valB [a, b] : Int), l, 0) := by
        have := rGet2 (k := 2) (l := a :: b :: l) (by decide) (by simp only [List.length_cons]; omega)
        rw [if_neg (by simp)] at this
        exact this
      by_cases hab : a = true ∨ b = true
      · have q0 : decide (((valB [a, b] : Nat) : Int) = 0) = false := by cases a <;> cases b <;> first | rfl | (rcases hab with h | h <;> cases h)
        have q1 : decide (((valB [a, b] : Nat) : Int) = 1) = !a := by cases a <;> cases b <;> first | rfl | (rcases hab with h | h <;> cases h)
        have q2 : decide (((valB [a, b] : Nat) : Int) = 2) = !b := by cases a <;> cases b <;> first | rfl | (rcases hab with h | h <;> cases h)
        unfold kinfolkref07_GetID_4_b kinfolkref07_GetID_C21 kinfolkref01_Zero
        simp only [Option.bind_some, g1, q0, cond_false, decide_true, cond_true, q1, q2, Bool.not_not]
        generalize ((valB [a, b] : Nat) : Int) = q
        cases k with
        | zero =>
          have he : decI 0 (a :: b :: l) = .inr 3 := by cases a <;> cases b <;> first | rfl | (rcases hab with h | h <;> cases h)
          rw [he, dt (show (d : Int) = 16 by omega)]
          exact ⟨by decide, l, 0, rfl⟩
        | succ k =>
          have hdec : decI (k + 1) (a :: b :: l) = nodeI (decI k) a b l := by cases a <;> cases b <;> first | rfl | (rcases hab with h | h <;> cases h)
          rw [hdec]
          have ed : iadd .i64 (d : Int) 1 = ((d + 1 : Nat) : Int) := by rw [iadd64 (by omega) (by omega)]; omega
          rw [df (show ¬ (d : Int) = 16 by omega), cond_false]
          have left : ∃ x, kinfolkref07_GetID_C45_2 (kinfolkref07_GetID_4 N) (d : Int) q zeroR zeroR a l 0 = x ∧
              (match (if a = false then .inl (false, .nil, l) else decI k l : RI) with
              | .inl (i, t, l1) => x = some (.inl (fromI i t, l1, 0)) ∧ l1.length ≤ l.length ∧ (a = false → zeroI i t = true)
              | .inr e => e ≠ 0 ∧ ∃ (l' : List Bool) (er : Int), x = some (.inr (zeroR, e, l', er))) := by
            refine ⟨_, rfl, ?_⟩
            unfold kinfolkref07_GetID_C45_2
            cases a with
            | false => exact ⟨rfl, Nat.le_refl _, fun _ => rfl⟩
            | true =>
              have ih := rprogI (N := N) (k := k) (d := d + 1) (L := l) (by omega) (by omega) (by omega)
              simp only [Bool.true_eq_false, if_false, cond_true, ed, kinfolkref01_Zero]
              cases hq : decI k l with
              | inl z =>
                obtain ⟨i, t, l1⟩ := z
                rw [hq] at ih
                have ih' : kinfolkref07_GetID_4 N ((d + 1 : Nat) : Int) l 0 = some (fromI i t, 0, l1, 0) := ih
                obtain ⟨o1, o2, o3⟩ := decI_ok hq
                exact ⟨by rw [ih']; rfl, by omega, fun h => by cases h⟩
              | inr e =>
                rw [hq] at ih
                obtain ⟨e0, l', er, e1⟩ := ih
                exact ⟨e0, l', er, by rw [e1]; simp only [Option.bind_some, df e0, cond_false]⟩
          obtain ⟨x, hx, left⟩ := left
          rw [hx]
          unfold nodeI
          cases hlq : (if a = false then .inl (false, .nil, l) else decI k l : RI) with
          | inr e =>
            rw [hlq] at left
            obtain ⟨e0, l', er, rfl⟩ := left
            exact ⟨e0, l', er, rfl⟩
          | inl z =>
            obtain ⟨i, t, l1⟩ := z
            rw [hlq] at left
            obtain ⟨rfl, hl1, fa⟩ := left
            simp only [Option.bind_some]
            have right : ∃ x, kinfolkref07_GetID_C58 (kinfolkref07_GetID_4 N) (d : Int) q (fromI i t) zeroR b l1 0 = x ∧
                (match (if b = false then .inl (false, .nil, l1) else decI k l1 : RI) with
                | .inl (j, u, l2) => x = some (.inl (fromI j u, l2, 0)) ∧ (b = false → zeroI j u = true)
                | .inr e => e ≠ 0 ∧ ∃ (l' : List Bool) (er : Int), x = some (.inr (zeroR, e, l', er))) := by
              refine ⟨_, rfl, ?_⟩
              unfold kinfolkref07_GetID_C58
              cases b with
              | false => exact ⟨rfl, fun _ => rfl⟩
              | true =>
                have ih := rprogI (N := N) (k := k) (d := d + 1) (L := l1) (by omega) (by omega) (by omega)
                simp only [Bool.true_eq_false, if_false, cond_true, ed, kinfolkref01_Zero]
                cases hq : decI k l1 with
                | inl z =>
                  obtain ⟨j, u, l2⟩ := z
                  rw [hq] at ih
                  have ih' : kinfolkref07_GetID_4 N ((d + 1 : Nat) : Int) l1 0 = some (fromI j u, 0, l2, 0) := ih
                  exact ⟨by rw [ih']; rfl, fun h => by cases h⟩
                | inr e =>
                  rw [hq] at ih
                  obtain ⟨e0, l', er, e1⟩ := ih
                  exact ⟨e0, l', er, by rw [e1]; simp only [Option.bind_some, df e0, cond_false]⟩
            obtain ⟨x, hx, right⟩ := right
            rw [hx]
            cases hrq : (if b = false then .inl (false, .nil, l1) else decI k l1 : RI) with
            | inr e =>
              rw [hrq] at right
              obtain ⟨e0, l', er, rfl⟩ := right
              exact ⟨e0, l', er, rfl⟩
            | inl z =>
              obtain ⟨j, u, l2⟩ := z
              rw [hrq] at right
              obtain ⟨rfl, fb⟩ := right
              obtain ⟨x1, y1, f1⟩ := fromI_kind i t
              obtain ⟨x2, y2, f2⟩ := fromI_kind j u
              have hbody := pair_check (zi := zeroI i t) (zj := zeroI j u) (a := a) (b := b) (i := i) (j := j) (X := (some (zeroR, (6 : Int), l2, (0 : Int)) : Option (T_kinfolkref01_ID × Int × List Bool × Int))) (Y := some (T_kinfolkref01_ID.mk 2 (fromI i t) (fromI j u), 0, l2, 0)) fa fb
              have key : ∀ {X : Option (T_kinfolkref01_ID × Int × List Bool × Int)}, X = (if zeroI i t = a ∨ zeroI j u = b ∨ (i = true ∧ j = true) then some (zeroR, (6 : Int), l2, (0 : Int)) else some (T_kinfolkref01_ID.mk 2 (fromI i t) (fromI j u), 0, l2, 0)) →
                  RGoodI (if zeroI i t = a ∨ zeroI j u = b ∨ (i = true ∧ j = true) then .inr 6 else .inl (false, .mk i t j u, l2)) X := by
                intro X hX
                by_cases hc : zeroI i t = a ∨ zeroI j u = b ∨ (i = true ∧ j = true)
                · rw [if_pos hc] at hX ⊢
                  exact ⟨by decide, l2, 0, hX⟩
                · rw [if_neg hc] at hX ⊢
                  exact hX
              refine key ?_
              rw [← hbody, f1, f2]
              simp only [Option.bind_some, kind_z, kind_one]
      · obtain ⟨rfl, rfl⟩ : a = false ∧ b = false := by cases a <;> cases b <;> simp_all
        have g1' : kinfolkref05_Get_2 2 (false :: false :: l) 0 = some (0, l, 0) := g1
        cases l with
        | nil =>
          have he : decI k [false, false] = .inr 6 := by cases k <;> rfl
          rw [he]
          have g2 : kinfolkref05_Get_2 1 [] 0 = some (0, [], 6) := rGet2 (k := 1) (l := []) (by decide) (by simp)
          refine ⟨by decide, [], 6, ?_⟩
          unfold kinfolkref07_GetID_4_b kinfolkref07_GetID_C21 kinfolkref01_Zero
          simp only [Option.bind_some, g1', decide_true, cond_true, g2, df n6, cond_false]
        | cons c l =>
          have he : decI k (false :: false :: c :: l) = .inl (c, .nil, l) := by cases k <;> rfl
          rw [he]
          have g2 : kinfolkref05_Get_2 1 (c :: l) 0 = some ((valB [c] : Int), l, 0) := by
            have := rGet2 (k := 1) (l := c :: l) (by decide) (by simp only [List.length_cons] at hl ⊢; omega)
            rw [if_neg (by simp)] at this
            exact this
          show _ = _
          unfold kinfolkref07_GetID_4_b kinfolkref07_GetID_C21
          simp only [Option.bind_some, g1', decide_true, cond_true, g2]
          cases c <;> rfl
theorem rGetID {N : Nat} {L : List Bool} (hl : L.length ≤ 1000000) : kinfolkref07_GetID_3 N 0 0 L = kinfolkref07_GetID_4 (N + 1) 0 L 0 := by
  show _ = kinfolkref07_GetID_4_b (kinfolkref07_GetID_4 N) 0 L 0
  have h1 := rGet1 (k := 2) (l := L) (by decide) hl
  have h2 := rGet2 (k := 2) (l := L) (by decide) hl
  have h1' : kinfolkref05_Get 2 0 L = _ := h1
  have h2' : kinfolkref05_Get_2 2 L 0 = _ := h2
  unfold kinfolkref07_GetID_3 kinfolkref07_GetID_4_b
  rw [h1', h2']
  rfl
end Go.Proofs.YtjjakdmcnkldoaaDoor
