/- A tree of the bits that are left: the document's reader reads it, whole. Plain. -/
import Derived.Test.YtjjakdmcnkldoaaDoorCR11
set_option linter.unusedVariables false
set_option linter.unusedSimpArgs false
namespace Go.Proofs.YtjjakdmcnkldoaaDoor
open Go.Ev Go.Lib

theorem rprogE : ∀ {N k d : Nat} {L : List Bool}, d + k = 16 → k + 2 < N → L.length ≤ 900000 → RGoodE (decE k L) (kinfolkref07_GetEvent_2 N (d : Int) L 0)
  | 0, k, d, L, hd, hN, hl => by omega
  | N + 1, k, d, L, hd, hN, hl => by
    show RGoodE (decE k L) (kinfolkref07_GetEvent_2_b N (kinfolkref07_GetEvent_2 N) (d : Int) L 0)
    have n6 : (6 : Int) ≠ 0 := by decide
    match L, hl with
    | [], hl =>
      have he : decE k [] = .inr 6 := by cases k <;> rfl
      rw [he]
      refine ⟨n6, [], 6, ?_⟩
      unfold kinfolkref07_GetEvent_2_b kinfolkref02_Leaf
      simp only [Option.bind_some, rbit1_none, df (show ¬ (6 : Int) = 0 by decide), cond_false]
    | c :: l, hl =>
      simp only [List.length_cons] at hl
      have g1 := rbit1 (c := c) (l := l) (by omega)
      cases c with
      | true =>
        have he : decE k (true :: l) = leafD l := by cases k <;> rfl
        rw [he]
        unfold kinfolkref07_GetEvent_2_b kinfolkref02_Leaf leafD
        simp only [Option.bind_some, g1, if_true, decide_true, cond_true, dt (show ((1 : Nat) : Int) = 1 from rfl), number_is (show l.length ≤ 1000000 by omega)]
        cases numL l with
        | none => exact ⟨n6, l, 6, rfl⟩
        | some z =>
          obtain ⟨v, r⟩ := z
          by_cases hv : 1048576 < v
          · simp only [if_pos hv]
            exact ⟨by decide, r, 0, rfl⟩
          · simp only [if_neg hv]
            exact rfl
      | false =>
        unfold kinfolkref07_GetEvent_2_b kinfolkref02_Leaf
        simp only [Option.bind_some, g1, Bool.false_eq_true, if_false, decide_true, cond_true, df (show ¬ ((0 : Nat) : Int) = 1 by decide), cond_false]
        cases k with
        | zero =>
          rw [dt (show (d : Int) = 16 by omega)]
          exact ⟨by decide, l, 0, rfl⟩
        | succ k =>
          have ed : iadd .i64 (d : Int) 1 = ((d + 1 : Nat) : Int) := by rw [iadd64 (by omega) (by omega)]; omega
          simp only [df (show ¬ (d : Int) = 16 by omega), cond_false, decE, Bool.false_eq_true, if_false]
          have hh := rhead (d := (d : Int)) (t0 := leaf0) (L := l) (by omega)
          cases hX : kinfolkref05_Get_2 2 l 0 with
          | none =>
            exfalso
            rw [hX] at hh
            cases hq : headE l with
            | inl z => obtain ⟨x, y, b, r⟩ := z; rw [hq] at hh; cases hh
            | inr e =>
              rw [hq] at hh
              obtain ⟨-, ⟨_, _, h1⟩ | ⟨-, _, _, _, _, _, h1, -⟩⟩ := hh
              · cases h1
              · cases h1
          | some z =>
            obtain ⟨n4, l2, n5⟩ := z
            rw [hX] at hh
            simp only [Option.bind_some] at hh ⊢
            generalize kinfolkref07_GetEvent_C53 (d : Int) leaf0 (!(decide (n4 = 0))) (!(decide (n4 = 1))) (decide (n4 = 3)) l2 n5 = w at hh ⊢
            cases hq : headE l with
            | inr e =>
              rw [hq] at hh
              obtain ⟨e0, ⟨l', w', rfl⟩ | ⟨rfl, x, y, base, l', w', rfl, hw⟩⟩ := hh
              · exact ⟨e0, l', w', rfl⟩
              · simp only [Option.bind_some, df hw, cond_false]
                exact ⟨n6, l', w', rfl⟩
            | inl z =>
              obtain ⟨x, y, base, l0⟩ := z
              rw [hq] at hh
              have hh' : w = some (.inr (x, y, base, l0, 0)) := hh
              subst hh'
              obtain ⟨hb1, hb2, hb3, hxy⟩ := headE_ok hq
              simp only [Option.bind_some, decide_true, cond_true]
              have left : ∃ w, kinfolkref07_GetEvent_C84 (kinfolkref07_GetEvent_2 N) (d : Int) leaf0 x y base leaf0 leaf0 x l0 0 = w ∧
                  (match (if x = false then .inl (0, .nil, l0) else decE k l0 : RE) with
                  | .inl (a, t, l1) => w = some (.inl (fromEv a t, l1, 0)) ∧ nf a t ∧ depthE t ≤ k ∧ maxE a t ≤ 1048576 ∧ l1.length ≤ l0.length ∧ (x = false → zeroEv a t = true)
                  | .inr e => e ≠ 0 ∧ ∃ (l' : List Bool) (er : Int), w = some (.inr (e, l', er))) := by
                refine ⟨_, rfl, ?_⟩
                unfold kinfolkref07_GetEvent_C84
                cases x with
                | false => exact ⟨rfl, Int.le_refl 0, Nat.zero_le _, by simp [maxE], Nat.le_refl _, fun _ => rfl⟩
                | true =>
                  have ih := rprogE (N := N) (k := k) (d := d + 1) (L := l0) (by omega) (by omega) (by omega)
                  simp only [Bool.true_eq_false, if_false, cond_true, ed]
                  cases hq : decE k l0 with
                  | inl z =>
                    obtain ⟨a, t, l1⟩ := z
                    rw [hq] at ih
                    have ih' : kinfolkref07_GetEvent_2 N ((d + 1 : Nat) : Int) l0 0 = some (fromEv a t, 0, l1, 0) := ih
                    obtain ⟨o1, o2, o3, o4⟩ := decE_ok hq
                    exact ⟨by rw [ih']; rfl, o1, o2, o3, o4, fun h => by cases h⟩
                  | inr e =>
                    rw [hq] at ih
                    obtain ⟨e0, l', er, e1⟩ := ih
                    exact ⟨e0, l', er, by rw [e1]; simp only [Option.bind_some, df e0, cond_false]⟩
              obtain ⟨w, hw, left⟩ := left
              rw [hw]
              unfold nodeD
              cases hlq : (if x = false then .inl (0, .nil, l0) else decE k l0 : RE) with
              | inr e =>
                rw [hlq] at left
                obtain ⟨e0, l', er, rfl⟩ := left
                exact ⟨e0, l', er, rfl⟩
              | inl z =>
                obtain ⟨a, t, l1⟩ := z
                rw [hlq] at left
                obtain ⟨rfl, na, da, ma, hl1, fa⟩ := left
                simp only [Option.bind_some]
                have right : ∃ w, kinfolkref07_GetEvent_C96 (kinfolkref07_GetEvent_2 N) (d : Int) leaf0 x y base (fromEv a t) leaf0 y l1 0 = w ∧
                    (match (if y = false then .inl (0, .nil, l1) else decE k l1 : RE) with
                    | .inl (b, u, l2) => w = some (.inl (fromEv b u, l2, 0)) ∧ nf b u ∧ depthE u ≤ k ∧ maxE b u ≤ 1048576 ∧ (y = false → zeroEv b u = true)
                    | .inr e => e ≠ 0 ∧ ∃ (l' : List Bool) (er : Int), w = some (.inr (e, l', er))) := by
                  refine ⟨_, rfl, ?_⟩
                  unfold kinfolkref07_GetEvent_C96
                  cases y with
                  | false => exact ⟨rfl, Int.le_refl 0, Nat.zero_le _, by simp [maxE], fun _ => rfl⟩
                  | true =>
                    have ih := rprogE (N := N) (k := k) (d := d + 1) (L := l1) (by omega) (by omega) (by omega)
                    simp only [Bool.true_eq_false, if_false, cond_true, ed]
                    cases hq : decE k l1 with
                    | inl z =>
                      obtain ⟨b, u, l2⟩ := z
                      rw [hq] at ih
                      have ih' : kinfolkref07_GetEvent_2 N ((d + 1 : Nat) : Int) l1 0 = some (fromEv b u, 0, l2, 0) := ih
                      obtain ⟨o1, o2, o3, o4⟩ := decE_ok hq
                      exact ⟨by rw [ih']; rfl, o1, o2, o3, fun h => by cases h⟩
                    | inr e =>
                      rw [hq] at ih
                      obtain ⟨e0, l', er, e1⟩ := ih
                      exact ⟨e0, l', er, by rw [e1]; simp only [Option.bind_some, df e0, cond_false]⟩
                obtain ⟨w, hw, right⟩ := right
                rw [hw]
                cases hrq : (if y = false then .inl (0, .nil, l1) else decE k l1 : RE) with
                | inr e =>
                  rw [hrq] at right
                  obtain ⟨e0, l', er, rfl⟩ := right
                  exact ⟨e0, l', er, rfl⟩
                | inl z =>
                  obtain ⟨b, u, l2⟩ := z
                  rw [hrq] at right
                  obtain ⟨rfl, nb, db, mb, fb⟩ := right
                  have ba := na.base
                  have bb := nb.base
                  have hcond : (zeroEv a t = x ∨ zeroEv b u = y ∨ (decide (0 < a) = true ∧ decide (0 < b) = true) ∨ decide (t = .nil ∧ u = .nil ∧ a = b) = true) ↔ (zeroEv a t = x ∨ zeroEv b u = y ∨ 0 < min a b ∨ (t = .nil ∧ u = .nil ∧ a = b)) := by
                    simp only [decide_eq_true_eq]
                    constructor
                    · rintro (h | h | h | h)
                      · exact .inl h
                      · exact .inr (.inl h)
                      · exact .inr (.inr (.inl (by omega)))
                      · exact .inr (.inr (.inr h))
                    · rintro (h | h | h | h)
                      · exact .inl h
                      · exact .inr (.inl h)
                      · exact .inr (.inr (.inl (by omega)))
                      · exact .inr (.inr (.inr h))
                  have key : ∀ {Z : Option (T_kinfolkref02_Event × Int × List Bool × Int)},
                      Z = (if zeroEv a t = x ∨ zeroEv b u = y ∨ (decide (0 < a) = true ∧ decide (0 < b) = true) ∨ decide (t = .nil ∧ u = .nil ∧ a = b) = true then some (leaf0, 6, l2, 0)
                        else (kinfolkref02_Max N (T_kinfolkref02_Event.mk base (fromEv a t) (fromEv b u))).bind fun n12 => bif (decide (1048576 < n12)) then some (leaf0, 4, l2, 0) else some ((T_kinfolkref02_Event.mk base (fromEv a t) (fromEv b u)), 0, l2, 0)) →
                      RGoodE (if zeroEv a t = x ∨ zeroEv b u = y ∨ 0 < min a b ∨ (t = .nil ∧ u = .nil ∧ a = b) then .inr 6 else if 1048576 < maxE base (.mk a t b u) then .inr 4 else .inl (base, .mk a t b u, l2)) Z := by
                    intro Z hZ
                    by_cases hc : zeroEv a t = x ∨ zeroEv b u = y ∨ 0 < min a b ∨ (t = .nil ∧ u = .nil ∧ a = b)
                    · rw [if_pos (hcond.2 hc)] at hZ
                      rw [if_pos hc]
                      exact ⟨n6, l2, 0, hZ⟩
                    · rw [if_neg (fun h => hc (hcond.1 h))] at hZ
                      rw [if_neg hc]
                      have hnf : nf base (.mk a t b u) := ⟨hb1, na, nb, by
                        have : ¬ 0 < min a b := fun hx => hc (.inr (.inr (.inl hx)))
                        omega, fun hx => hc (.inr (.inr (.inr hx)))⟩
                      have hmx := rMax (N := N) (e := base) (t := .mk a t b u) (by simp only [depthE]; omega) hnf (by simp only [maxE]; omega)
                      have hmx' : kinfolkref02_Max N (T_kinfolkref02_Event.mk base (fromEv a t) (fromEv b u)) = some (maxE base (.mk a t b u)) := hmx
                      rw [hmx'] at hZ
                      simp only [Option.bind_some] at hZ
                      by_cases hm : 1048576 < maxE base (.mk a t b u)
                      · rw [dt hm, cond_true] at hZ
                        rw [if_pos hm]
                        exact ⟨by decide, l2, 0, hZ⟩
                      · rw [df hm, cond_false] at hZ
                        rw [if_neg hm]
                        exact hZ
                  refine key ?_
                  simp only [Option.bind_some, rzero]
                  cases t with
                  | nil =>
                    cases u with
                    | nil =>
                      have he : decide (T_event_halves.nil = .nil ∧ T_event_halves.nil = .nil ∧ a = b) = decide (a = b) := by simp
                      rw [he]
                      simp only [fromEv]
                      exact tail_check (pa := decide (0 < a)) (pb := decide (0 < b)) rfl fa fb
                    | mk c1 v1 c2 v2 =>
                      obtain ⟨x1, y1, hx1⟩ := fromEv_mk c1 v1
                      have he : decide (T_event_halves.nil = .nil ∧ T_event_halves.mk c1 v1 c2 v2 = .nil ∧ a = b) = false := by simp
                      rw [he]
                      simp only [fromEv, hx1]
                      exact tail_check (pa := decide (0 < a)) (pb := decide (0 < b)) (eq := false) rfl fa fb
                  | mk c1 v1 c2 v2 =>
                    obtain ⟨x1, y1, hx1⟩ := fromEv_mk c1 v1
                    obtain ⟨x2, y2, hx2⟩ := fromEv_mk b u
                    have he : decide (T_event_halves.mk c1 v1 c2 v2 = .nil ∧ u = .nil ∧ a = b) = false := by simp
                    rw [he]
                    simp only [fromEv, hx1, hx2]
                    exact tail_check (pa := decide (0 < a)) (pb := decide (0 < b)) (eq := false) rfl fa fb
end Go.Proofs.YtjjakdmcnkldoaaDoor
