/- A tree of the bits that are left: the program's reader reads it, whole. Plain. -/
import Derived.Test.YtjjakdmcnkldoaaDoorCR9
set_option linter.unusedVariables false
set_option linter.unusedSimpArgs false
namespace Go.Proofs.YtjjakdmcnkldoaaDoor
open Go.Ev Go.Lib

theorem isLeaf_is {e : Int} {u : Tr} : event_Event_IsLeaf e u = some (isNil u) := by cases u <;> rfl
theorem base_is {e : Int} {u : Tr} : event_Event_Base e u = some () := rfl
theorem progE {p : List Int} (hb : Bytes p) (hp : p.length ≤ 100000) : ∀ {N k d n : Nat} {L : List Bool}, d + k = 16 → k + 31 < N → Rem p n L → GoodE p (decE k L) (code_source_event_2 N (d : Int) 0 p (n : Int) 0)
  | 0, k, d, n, L, hd, hN, h => by omega
  | N + 1, k, d, n, L, hd, hN, h => by
    show GoodE p (decE k L) (code_source_event_2_b N (code_source_event_2 N) (d : Int) 0 p (n : Int) 0)
    -- whatever is wrong by now
    have last : ∀ {e m er base : Int} {x y : Bool}, e ≠ 0 →
        ((code_zero 0 T_event_halves.nil).bind fun b5 =>
        bif (b5 == (!x)) then
          bif (b5 == (!y)) then
            (event_Event_Base 0 T_event_halves.nil).bind fun _ =>
            (event_Event_IsLeaf 0 T_event_halves.nil).bind fun b6 =>
            bif b6 then
              (code_source_must false e p m er).bind fun n19 =>
              (code_source_ok n19 p m er).bind fun (b7, n20) =>
              bif b7 then
                (code_source_node N base 0 T_event_halves.nil 0 T_event_halves.nil n20 p m er).bind fun (n21, t, n22) =>
                some (n21, t, n22, m, er)
              else
                some (0, T_event_halves.nil, n20, m, er)
            else
              (code_source_must true e p m er).bind fun n19 =>
              (code_source_ok n19 p m er).bind fun (b7, n20) =>
              bif b7 then
                (code_source_node N base 0 T_event_halves.nil 0 T_event_halves.nil n20 p m er).bind fun (n21, t, n22) =>
                some (n21, t, n22, m, er)
              else
                some (0, T_event_halves.nil, n20, m, er)
          else
            (code_source_must false e p m er).bind fun n19 =>
            (code_source_ok n19 p m er).bind fun (b6, n20) =>
            bif b6 then
              (code_source_node N base 0 T_event_halves.nil 0 T_event_halves.nil n20 p m er).bind fun (n21, t, n22) =>
              some (n21, t, n22, m, er)
            else
              some (0, T_event_halves.nil, n20, m, er)
        else
          (code_source_must false e p m er).bind fun n19 =>
          (code_source_ok n19 p m er).bind fun (b6, n20) =>
          bif b6 then
            (code_source_node N base 0 T_event_halves.nil 0 T_event_halves.nil n20 p m er).bind fun (n21, t, n22) =>
            some (n21, t, n22, m, er)
          else
            some (0, T_event_halves.nil, n20, m, er)) = some (0, T_event_halves.nil, e, m, er) := by
      intro e m er base x y he
      simp only [zero_eq, Option.bind_some, base_is, isLeaf_is, must_bad he, ok_bad he, cond_false]
      cases (zeroEv 0 T_event_halves.nil == !x) <;> cases (zeroEv 0 T_event_halves.nil == !y) <;> cases isNil T_event_halves.nil <;> rfl
    match L, h with
    | [], h =>
      have he : decE k [] = .inr 6 := by cases k <;> rfl
      rw [he]
      have n6 : (6 : Int) ≠ 0 := by decide
      unfold code_source_event_2_b code_source_event_C24 code_source_event_C34
      simp only [bit1_none hp h, Option.bind_some, df (show ¬ (0 : Int) = 1 by decide), cond_false]
      cases decide ((d : Int) = 16)
      · simp only [cond_false, Option.bind_some, bit_bad n6, df (show ¬ (0 : Int) = 3 by decide), ok_bad n6, last n6]
        exact ⟨n6, 0, .nil, (n : Int), 6, rfl⟩
      · simp only [cond_true, fail_bad n6, Option.bind_some, bit_bad n6, df (show ¬ (0 : Int) = 3 by decide), cond_false, ok_bad n6, last n6]
        exact ⟨n6, 0, .nil, (n : Int), 6, rfl⟩
    | c :: l, h =>
      obtain ⟨g1, hc1⟩ := bit1 hb hp h
      cases c with
      | true =>
        have he : decE k (true :: l) = leafD l := by cases k <;> rfl
        rw [he]
        have hr := num_prog hb hp hc1
        unfold code_source_event_2_b leafD
        simp only [g1, if_true, Option.bind_some, dt (show ((1 : Nat) : Int) = 1 from rfl), cond_true]
        cases hq : numL l with
        | none =>
          rw [hq] at hr
          have hr' : code_source_number 0 p ((n + 1 : Nat) : Int) 0 = some (0, 6, ((n + 1 : Nat) : Int), 6) := hr
          rw [hr']
          exact ⟨by decide, 0, .nil, ((n + 1 : Nat) : Int), 6, rfl⟩
        | some z =>
          obtain ⟨v, r⟩ := z
          rw [hq] at hr
          obtain ⟨m, h1, h2⟩ := hr
          rw [h1]
          unfold event_Leaf
          by_cases hv : 1048576 < v
          · simp only [if_pos hv, Option.bind_some, dt (show (1048576 : Int) < (v : Int) by omega), cond_true]
            exact ⟨by decide, 0, .nil, (m : Int), 0, rfl⟩
          · simp only [if_neg hv, Option.bind_some, df (show ¬ (1048576 : Int) < (v : Int) by omega), cond_false]
            exact ⟨m, rfl, h2⟩
      | false =>
        unfold code_source_event_2_b code_source_event_C24
        simp only [g1, Bool.false_eq_true, if_false, Option.bind_some, df (show ¬ ((0 : Nat) : Int) = 1 by decide), cond_false]
        cases k with
        | zero =>
          have n3 : (3 : Int) ≠ 0 := by decide
          have hf : code_source_fail 3 0 p ((n + 1 : Nat) : Int) 0 = some 3 := rfl
          unfold code_source_event_C34
          simp only [dt (show (d : Int) = 16 by omega), cond_true, hf, Option.bind_some, bit_bad n3, df (show ¬ (0 : Int) = 3 by decide), cond_false, ok_bad n3, last n3]
          exact ⟨n3, 0, .nil, ((n + 1 : Nat) : Int), 0, rfl⟩
        | succ k =>
          have ed : iadd .i64 (d : Int) 1 = ((d + 1 : Nat) : Int) := by rw [iadd64 (by omega) (by omega)]; omega
          simp only [df (show ¬ (d : Int) = 16 by omega), cond_false, Option.bind_some, decE, Bool.false_eq_true, if_false]
          have hh := head_prog (d := (d : Int)) hb hp hc1
          cases hX : code_source_bit 2 0 p ((n + 1 : Nat) : Int) 0 with
          | none =>
            exfalso
            rw [hX] at hh
            cases hq : headE l with
            | inl z => obtain ⟨x, y, b, r⟩ := z; rw [hq] at hh; obtain ⟨m, h1, -⟩ := hh; cases h1
            | inr e => rw [hq] at hh; obtain ⟨-, _, _, _, _, _, h1⟩ := hh; cases h1
          | some z =>
            obtain ⟨n9, n10, n11, n12⟩ := z
            rw [hX] at hh
            simp only [Option.bind_some] at hh ⊢
            generalize code_source_event_C34 (d : Int) (!(decide (n9 = 0))) (!(decide (n9 = 1))) (decide (n9 = 3)) n10 p n11 n12 = w at hh ⊢
            cases hq : headE l with
            | inr e =>
              rw [hq] at hh
              obtain ⟨e0, base, x, y, m, er, rfl⟩ := hh
              simp only [Option.bind_some, ok_bad e0, cond_false, last e0]
              exact ⟨e0, 0, .nil, m, er, rfl⟩
            | inl z =>
              obtain ⟨x, y, base, l0⟩ := z
              rw [hq] at hh
              obtain ⟨m, rfl, hm⟩ := hh
              obtain ⟨hb1, hb2, hb3, hxy⟩ := headE_ok hq
              simp only [Option.bind_some, ok_good, cond_true]
              -- the left half
              have left : ∃ w, code_source_event_C53 (code_source_event_2 N) (d : Int) base x y x 0 p (m : Int) 0 = w ∧
                  (match (if x = false then .inl (0, .nil, l0) else decE k l0 : RE) with
                  | .inl (a, t, l1) => ∃ m : Nat, w = some (0, (m : Int), 0, a, t) ∧ Rem p m l1 ∧ nf a t ∧ depthE t ≤ k ∧ maxE a t ≤ 1048576
                  | .inr e => e ≠ 0 ∧ ∃ (a : Int) (t : Tr) (m er : Int), w = some (e, m, er, a, t)) := by
                refine ⟨_, rfl, ?_⟩
                unfold code_source_event_C53
                cases x with
                | false => exact ⟨m, rfl, hm, Int.le_refl 0, Nat.zero_le _, by simp [maxE]⟩
                | true =>
                  have ih := progE hb hp (N := N) (k := k) (d := d + 1) (n := m) (L := l0) (by omega) (by omega) hm
                  simp only [Bool.true_eq_false, if_false, cond_true, ed]
                  cases hq : decE k l0 with
                  | inl z =>
                    obtain ⟨a, t, l1⟩ := z
                    rw [hq] at ih
                    obtain ⟨m, e1, e2⟩ := ih
                    obtain ⟨o1, o2, o3, -⟩ := decE_ok hq
                    exact ⟨m, by rw [e1]; rfl, e2, o1, o2, o3⟩
                  | inr e =>
                    rw [hq] at ih
                    obtain ⟨e0, a, t, m, er, e1⟩ := ih
                    exact ⟨e0, a, t, m, er, by rw [e1]; rfl⟩
              obtain ⟨w, hw, left⟩ := left
              rw [hw]
              unfold nodeD
              cases hl : (if x = false then .inl (0, .nil, l0) else decE k l0 : RE) with
              | inr e =>
                rw [hl] at left
                obtain ⟨e0, a, t, m2, er, rfl⟩ := left
                refine ⟨e0, 0, .nil, m2, er, ?_⟩
                simp only [Option.bind_some, ok_bad e0, cond_false, zero_eq, base_is, isLeaf_is, must_bad e0]
                cases (zeroEv a t == !x) <;> cases (zeroEv 0 T_event_halves.nil == !y) <;> cases decide ((if 0 < a then 0 else a) = 0) <;> cases isNil t <;> cases isNil T_event_halves.nil <;> rfl
              | inl z =>
                obtain ⟨a, t, l1⟩ := z
                rw [hl] at left
                obtain ⟨m1, rfl, hm1, na, da, ma⟩ := left
                simp only [Option.bind_some, ok_good, cond_true]
                have right : ∃ w, code_source_event_C62 (code_source_event_2 N) (d : Int) base x y y 0 p (m1 : Int) 0 a t = w ∧
                    (match (if y = false then .inl (0, .nil, l1) else decE k l1 : RE) with
                    | .inl (b, u, l2) => ∃ m : Nat, w = some (0, (m : Int), 0, b, u) ∧ Rem p m l2 ∧ nf b u ∧ depthE u ≤ k ∧ maxE b u ≤ 1048576
                    | .inr e => e ≠ 0 ∧ ∃ (b : Int) (u : Tr) (m er : Int), w = some (e, m, er, b, u)) := by
                  refine ⟨_, rfl, ?_⟩
                  unfold code_source_event_C62
                  cases y with
                  | false => exact ⟨m1, rfl, hm1, Int.le_refl 0, Nat.zero_le _, by simp [maxE]⟩
                  | true =>
                    have ih := progE hb hp (N := N) (k := k) (d := d + 1) (n := m1) (L := l1) (by omega) (by omega) hm1
                    simp only [Bool.true_eq_false, if_false, cond_true, ed]
                    cases hq : decE k l1 with
                    | inl z =>
                      obtain ⟨b, u, l2⟩ := z
                      rw [hq] at ih
                      obtain ⟨m, e1, e2⟩ := ih
                      obtain ⟨o1, o2, o3, -⟩ := decE_ok hq
                      exact ⟨m, by rw [e1]; rfl, e2, o1, o2, o3⟩
                    | inr e =>
                      rw [hq] at ih
                      obtain ⟨e0, b, u, m, er, e1⟩ := ih
                      exact ⟨e0, b, u, m, er, by rw [e1]; rfl⟩
                obtain ⟨w, hw, right⟩ := right
                rw [hw]
                cases hr : (if y = false then .inl (0, .nil, l1) else decE k l1 : RE) with
                | inr e =>
                  rw [hr] at right
                  obtain ⟨e0, b, u, m2, er, rfl⟩ := right
                  refine ⟨e0, 0, .nil, m2, er, ?_⟩
                  simp only [Option.bind_some, ok_bad e0, cond_false, zero_eq, base_is, isLeaf_is, must_bad e0]
                  cases (zeroEv a t == !x) <;> cases (zeroEv b u == !y) <;> cases decide ((if b < a then b else a) = 0) <;> cases isNil t <;> cases isNil u <;> rfl
                | inl z =>
                  obtain ⟨b, u, l2⟩ := z
                  rw [hr] at right
                  obtain ⟨m2, rfl, hm2, nb, db, mb⟩ := right
                  have n6 : (6 : Int) ≠ 0 := by decide
                  have ba := na.base
                  have bb := nb.base
                  have hmin : (if b < a then b else a) = min a b := by split <;> omega
                  simp only [Option.bind_some, zero_eq, base_is, isLeaf_is, must_is, hmin, beq_not]
                  by_cases hc : zeroEv a t = x ∨ zeroEv b u = y ∨ 0 < min a b ∨ (t = .nil ∧ u = .nil ∧ a = b)
                  · simp only [if_pos hc]
                    refine ⟨n6, 0, .nil, (m2 : Int), 0, ?_⟩
                    rcases hc with hc | hc | hc | ⟨rfl, rfl, rfl⟩
                    · subst hc
                      simp only [beq_self_eq_true, Bool.not_true, cond_false, Bool.false_eq_true, if_false, ok_bad n6, Option.bind_some]
                    · subst hc
                      simp only [beq_self_eq_true, Bool.not_true, cond_false, Bool.false_eq_true, if_false, ok_bad n6, Option.bind_some]
                      cases (zeroEv a t == x) <;> rfl
                    · simp only [df (show ¬ min a b = 0 by omega), cond_false, Bool.false_eq_true, if_false, ok_bad n6, Option.bind_some]
                      cases (zeroEv a t == x) <;> cases (zeroEv b u == y) <;> rfl
                    · simp only [isNil, cond_true, decide_true, Bool.not_true, Bool.false_eq_true, if_false, ok_bad n6, Option.bind_some, cond_false]
                      cases (zeroEv a T_event_halves.nil == x) <;> cases (zeroEv a T_event_halves.nil == y) <;> cases decide (min a a = 0) <;> rfl
                  · simp only [if_neg hc]
                    have c1 : (zeroEv a t == x) = false := by
                      cases hz : zeroEv a t == x with
                      | false => rfl
                      | true => exact absurd (.inl (eq_of_beq hz)) hc
                    have c2 : (zeroEv b u == y) = false := by
                      cases hz : zeroEv b u == y with
                      | false => rfl
                      | true => exact absurd (.inr (.inl (eq_of_beq hz))) hc
                    have c3 : ¬ 0 < min a b := fun hx => hc (.inr (.inr (.inl hx)))
                    have c4 : ¬ (t = .nil ∧ u = .nil ∧ a = b) := fun hx => hc (.inr (.inr (.inr hx)))
                    have hnode := node_prog (N := N) (p := p) (n := (m2 : Int)) (er := 0) (base := base) (by omega) ⟨hb1, hb2⟩ na nb (by omega) (by omega) ma mb c3 c4
                    have fin : GoodE p (if 1048576 < maxE base (.mk a t b u) then .inr 4 else .inl (base, .mk a t b u, l2)) ((code_source_node N base a t b u 0 p (m2 : Int) 0).bind fun x => some (x.1, x.2.1, x.2.2, (m2 : Int), 0)) := by
                      rw [hnode]
                      by_cases hx : 1048576 < maxE base (.mk a t b u)
                      · simp only [if_pos hx]
                        exact ⟨by decide, 0, .nil, (m2 : Int), 0, rfl⟩
                      · simp only [if_neg hx]
                        exact ⟨m2, rfl, hm2⟩
                    simp only [c1, c2, Bool.not_false, cond_true, dt (show min a b = 0 by omega)]
                    cases ht : isNil t with
                    | false => simp only [cond_false, if_true, Option.bind_some, ok_good, cond_true]; exact fin
                    | true =>
                      cases hu : isNil u with
                      | false => simp only [cond_false, cond_true, if_true, Option.bind_some, ok_good]; exact fin
                      | true =>
                        have hne : ¬ a = b := fun hab => c4 ⟨isNil_iff.1 ht, isNil_iff.1 hu, hab⟩
                        simp only [cond_true, df hne, Bool.not_false, if_true, Option.bind_some, ok_good]
                        exact fin
end Go.Proofs.YtjjakdmcnkldoaaDoor
