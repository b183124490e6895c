/- A share of the bits that are left: the program's reader reads it. Plain. -/
import Derived.Test.YtjjakdmcnkldoaaDoorCR5
set_option linter.unusedVariables false
set_option linter.unusedSimpArgs false
namespace Go.Proofs.YtjjakdmcnkldoaaDoor
open Go.Ev Go.Lib

def GoodI (p : List Int) (k : Nat) : RI → Option (Bool × Idt × Int × Int × Int) → Prop
  | .inl (i, t, r), x => ∃ m : Nat, x = some (i, t, 0, (m : Int), 0) ∧ Rem p m r
  | .inr e, x => e ≠ 0 ∧ ∃ (i : Bool) (t : Idt) (m er : Int), x = some (i, t, e, m, er) ∧ depthI t ≤ k
theorem beq_not {x a : Bool} : (x == (!a)) = !(x == a) := by cases x <;> cases a <;> rfl
theorem must_is {p : List Int} {b : Bool} {n er : Int} : code_source_must b 0 p n er = some (if b = true then 0 else 6) := by
  cases b <;> rfl
theorem progI {p : List Int} (hb : Bytes p) (hp : p.length ≤ 100000) : ∀ {N k d n : Nat} {L : List Bool}, d + k = 16 → k + 30 < N → Rem p n L → GoodI p k (decI k L) (code_source_id_2 N (d : Int) 0 p (n : Int) 0)
  | 0, k, d, n, L, hd, hN, h => by omega
  | N + 1, k, d, n, L, hd, hN, h => by
    show GoodI p k (decI k L) (code_source_id_2_b N (code_source_id_2 N) (d : Int) 0 p (n : Int) 0)
    -- two bits are lacking
    have short : L.length < 2 → decI k L = .inr 6 → GoodI p k (decI k L) (code_source_id_2_b N (code_source_id_2 N) (d : Int) 0 p (n : Int) 0) := by
      intro hl he
      rw [he]
      have g1 : code_source_bit 2 0 p (n : Int) 0 = some (0, 6, (n : Int), 6) := bit_none (k := 2) hp (by decide) h hl
      refine ⟨by decide, false, .nil, (n : Int), 6, ?_, Nat.zero_le _⟩
      unfold code_source_id_2_b
      simp only [id_Zero, Option.bind_some, g1, decide_true, cond_true, bit_bad (show (6 : Int) ≠ 0 by decide), df (show ¬ (0 : Int) = 1 by decide), cond_false]
    match L, h, short with
    | [], h, short => exact short (by simp) (by cases k <;> rfl)
    | [a], h, short => exact short (by simp) (by cases k <;> cases a <;> rfl)
    | a :: b :: l, h, short =>
      have hc2 := h.cut (k := 2) (by simp)
      have hc2' : Rem p (n + 2) l := hc2
      have g1 : code_source_bit 2 0 p (n : Int) 0 = some ((valB [a, b] : Int), 0, ((n + 2 : Nat) : Int), 0) := bit_rem (k := 2) hb hp (by decide) h (by simp)
      by_cases hab : a = true ∨ b = true
      · -- a pair
        have q0 : decide (((valB [a, b] : Nat) : Int) = 0) = false := by cases a <;> cases b <;> first | rfl | (rcases hab with h | h <;> cases h)
        have q1 : decide (((valB [a, b] : Nat) : Int) = 1) = !a := by cases a <;> cases b <;> first | rfl | (rcases hab with h | h <;> cases h)
        have q2 : decide (((valB [a, b] : Nat) : Int) = 2) = !b := by cases a <;> cases b <;> first | rfl | (rcases hab with h | h <;> cases h)
        unfold code_source_id_2_b code_source_id_C22
        simp only [id_Zero, Option.bind_some, g1, q0, cond_false, q1, q2, Bool.not_not]
        generalize ((valB [a, b] : Nat) : Int) = q
        cases k with
        | zero =>
          have he : decI 0 (a :: b :: l) = .inr 3 := by cases a <;> cases b <;> first | rfl | (rcases hab with h | h <;> cases h)
          have n3 : (3 : Int) ≠ 0 := by decide
          obtain ⟨x, v, c, t1, t2⟩ := pairTot (N := N) (k := 0) (i := false) (j := false) (t := .nil) (u := .nil) (by omega) (by omega) (by simp [depthI]) (by simp [depthI])
          rw [he]
          have hf : code_source_fail 3 0 p ((n + 2 : Nat) : Int) 0 = some 3 := rfl
          have hv : depthI v ≤ 0 := by
            have hp0 : id_Pair N false T_id_halves.nil false T_id_halves.nil = some (false, .nil, 0) := by
              unfold id_Pair
              have h1 : id_pair false T_id_halves.nil false T_id_halves.nil = some (false, .nil) := rfl
              have h2 := idDepth (N := N) (i := false) (t := .nil) (by simp only [depthI]; omega) (by simp [depthI])
              rw [h1]
              simp only [Option.bind_some, h2]
              rfl
            rw [hp0] at t1
            cases t1
            exact Nat.le_refl _
          refine ⟨n3, x, v, ((n + 2 : Nat) : Int), 0, ?_, hv⟩
          simp only [dt (show (d : Int) = 16 by omega), cond_true, hf, Option.bind_some, ok_bad n3, cond_false, idZero, id_ID_IsOne, must_bad n3, t1]
          cases (zeroI false T_id_halves.nil == !a) <;> cases (zeroI false T_id_halves.nil == !b) <;> rfl
        | succ k =>
          have hdec : decI (k + 1) (a :: b :: l) = nodeI (decI k) a b l := by cases a <;> cases b <;> first | rfl | (rcases hab with h | h <;> cases h)
          rw [hdec]
          have ed : iadd .i64 (d : Int) 1 = ((d + 1 : Nat) : Int) := by rw [iadd64 (by omega) (by omega)]; omega
          simp only [df (show ¬ (d : Int) = 16 by omega), cond_false, Option.bind_some, ok_good, cond_true, idZero, id_ID_IsOne]
          -- the left half
          have left : ∃ x, code_source_id_C30 (code_source_id_2 N) (d : Int) q a 0 p ((n + 2 : Nat) : Int) 0 = x ∧
              (match (if a = false then .inl (false, .nil, l) else decI k l : RI) with
              | .inl (i, t, l1) => ∃ m : Nat, x = some (0, (m : Int), 0, i, t) ∧ Rem p m l1 ∧ nfI i t ∧ depthI t ≤ k
              | .inr e => e ≠ 0 ∧ ∃ (i : Bool) (t : Idt) (m er : Int), x = some (e, m, er, i, t) ∧ depthI t ≤ k) := by
            refine ⟨_, rfl, ?_⟩
            unfold code_source_id_C30
            cases a with
            | false => exact ⟨n + 2, rfl, hc2', trivial, Nat.zero_le _⟩
            | true =>
              have ih := progI hb hp (N := N) (k := k) (d := d + 1) (n := n + 2) (L := l) (by omega) (by omega) hc2'
              simp only [Bool.true_eq_false, if_false, cond_true, ed]
              cases hq : decI k l with
              | inl z =>
                obtain ⟨i, t, l1⟩ := z
                rw [hq] at ih
                obtain ⟨m, e1, e2⟩ := ih
                obtain ⟨o1, o2, -⟩ := decI_ok hq
                exact ⟨m, by rw [e1]; rfl, e2, o1, o2⟩
              | inr e =>
                rw [hq] at ih
                obtain ⟨e0, i, t, m, er, e1, e2⟩ := ih
                exact ⟨e0, i, t, m, er, by rw [e1]; rfl, e2⟩
          obtain ⟨x, hx, left⟩ := left
          rw [hx]
          unfold nodeI
          cases hl : (if a = false then .inl (false, .nil, l) else decI k l : RI) with
          | inr e =>
            rw [hl] at left
            obtain ⟨e0, i, t, m, er, rfl, dt_⟩ := left
            obtain ⟨x, v, c, t1, t2⟩ := pairTot (N := N) (k := k) (i := i) (j := false) (t := t) (u := .nil) (by omega) (by omega) dt_ (by simp [depthI])
            refine ⟨e0, x, v, m, er, ?_, t2⟩
            simp only [Option.bind_some, ok_bad e0, cond_false, must_bad e0, t1]
            cases (zeroI i t == !a) <;> cases (zeroI false T_id_halves.nil == !b) <;> cases i <;> rfl
          | inl z =>
            obtain ⟨i, t, l1⟩ := z
            rw [hl] at left
            obtain ⟨m, rfl, hm, ni, di⟩ := left
            simp only [Option.bind_some, ok_good, cond_true]
            -- the right half
            have right : ∃ x, code_source_id_C40 (code_source_id_2 N) (d : Int) q b 0 p (m : Int) 0 i t = x ∧
                (match (if b = false then .inl (false, .nil, l1) else decI k l1 : RI) with
                | .inl (j, u, l2) => ∃ m : Nat, x = some (0, (m : Int), 0, j, u) ∧ Rem p m l2 ∧ nfI j u ∧ depthI u ≤ k
                | .inr e => e ≠ 0 ∧ ∃ (j : Bool) (u : Idt) (m er : Int), x = some (e, m, er, j, u) ∧ depthI u ≤ k) := by
              refine ⟨_, rfl, ?_⟩
              unfold code_source_id_C40
              cases b with
              | false => exact ⟨m, rfl, hm, trivial, Nat.zero_le _⟩
              | true =>
                have ih := progI hb hp (N := N) (k := k) (d := d + 1) (n := m) (L := l1) (by omega) (by omega) hm
                simp only [Bool.true_eq_false, if_false, cond_true, ed]
                cases hq : decI k l1 with
                | inl z =>
                  obtain ⟨j, u, l2⟩ := z
                  rw [hq] at ih
                  obtain ⟨m, e1, e2⟩ := ih
                  obtain ⟨o1, o2, -⟩ := decI_ok hq
                  exact ⟨m, by rw [e1]; rfl, e2, o1, o2⟩
                | inr e =>
                  rw [hq] at ih
                  obtain ⟨e0, j, u, m, er, e1, e2⟩ := ih
                  exact ⟨e0, j, u, m, er, by rw [e1]; rfl, e2⟩
            obtain ⟨x, hx, right⟩ := right
            rw [hx]
            cases hr : (if b = false then .inl (false, .nil, l1) else decI k l1 : RI) with
            | inr e =>
              rw [hr] at right
              obtain ⟨e0, j, u, m2, er, rfl, du⟩ := right
              obtain ⟨x, v, c, t1, t2⟩ := pairTot (N := N) (k := k) (i := i) (j := j) (t := t) (u := u) (by omega) (by omega) di du
              refine ⟨e0, x, v, m2, er, ?_, t2⟩
              simp only [Option.bind_some, must_bad e0, t1]
              cases (zeroI i t == !a) <;> cases (zeroI j u == !b) <;> cases i <;> rfl
            | inl z =>
              obtain ⟨j, u, l2⟩ := z
              rw [hr] at right
              obtain ⟨m2, rfl, hm2, nj, dj⟩ := right
              obtain ⟨x, v, c, t1, t2⟩ := pairTot (N := N) (k := k) (i := i) (j := j) (t := t) (u := u) (by omega) (by omega) di dj
              by_cases hc : zeroI i t = a ∨ zeroI j u = b ∨ (i = true ∧ j = true)
              · simp only [if_pos hc]
                refine ⟨by decide, x, v, (m2 : Int), 0, ?_, t2⟩
                simp only [Option.bind_some, must_is, t1, beq_not]
                rcases hc with hc | hc | ⟨rfl, rfl⟩
                · subst hc
                  simp only [beq_self_eq_true, Bool.not_true, cond_false, Bool.false_eq_true, if_false]
                · subst hc
                  simp only [beq_self_eq_true, Bool.not_true, cond_false, Bool.false_eq_true, if_false]
                  cases (zeroI i t == a) <;> rfl
                · simp only [Bool.not_true, Bool.false_eq_true, if_false, cond_true]
                  cases (zeroI true t == a) <;> cases (zeroI true u == b) <;> rfl
              · simp only [if_neg hc]
                have c1 : (zeroI i t == a) = false := by
                  cases hz : zeroI i t == a with
                  | false => rfl
                  | true => exact absurd (.inl (eq_of_beq hz)) hc
                have c2 : (zeroI j u == b) = false := by
                  cases hz : zeroI j u == b with
                  | false => rfl
                  | true => exact absurd (.inr (.inl (eq_of_beq hz))) hc
                have c3 : ¬ (i = true ∧ j = true) := fun hx => hc (.inr (.inr hx))
                have hk := pair_ok (N := N) ni nj (fun hx => by
                  obtain ⟨rfl, rfl, rfl⟩ := hx
                  cases i with
                  | true => exact c3 ⟨rfl, rfl⟩
                  | false =>
                    cases a with
                    | true => cases c1
                    | false => cases b with
                      | true => cases c2
                      | false => rcases hab with h | h <;> cases h) (by omega) (by omega) (by omega)
                refine ⟨m2, ?_, hm2⟩
                simp only [Option.bind_some, must_is, beq_not, c1, c2, Bool.not_false, cond_true, hk, if_true]
                cases i with
                | false => rfl
                | true =>
                  cases j with
                  | true => exact absurd ⟨rfl, rfl⟩ c3
                  | false => rfl
      · obtain ⟨rfl, rfl⟩ : a = false ∧ b = false := by cases a <;> cases b <;> simp_all
        have g1' : code_source_bit 2 0 p (n : Int) 0 = some (0, 0, ((n + 2 : Nat) : Int), 0) := g1
        cases l with
        | nil =>
          have he : decI k [false, false] = .inr 6 := by cases k <;> rfl
          rw [he]
          have g2 : code_source_bit 1 0 p ((n + 2 : Nat) : Int) 0 = some (0, 6, ((n + 2 : Nat) : Int), 6) := bit_none (k := 1) hp (by decide) hc2' (by simp)
          refine ⟨by decide, false, .nil, ((n + 2 : Nat) : Int), 6, ?_, Nat.zero_le _⟩
          unfold code_source_id_2_b
          simp only [id_Zero, Option.bind_some, g1', decide_true, cond_true, g2, df (show ¬ (0 : Int) = 1 by decide), cond_false]
        | cons c l =>
          have he : decI k (false :: false :: c :: l) = .inl (c, .nil, l) := by cases k <;> rfl
          rw [he]
          have g2 : code_source_bit 1 0 p ((n + 2 : Nat) : Int) 0 = some ((valB [c] : Int), 0, ((n + 2 + 1 : Nat) : Int), 0) := bit_rem (k := 1) hb hp (by decide) hc2' (by simp)
          refine ⟨n + 2 + 1, ?_, hc2'.cut (k := 1) (by simp)⟩
          unfold code_source_id_2_b
          simp only [id_Zero, id_One, Option.bind_some, g1', decide_true, cond_true, g2]
          cases c <;> rfl
end Go.Proofs.YtjjakdmcnkldoaaDoor
