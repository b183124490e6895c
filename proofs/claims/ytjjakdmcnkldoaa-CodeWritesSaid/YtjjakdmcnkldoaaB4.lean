/- What is written tells what was written. Plain. -/
import Derived.Test.YtjjakdmcnkldoaaB3
set_option linter.unusedVariables false
set_option linter.unusedSimpArgs false
namespace Go.Proofs.Ytjjakdmcnkldoaa
open Go.Ev

theorem bitsN_split : ∀ {k n m : Nat} {r s : List Bool}, bitsN k n ++ r = bitsN k m ++ s → (∀ i, i < k → n.testBit i = m.testBit i) ∧ r = s
  | 0, n, m, r, s, h => ⟨fun i hi => by omega, h⟩
  | k + 1, n, m, r, s, h => by
    simp only [bitsN, List.cons_append, List.cons.injEq] at h
    obtain ⟨h1, h2⟩ := bitsN_split h.2
    refine ⟨fun i hi => ?_, h2⟩
    rcases Nat.lt_or_eq_of_le (Nat.le_of_lt_succ hi) with hi | rfl
    · exact h1 i hi
    · exact h.1
theorem bitsN_eq {k n m : Nat} {r s : List Bool} (hn : n < 2 ^ k) (hm : m < 2 ^ k) (h : bitsN k n ++ r = bitsN k m ++ s) : n = m ∧ r = s := by
  obtain ⟨h1, h2⟩ := bitsN_split h
  refine ⟨Nat.eq_of_testBit_eq fun i => ?_, h2⟩
  rcases Nat.lt_or_ge i k with hi | hi
  · exact h1 i hi
  · rw [Nat.testBit_lt_two_pow (Nat.lt_of_lt_of_le hn (Nat.pow_le_pow_right (by decide) hi)), Nat.testBit_lt_two_pow (Nat.lt_of_lt_of_le hm (Nat.pow_le_pow_right (by decide) hi))]
theorem encGo_eq : ∀ {f b n m : Nat} {r s : List Bool}, f + b = 64 → n < 2 ^ 64 → m < 2 ^ 64 → encGo f b n ++ r = encGo f b m ++ s → n = m ∧ r = s
  | 0, b, n, m, r, s, hb, hn, hm, h => by
    obtain rfl : b = 64 := by omega
    simp only [encGo, List.cons_append, List.cons.injEq, true_and] at h
    exact bitsN_eq hn hm h
  | f + 1, b, n, m, r, s, hb, hn, hm, h => by
    simp only [encGo] at h
    by_cases h1 : 2 ^ b ≤ n
    · by_cases h2 : 2 ^ b ≤ m
      · rw [if_pos h1, if_pos h2] at h
        simp only [List.cons_append, List.cons.injEq, true_and] at h
        obtain ⟨h3, h4⟩ := encGo_eq (by omega) (Nat.lt_of_le_of_lt (Nat.sub_le _ _) hn) (Nat.lt_of_le_of_lt (Nat.sub_le _ _) hm) h
        exact ⟨by omega, h4⟩
      · rw [if_pos h1, if_neg h2] at h
        simp at h
    · by_cases h2 : 2 ^ b ≤ m
      · rw [if_neg h1, if_pos h2] at h
        simp at h
      · rw [if_neg h1, if_neg h2] at h
        simp only [List.cons_append, List.cons.injEq, true_and] at h
        exact bitsN_eq (by omega) (by omega) h
theorem encNum_eq {n m : Nat} {r s : List Bool} (hn : n < 2 ^ 64) (hm : m < 2 ^ 64) (h : encNum n ++ r = encNum m ++ s) : n = m ∧ r = s := encGo_eq (by decide) hn hm h
/-- An id as it is kept. -/
def wfID : Bool → T_id_halves → Prop
  | true, .nil => True
  | true, .mk .. => False
  | false, .nil => True
  | false, .mk b l b2 r => wfID b l ∧ wfID b2 r
theorem zeroID_eq {i j : Bool} {t u : T_id_halves} (h : zeroID i t = true) (h2 : zeroID j u = true) : i = j ∧ t = u := by
  cases i <;> cases t <;> cases j <;> cases u <;> simp_all [zeroID]
theorem b20 : bitsN 2 0 = [false, false] := by decide
theorem b21 : bitsN 2 1 = [false, true] := by decide
theorem b22 : bitsN 2 2 = [true, false] := by decide
theorem b23 : bitsN 2 3 = [true, true] := by decide
theorem b10 : bitsN 1 0 = [false] := by decide
theorem b11 : bitsN 1 1 = [true] := by decide
theorem encID_eq : ∀ {t u : T_id_halves} {i j : Bool} {r s : List Bool}, wfID i t → wfID j u → encID i t ++ r = encID j u ++ s → i = j ∧ t = u ∧ r = s
  | .nil, u, i, j, r, s, h1, h2, h => by
    cases u with
    | nil => cases i <;> cases j <;> simp_all [encID, b20, b10, b11]
    | mk b l b2 r2 =>
      cases j with
      | true => exact h2.elim
      | false =>
        exfalso
        cases i <;> simp only [encID] at h <;> cases hz : zeroID b l <;> cases hz2 : zeroID b2 r2 <;> simp [hz, hz2, b20, b21, b22, b23, b10, b11] at h
  | .mk b l b2 r2, u, i, j, r, s, h1, h2, h => by
    cases i with
    | true => exact h1.elim
    | false =>
      cases u with
      | nil =>
        exfalso
        cases j <;> simp only [encID] at h <;> cases hz : zeroID b l <;> cases hz2 : zeroID b2 r2 <;> simp [hz, hz2, b20, b21, b22, b23, b10, b11] at h
      | mk c m c2 s2 =>
        cases j with
        | true => exact h2.elim
        | false =>
          simp only [encID] at h
          cases hz : zeroID b l with
          | true =>
            rw [hz, if_pos rfl] at h
            cases hy : zeroID c m with
            | true =>
              rw [hy, if_pos rfl] at h
              simp only [b21, List.append_assoc, List.cons_append, List.nil_append, List.cons.injEq, true_and] at h
              obtain ⟨q1, q2, q3⟩ := encID_eq h1.2 h2.2 h
              obtain ⟨q4, q5⟩ := zeroID_eq hz hy
              subst q1; subst q2; subst q4; subst q5
              exact ⟨rfl, rfl, q3⟩
            | false =>
              rw [hy] at h
              exfalso
              simp only [Bool.false_eq_true, if_false] at h
              split at h <;> simp [b21, b22, b23] at h
          | false =>
            cases hy : zeroID c m with
            | true =>
              rw [hz, hy] at h
              exfalso
              simp only [Bool.false_eq_true, if_false, if_true] at h
              split at h <;> simp [b21, b22, b23] at h
            | false =>
              rw [hz, hy] at h
              simp only [Bool.false_eq_true, if_false] at h
              cases hz2 : zeroID b2 r2 with
              | true =>
                cases hy2 : zeroID c2 s2 with
                | true =>
                  rw [hz2, hy2, if_pos rfl, if_pos rfl] at h
                  simp only [b22, List.append_assoc, List.cons_append, List.nil_append, List.cons.injEq, true_and] at h
                  obtain ⟨q1, q2, q3⟩ := encID_eq h1.1 h2.1 h
                  obtain ⟨q4, q5⟩ := zeroID_eq hz2 hy2
                  subst q1; subst q2; subst q4; subst q5
                  exact ⟨rfl, rfl, q3⟩
                | false =>
                  rw [hz2, hy2] at h
                  exfalso
                  simp [b22, b23] at h
              | false =>
                cases hy2 : zeroID c2 s2 with
                | true =>
                  rw [hz2, hy2] at h
                  exfalso
                  simp [b22, b23] at h
                | false =>
                  rw [hz2, hy2] at h
                  simp only [Bool.false_eq_true, if_false, b23, List.append_assoc, List.cons_append, List.nil_append, List.cons.injEq, true_and] at h
                  obtain ⟨q1, q2, q3⟩ := encID_eq h1.1 h2.1 h
                  obtain ⟨q4, q5, q6⟩ := encID_eq h1.2 h2.2 q3
                  subst q1; subst q2; subst q4; subst q5
                  exact ⟨rfl, rfl, q6⟩

/-! ### trees -/
/-- A tree as it is kept: one half's base is 0; not two leaves that are one. -/
def wfE : Int → T_event_halves → Prop
  | e, .nil => 0 ≤ e ∧ e < 18446744073709551616
  | e, .mk a t b u => (0 ≤ e ∧ e < 18446744073709551616) ∧ wfE a t ∧ wfE b u ∧ (a = 0 ∨ b = 0) ∧ ¬ (t = .nil ∧ u = .nil ∧ a = b)
theorem wfE.ok : ∀ {t : T_event_halves} {e : Int}, wfE e t → okE e t
  | .nil, e, h => h
  | .mk a t b u, e, h => ⟨h.1, h.2.1.ok, h.2.2.1.ok⟩
theorem zeroEv_eq {e : Int} {t : T_event_halves} (h : zeroEv e t = true) : e = 0 ∧ t = .nil := by
  cases t with
  | nil => exact ⟨by simpa [zeroEv] using h, rfl⟩
  | mk => cases h
def tagB (z p q : Bool) : List Bool :=
  bif z then (bif p then bitsN 2 0 else bif q then bitsN 2 1 else bitsN 2 2) else (bif p then bitsN 2 3 ++ bitsN 2 0 else bif q then bitsN 2 3 ++ bitsN 2 1 else bitsN 2 3 ++ bitsN 1 1)
theorem tag_eq {z p q z' p' q' : Bool} {r s : List Bool} (h : tagB z p q ++ r = tagB z' p' q' ++ s) : z = z' ∧ p = p' ∧ (p = false → q = q') ∧ r = s := by
  cases z <;> cases p <;> cases q <;> cases z' <;> cases p' <;> cases q' <;> simp [tagB, b20, b21, b22, b23, b11] at h ⊢ <;> exact h
theorem encEv_mk (e a b : Int) (t u : T_event_halves) : encEv e (.mk a t b u) = bitsN 1 0 ++ (tagB (decide (e = 0)) (zeroEv a t) (zeroEv b u) ++ ((if 0 < e then encNum e.toNat else []) ++ ((if zeroEv a t then [] else encEv a t) ++ (if zeroEv b u then [] else encEv b u)))) := by
  simp only [encEv]
  congr 2
  by_cases h : e = 0 <;> cases zeroEv a t <;> cases zeroEv b u <;> simp [h, tagB]
theorem encEv_eq : ∀ {t u : T_event_halves} {e f : Int} {r s : List Bool}, wfE e t → wfE f u → encEv e t ++ r = encEv f u ++ s → e = f ∧ t = u ∧ r = s
  | .nil, .nil, e, f, r, s, h1, h2, h => by
    simp only [encEv, b11, List.append_assoc, List.cons_append, List.nil_append, List.cons.injEq, true_and] at h
    simp only [wfE] at h1 h2
    obtain ⟨q1, q2⟩ := encNum_eq (by omega) (by omega) h
    exact ⟨by omega, rfl, q2⟩
  | .nil, .mk a t b u, e, f, r, s, h1, h2, h => by
    rw [encEv_mk] at h
    simp [encEv, b11, b10] at h
  | .mk a t b u, .nil, e, f, r, s, h1, h2, h => by
    rw [encEv_mk] at h
    simp [encEv, b11, b10] at h
  | .mk a t b u, .mk c v d w, e, f, r, s, h1, h2, h => by
    rw [encEv_mk, encEv_mk] at h
    simp only [b10, List.append_assoc, List.cons_append, List.nil_append, List.cons.injEq, true_and] at h
    obtain ⟨q1, q2, q3, q4⟩ := tag_eq h
    have hef : (e = 0) ↔ (f = 0) := decide_eq_decide.1 q1
    have he := h1.1
    have hf := h2.1
    have num : e = f ∧ ((if zeroEv a t then [] else encEv a t) ++ ((if zeroEv b u then [] else encEv b u) ++ r)) = ((if zeroEv c v then [] else encEv c v) ++ ((if zeroEv d w then [] else encEv d w) ++ s)) := by
      by_cases h0 : e = 0
      · have h0' := hef.1 h0
        rw [if_neg (show ¬ 0 < e by omega), if_neg (show ¬ 0 < f by omega)] at q4
        simp only [List.nil_append, List.append_assoc] at q4
        exact ⟨by omega, q4⟩
      · have h0' : ¬ f = 0 := fun h => h0 (hef.2 h)
        rw [if_pos (show 0 < e by omega), if_pos (show 0 < f by omega)] at q4
        obtain ⟨z1, z2⟩ := encNum_eq (by omega) (by omega) q4
        exact ⟨by omega, z2⟩
    obtain ⟨rfl, hr⟩ := num
    cases hz : zeroEv a t with
    | true =>
      have hy : zeroEv c v = true := by rw [← q2, hz]
      obtain ⟨rfl, rfl⟩ := zeroEv_eq hz
      obtain ⟨rfl, rfl⟩ := zeroEv_eq hy
      have nz : zeroEv b u = false := by
        cases hb : zeroEv b u with
        | false => rfl
        | true => obtain ⟨rfl, rfl⟩ := zeroEv_eq hb; exact absurd ⟨rfl, rfl, rfl⟩ h1.2.2.2.2
      have nz2 : zeroEv d w = false := by
        cases hb : zeroEv d w with
        | false => rfl
        | true => obtain ⟨rfl, rfl⟩ := zeroEv_eq hb; exact absurd ⟨rfl, rfl, rfl⟩ h2.2.2.2.2
      rw [hz, nz, nz2] at hr
      simp only [if_true, Bool.false_eq_true, if_false, List.nil_append] at hr
      obtain ⟨z1, z2, z3⟩ := encEv_eq h1.2.2.1 h2.2.2.1 hr
      exact ⟨rfl, by rw [z1, z2], z3⟩
    | false =>
      have hy : zeroEv c v = false := by rw [← q2, hz]
      have hq := q3 hz
      rw [hz, hy, ← hq] at hr
      simp only [Bool.false_eq_true, if_false] at hr
      obtain ⟨z1, z2, z3⟩ := encEv_eq h1.2.1 h2.2.1 hr
      cases hb : zeroEv b u with
      | true =>
        have hd : zeroEv d w = true := by rw [← hq, hb]
        obtain ⟨z4, z5⟩ := zeroEv_eq hb
        obtain ⟨z6, z7⟩ := zeroEv_eq hd
        rw [hb] at z3
        simp only [if_true, List.nil_append] at z3
        exact ⟨rfl, by rw [z1, z2, z4, z5, z6, z7], z3⟩
      | false =>
        rw [hb] at z3
        simp only [Bool.false_eq_true, if_false] at z3
        obtain ⟨z4, z5, z6⟩ := encEv_eq h1.2.2.1 h2.2.2.1 z3
        exact ⟨rfl, by rw [z1, z2, z4, z5], z6⟩

/-! ### bytes -/
theorem Pk.same {l : List Int} {B C : List Bool} (h : Pk l B) (k : Pk l C) : ∃ r s, B ++ r = C ++ s := by
  have hb := h.len
  have hc := k.len
  refine ⟨List.replicate (8 * l.length - B.length) false, List.replicate (8 * l.length - C.length) false, ?_⟩
  have key : ∀ {D : List Bool}, D.length ≤ 8 * l.length → ∀ i, i < 8 * l.length → (D ++ List.replicate (8 * l.length - D.length) false)[i]? = some (D.getD i false) := by
    intro D hD i hi
    rcases Nat.lt_or_ge i D.length with h1 | h1
    · rw [List.getElem?_append_left h1]; simp [List.getD, h1]
    · rw [List.getElem?_append_right h1, List.getElem?_replicate, if_pos (by omega), getD_none h1]
  apply List.ext_getElem?
  intro i
  rcases Nat.lt_or_ge i (8 * l.length) with hi | hi
  · rw [key (by omega) i hi, key (by omega) i hi]
    have h1 := h.bit (i / 8) (i % 8) (Nat.mod_lt _ (by decide)) (by omega)
    have h2 := k.bit (i / 8) (i % 8) (Nat.mod_lt _ (by decide)) (by omega)
    rw [show 8 * (i / 8) + i % 8 = i by omega] at h1 h2
    rw [← h1, ← h2]
  · rw [List.getElem?_eq_none (by simp; omega), List.getElem?_eq_none (by simp; omega)]
end Go.Proofs.Ytjjakdmcnkldoaa
