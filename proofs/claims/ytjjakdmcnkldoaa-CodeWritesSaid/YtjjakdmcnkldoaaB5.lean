/- Which ids, trees are the same. Plain. -/
import Derived.Test.YtjjakdmcnkldoaaB4
set_option linter.unusedVariables false
set_option linter.unusedSimpArgs false
namespace Go.Proofs.Ytjjakdmcnkldoaa
open Go.Ev

def covID : Bool → T_id_halves → Bool → T_id_halves → Bool
  | true, _, _, _ => true
  | false, .nil, j, u => zeroID j u
  | false, .mk b t b2 t2, j, u => match j, u with
    | true, _ => false
    | false, .nil => true
    | false, .mk c v c2 v2 => covID b t c v && covID b2 t2 c2 v2
theorem covers_eq : ∀ {N : Nat} {i j : Bool} {t u : T_id_halves}, depthID t < N → wfID i t → wfID j u → id_Covers N i t j u = some (covID i t j u)
  | 0, i, j, t, u, hN, h1, h2 => by omega
  | N + 1, i, j, t, u, hN, h1, h2 => by
    unfold id_Covers id_Covers_b id_ID_IsOne
    cases i with
    | true => cases t <;> rfl
    | false =>
      simp only [Option.bind_some, isZero_eq, cond_false]
      cases t with
      | nil => cases j <;> cases u <;> rfl
      | mk b t b2 t2 =>
        cases j with
        | true =>
          cases u with
          | nil => rfl
          | mk => exact h2.elim
        | false =>
          cases u with
          | nil => rfl
          | mk c v c2 v2 =>
            simp only [depthID] at hN
            simp only [show zeroID false (T_id_halves.mk c v c2 v2) = false from rfl, show zeroID false (T_id_halves.mk b t b2 t2) = false from rfl, cond_false, covers_eq (N := N) (by omega) h1.1 h2.1, covers_eq (N := N) (by omega) h1.2 h2.2, Option.bind_some, covID]
            cases covID b t c v <;> rfl
theorem cov_refl : ∀ {t : T_id_halves} {i : Bool}, covID i t i t = true
  | t, true => by cases t <;> rfl
  | .nil, false => rfl
  | .mk b t b2 t2, false => by simp only [covID, cov_refl (t := t), cov_refl (t := t2), Bool.and_self]
theorem cov_anti : ∀ {t u : T_id_halves} {i j : Bool}, wfID i t → wfID j u → covID i t j u = true → covID j u i t = true → i = j ∧ t = u
  | .nil, u, i, j, h1, h2, h3, h4 => by
    cases i <;> cases j <;> cases u <;> simp_all [covID, zeroID, wfID]
  | .mk b t b2 t2, u, i, j, h1, h2, h3, h4 => by
    cases i with
    | true => exact h1.elim
    | false =>
      cases u with
      | nil => cases j <;> simp_all [covID, zeroID, wfID]
      | mk c v c2 v2 =>
        cases j with
        | true => exact h2.elim
        | false =>
          simp only [covID, Bool.and_eq_true] at h3 h4
          obtain ⟨q1, q2⟩ := cov_anti h1.1 h2.1 h3.1 h4.1
          obtain ⟨q3, q4⟩ := cov_anti h1.2 h2.2 h3.2 h4.2
          exact ⟨rfl, by rw [q1, q2, q3, q4]⟩
theorem idSame_eq {N : Nat} {i j : Bool} {t u : T_id_halves} (hN : depthID t < N) (hN2 : depthID u < N) (h1 : wfID i t) (h2 : wfID j u) : ∃ b, id_Same N i t j u = some b ∧ (b = true ↔ (i = j ∧ t = u)) := by
  unfold id_Same
  rw [covers_eq hN h1 h2, covers_eq hN2 h2 h1]
  simp only [Option.bind_some]
  refine ⟨covID i t j u && covID j u i t, by cases covID i t j u <;> rfl, ?_⟩
  rw [Bool.and_eq_true]
  constructor
  · rintro ⟨q1, q2⟩; exact cov_anti h1 h2 q1 q2
  · rintro ⟨rfl, rfl⟩; exact ⟨cov_refl, cov_refl⟩

/-! ### trees -/
def maxE : Int → T_event_halves → Int
  | e, .nil => e
  | e, .mk a t b u => e + max (maxE a t) (maxE b u)
theorem maxE_ge : ∀ {t : T_event_halves} {e : Int}, okE e t → e ≤ maxE e t
  | .nil, e, h => by simp [maxE]
  | .mk a t b u, e, h => by
    have := maxE_ge h.2.1
    have := h.2.1.base
    simp only [maxE]
    omega
theorem maxE_up : ∀ {t : T_event_halves} {e d : Int}, maxE (d + e) t = d + maxE e t
  | .nil, e, d => by simp [maxE]
  | .mk a t b u, e, d => by simp only [maxE]; omega
def leqE : Int → T_event_halves → Int → T_event_halves → Bool
  | A, .nil, B, _ => decide (A ≤ B)
  | A, .mk n t n2 t2, B, .nil => if B < A then false else leqE (A + n) t B .nil && leqE (A + n2) t2 B .nil
  | A, .mk n t n2 t2, B, .mk m u m2 u2 => leqE (A + n) t (B + m) u && leqE (A + n2) t2 (B + m2) u2
theorem okE.up {e d : Int} {t : T_event_halves} (h : okE e t) (hd : 0 ≤ d) (hm : maxE (d + e) t < 18446744073709551616) : okE (d + e) t := by
  have h1 := maxE_ge h
  rw [maxE_up] at hm
  have := h.base
  cases t with
  | nil => exact ⟨by omega, by omega⟩
  | mk a t b u => exact ⟨⟨by omega, by omega⟩, h.2⟩
theorem leq_eq : ∀ {N : Nat} {A B : Int} {t u : T_event_halves}, depthE t < N → okE A t → okE B u → maxE A t < 18446744073709551616 → maxE B u < 18446744073709551616 → event_Leq N A t B u = some (leqE A t B u)
  | 0, A, B, t, u, hN, h1, h2, h3, h4 => by omega
  | N + 1, A, B, t, u, hN, h1, h2, h3, h4 => by
    unfold event_Leq event_Leq_b event_Event_up
    have hA := h1.base
    have hB := h2.base
    cases t with
    | nil => simp only [leqE]
    | mk n t n2 t2 =>
      obtain ⟨-, ht, ht2⟩ := h1
      have g1 := maxE_ge ht
      have g2 := maxE_ge ht2
      have b1 := ht.base
      have b2 := ht2.base
      simp only [maxE] at h3
      simp only [depthE] at hN
      have e1 : iadd .u64 n A = A + n := by rw [iaddU (by omega) (by omega)]; omega
      have e2 : iadd .u64 n2 A = A + n2 := by rw [iaddU (by omega) (by omega)]; omega
      have o1 : okE (A + n) t := ht.up hA.1 (by rw [maxE_up]; omega)
      have o2 : okE (A + n2) t2 := ht2.up hA.1 (by rw [maxE_up]; omega)
      cases u with
      | nil =>
        have e3 : iadd .u64 0 B = B := by rw [iaddU (by omega) (by omega)]; omega
        simp only [maxE] at h4
        have r1 := leq_eq (N := N) (A := A + n) (B := B) (t := t) (u := .nil) (by omega) o1 h2 (by rw [maxE_up]; omega) h4
        have r2 := leq_eq (N := N) (A := A + n2) (B := B) (t := t2) (u := .nil) (by omega) o2 h2 (by rw [maxE_up]; omega) h4
        simp only [event_Event_Left, event_Event_Right, Option.bind_some, e1, e2, e3, r1, r2, leqE]
        by_cases hlt : B < A
        · rw [dt hlt, if_pos hlt]; rfl
        · rw [df hlt, if_neg hlt]
          simp only [cond_false]
          cases leqE (A + n) t B .nil <;> rfl
      | mk m u m2 u2 =>
        obtain ⟨-, hu, hu2⟩ := h2
        have g3 := maxE_ge hu
        have g4 := maxE_ge hu2
        have b3 := hu.base
        have b4 := hu2.base
        simp only [maxE] at h4
        have e3 : iadd .u64 m B = B + m := by rw [iaddU (by omega) (by omega)]; omega
        have e4 : iadd .u64 m2 B = B + m2 := by rw [iaddU (by omega) (by omega)]; omega
        have r1 := leq_eq (N := N) (A := A + n) (B := B + m) (t := t) (u := u) (by omega) o1 (hu.up hB.1 (by rw [maxE_up]; omega)) (by rw [maxE_up]; omega) (by rw [maxE_up]; omega)
        have r2 := leq_eq (N := N) (A := A + n2) (B := B + m2) (t := t2) (u := u2) (by omega) o2 (hu2.up hB.1 (by rw [maxE_up]; omega)) (by rw [maxE_up]; omega) (by rw [maxE_up]; omega)
        simp only [event_Event_Left, event_Event_Right, Option.bind_some, e1, e2, e3, e4, r1, r2, leqE]
        cases leqE (A + n) t (B + m) u <;> cases decide (B < A) <;> rfl
theorem leq_refl : ∀ {t : T_event_halves} {A : Int}, leqE A t A t = true
  | .nil, A => by simp [leqE]
  | .mk n t n2 t2, A => by simp only [leqE, leq_refl (t := t), leq_refl (t := t2), Bool.and_self]
/-- Halves as they are kept, whatever the base. -/
def nfE : T_event_halves → Prop
  | .nil => True
  | .mk a t b u => 0 ≤ a ∧ 0 ≤ b ∧ nfE t ∧ nfE u ∧ (a = 0 ∨ b = 0) ∧ ¬ (t = .nil ∧ u = .nil ∧ a = b)
theorem wfE.nf : ∀ {t : T_event_halves} {e : Int}, wfE e t → nfE t
  | .nil, e, h => trivial
  | .mk a t b u, e, h => ⟨h.2.1.ok.base.1, h.2.2.1.ok.base.1, h.2.1.nf, h.2.2.1.nf, h.2.2.2⟩
theorem leq_base : ∀ {t u : T_event_halves} {A B : Int}, nfE t → nfE u → leqE A t B u = true → A ≤ B
  | .nil, u, A, B, h1, h2, h => by simpa [leqE] using h
  | .mk n t n2 t2, .nil, A, B, h1, h2, h => by
    simp only [leqE] at h
    split at h
    · cases h
    · omega
  | .mk n t n2 t2, .mk m u m2 u2, A, B, h1, h2, h => by
    simp only [leqE, Bool.and_eq_true] at h
    have q1 := leq_base h1.2.2.1 h2.2.2.1 h.1
    have q2 := leq_base h1.2.2.2.1 h2.2.2.2.1 h.2
    have := h1.1
    have := h1.2.1
    have := h2.2.2.2.2.1
    omega
theorem leq_anti : ∀ {t u : T_event_halves} {A B : Int}, nfE t → nfE u → leqE A t B u = true → leqE B u A t = true → A = B ∧ t = u
  | .nil, .nil, A, B, h1, h2, h3, h4 => by
    simp only [leqE, decide_eq_true_eq] at h3 h4
    exact ⟨by omega, rfl⟩
  | .nil, .mk m u m2 u2, A, B, h1, h2, h3, h4 => by
    exfalso
    simp only [leqE, decide_eq_true_eq] at h3 h4
    split at h4
    · cases h4
    · rename_i hn
      obtain rfl : A = B := by omega
      simp only [Bool.and_eq_true] at h4
      have q1 := leq_base (u := .nil) h2.2.2.1 trivial h4.1
      have q2 := leq_base (u := .nil) h2.2.2.2.1 trivial h4.2
      have z1 := h2.1
      have z2 := h2.2.1
      have m0 : m = 0 := by omega
      have m20 : m2 = 0 := by omega
      obtain ⟨-, r1⟩ := leq_anti (t := .nil) (u := u) (A := A) (B := A + m) trivial h2.2.2.1 (by simp [leqE]; omega) h4.1
      obtain ⟨-, r2⟩ := leq_anti (t := .nil) (u := u2) (A := A) (B := A + m2) trivial h2.2.2.2.1 (by simp [leqE]; omega) h4.2
      exact h2.2.2.2.2.2 ⟨r1.symm, r2.symm, by omega⟩
  | .mk n t n2 t2, .nil, A, B, h1, h2, h3, h4 => by
    exfalso
    simp only [leqE, decide_eq_true_eq] at h3 h4
    split at h3
    · cases h3
    · rename_i hn
      obtain rfl : A = B := by omega
      simp only [Bool.and_eq_true] at h3
      have q1 := leq_base (u := .nil) h1.2.2.1 trivial h3.1
      have q2 := leq_base (u := .nil) h1.2.2.2.1 trivial h3.2
      have z1 := h1.1
      have z2 := h1.2.1
      obtain ⟨-, r1⟩ := leq_anti (t := t) (u := .nil) (A := A + n) (B := A) h1.2.2.1 trivial h3.1 (by simp [leqE]; omega)
      obtain ⟨-, r2⟩ := leq_anti (t := t2) (u := .nil) (A := A + n2) (B := A) h1.2.2.2.1 trivial h3.2 (by simp [leqE]; omega)
      exact h1.2.2.2.2.2 ⟨r1, r2, by omega⟩
  | .mk n t n2 t2, .mk m u m2 u2, A, B, h1, h2, h3, h4 => by
    simp only [leqE, Bool.and_eq_true] at h3 h4
    obtain ⟨q1, q2⟩ := leq_anti h1.2.2.1 h2.2.2.1 h3.1 h4.1
    obtain ⟨q3, q4⟩ := leq_anti h1.2.2.2.1 h2.2.2.2.1 h3.2 h4.2
    have z1 := h1.1
    have z2 := h1.2.1
    have z3 := h2.1
    have z4 := h2.2.1
    have z5 := h1.2.2.2.2.1
    have z6 := h2.2.2.2.2.1
    have hAB : A = B := by omega
    refine ⟨hAB, ?_⟩
    rw [q2, q4, show n = m by omega, show n2 = m2 by omega]
termination_by t u => (t, u)
theorem evSame_eq {N : Nat} {e f : Int} {t u : T_event_halves} (hN : depthE t < N) (hN2 : depthE u < N) (h1 : wfE e t) (h2 : wfE f u) (h3 : maxE e t < 18446744073709551616) (h4 : maxE f u < 18446744073709551616) :
    ∃ b, event_Same N e t f u = some b ∧ (b = true ↔ (e = f ∧ t = u)) := by
  unfold event_Same
  rw [leq_eq hN h1.ok h2.ok h3 h4, leq_eq hN2 h2.ok h1.ok h4 h3]
  simp only [Option.bind_some]
  refine ⟨leqE e t f u && leqE f u e t, by cases leqE e t f u <;> rfl, ?_⟩
  rw [Bool.and_eq_true]
  constructor
  · rintro ⟨q1, q2⟩; exact leq_anti h1.nf h2.nf q1 q2
  · rintro ⟨rfl, rfl⟩; exact ⟨leq_refl, leq_refl⟩
end Go.Proofs.Ytjjakdmcnkldoaa
