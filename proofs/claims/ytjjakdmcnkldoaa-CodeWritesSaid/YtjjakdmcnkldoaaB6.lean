/- The law's stamps, of bytes. Plain. -/
import Derived.Test.YtjjakdmcnkldoaaB5
set_option linter.unusedVariables false
set_option linter.unusedSimpArgs false
namespace Go.Proofs.Ytjjakdmcnkldoaa
open Go.Ev

theorem _root_.Go.Ev.Bytes.drop {l : List Int} (h : Bytes l) (n : Nat) : Bytes (l.drop n) := fun x hx => h x (List.mem_of_mem_drop hx)
theorem _root_.Go.Ev.Bytes.take {l : List Int} (h : Bytes l) (n : Nat) : Bytes (l.take n) := fun x hx => h x (List.mem_of_mem_take hx)
theorem take_drop1 (l : List Int) (k : Nat) : List.take ((l.length : Int) - k).toNat (List.drop k l) = List.drop k l := List.take_of_length_le (by simp)
theorem irem8 {b : Int} {c : Nat} (h : 0 ≤ b) : irem .u8 b (c : Int) = b % c := by rw [irem, Int.tmod_eq_emod_of_nonneg h]
theorem iquo8 {b : Int} (h : 0 ≤ b ∧ b < 256) : iquo .u8 b 4 = b / 4 := by
  rw [iquo, Int.tdiv_eq_ediv_of_nonneg h.1, IntKind.wrap_u8]; omega

/-! ### ids -/
def fromID : Bool → T_id_halves → T_kinfolkref01_ID
  | true, _ => .mk 1 .nil .nil
  | false, .nil => .mk 0 .nil .nil
  | false, .mk b l b2 r => .mk 2 (fromID b l) (fromID b2 r)
/-- As it is kept, no half of it in vain. -/
def nfID : Bool → T_id_halves → Prop
  | true, .nil => True
  | true, .mk .. => False
  | false, .nil => True
  | false, .mk b l b2 r => nfID b l ∧ nfID b2 r ∧ ¬ (l = .nil ∧ r = .nil ∧ b = b2)
theorem nfID.wf : ∀ {t : T_id_halves} {i : Bool}, nfID i t → wfID i t
  | .nil, i, h => by cases i <;> trivial
  | .mk b l b2 r, i, h => by
    cases i
    · exact ⟨h.1.wf, h.2.1.wf⟩
    · exact h.elim
theorem rpair_eq {i j : Bool} {t u : T_id_halves} (h1 : nfID i t) (h2 : nfID j u) : ∃ k v, kinfolkref01_Pair (fromID i t) (fromID j u) = some (fromID k v) ∧ nfID k v ∧ depthID v ≤ max (depthID t) (depthID u) + 1 := by
  have node : (¬ (t = .nil ∧ u = .nil ∧ i = j)) → kinfolkref01_Pair (fromID i t) (fromID j u) = some (fromID false (.mk i t j u)) → ∃ k v, kinfolkref01_Pair (fromID i t) (fromID j u) = some (fromID k v) ∧ nfID k v ∧ depthID v ≤ max (depthID t) (depthID u) + 1 :=
    fun hn h => ⟨false, .mk i t j u, h, ⟨h1, h2, hn⟩, Nat.le_refl _⟩
  cases t with
  | nil =>
    cases u with
    | nil =>
      cases i <;> cases j
      · exact ⟨false, .nil, rfl, trivial, by simp [depthID]⟩
      · exact node (by simp) rfl
      · exact node (by simp) rfl
      · exact ⟨true, .nil, rfl, trivial, by simp [depthID]⟩
    | mk b l b2 r =>
      cases j
      · cases i <;> exact node (by simp) rfl
      · exact h2.elim
  | mk b l b2 r =>
    cases i
    · cases u with
      | nil => cases j <;> exact node (by simp) rfl
      | mk c m c2 s =>
        cases j
        · exact node (by simp) rfl
        · exact h2.elim
    · exact h1.elim
theorem rmakeID : ∀ {N most : Nat} {p : List Int}, most < N → most ≤ 1000 → Bytes p → ∃ i t rest, kinfolkref01_Make N p (most : Int) = some (fromID i t, rest) ∧ nfID i t ∧ depthID t ≤ most ∧ Bytes rest
  | 0, most, p, hN, hm, h => by omega
  | N + 1, most, p, hN, hm, h => by
    unfold kinfolkref01_Make kinfolkref01_Make_b
    by_cases h0 : (p.length : Int) = 0
    · rw [dt h0]
      exact ⟨false, .nil, [], rfl, trivial, Nat.zero_le _, fun x hx => by simp at hx⟩
    · have hl : 0 < p.length := by omega
      have hb := h.at hl
      have leaf : ∀ q : List Int, Bytes q → ∃ i t rest, some (T_kinfolkref01_ID.mk (IntKind.i64.wrap (irem .u8 (p.getD 0 0) 2)) T_kinfolkref01_ID.nil T_kinfolkref01_ID.nil, q) = some (fromID i t, rest) ∧ nfID i t ∧ depthID t ≤ most ∧ Bytes rest := by
        intro q hq
        have e : IntKind.i64.wrap (irem .u8 (p.getD 0 0) 2) = p.getD 0 0 % 2 := by
          rw [show (2 : Int) = ((2 : Nat) : Int) from rfl, irem8 hb.1, i64_in (by omega) (by omega)]
        rw [e]
        rcases Int.emod_two_eq (p.getD 0 0) with h2 | h2
        · exact ⟨false, .nil, q, by rw [h2]; rfl, trivial, Nat.zero_le _, hq⟩
        · exact ⟨true, .nil, q, by rw [h2]; rfl, trivial, Nat.zero_le _, hq⟩
      have ht := take_drop1 p 1
      have ht' : List.take ((p.length : Int) - 1).toNat (List.drop 1 p) = List.drop 1 p := ht
      have hd := h.drop 1
      simp only [df h0, cond_false, ht', dt (show (0 : Int) < p.length by omega), dt (show (1 : Int) ≤ p.length by omega), dt (Int.le_refl (0 : Int)), dt (show (0 : Int) ≤ 1 by omega), dt (Int.le_refl (p.length : Int)), dt (show (p.length : Int) = p.length from rfl), Bool.and_self, cond_true]
      by_cases hm0 : (most : Int) = 0
      · rw [dt hm0, cond_true]; exact leaf _ hd
      · rw [df hm0, cond_false]
        by_cases h4 : irem .u8 (p.getD 0 0) 4 < 2
        · rw [dt h4, cond_true]; exact leaf _ hd
        · rw [df h4, cond_false]
          obtain ⟨m, rfl⟩ : ∃ m, most = m + 1 := ⟨most - 1, by omega⟩
          have em : isub .i64 ((m + 1 : Nat) : Int) 1 = (m : Int) := by rw [isub64 (by omega) (by omega)]; omega
          rw [em]
          obtain ⟨i, t, r1, q1, q2, q3, q4⟩ := rmakeID (N := N) (most := m) (by omega) (by omega) hd
          obtain ⟨j, u, r2, q5, q6, q7, q8⟩ := rmakeID (N := N) (most := m) (by omega) (by omega) q4
          obtain ⟨k, v, q9, q10, q11⟩ := rpair_eq q2 q6
          rw [q1]
          simp only [Option.bind_some]
          rw [q5]
          simp only [Option.bind_some]
          rw [q9]
          exact ⟨k, v, r2, rfl, q10, by omega, q8⟩
theorem depthID_eq : ∀ {N : Nat} {i : Bool} {t : T_id_halves}, depthID t < N → depthID t ≤ 1000 → id_ID_Depth N i t = some (depthID t : Int)
  | 0, i, t, hN, h => by omega
  | N + 1, i, t, hN, h => by
    unfold id_ID_Depth id_ID_Depth_b
    cases t with
    | nil => rfl
    | mk b l b2 r =>
      simp only [depthID] at hN h
      simp only [depthID_eq (N := N) (i := b) (t := l) (by omega) (by omega), depthID_eq (N := N) (i := b2) (t := r) (by omega) (by omega), Option.bind_some]
      have e : (if (depthID l : Int) < (depthID r : Int) then (depthID r : Int) else (depthID l : Int)) = ((max (depthID l) (depthID r) : Nat) : Int) := by split <;> omega
      rw [e, iadd64 (by omega) (by omega)]
      simp only [depthID]
      congr 1
      omega
theorem own_eq : ∀ {N : Nat} {i : Bool} {t : T_id_halves}, nfID i t → depthID t ≤ 16 → depthID t + 1 < N → kinfolklaw07_own N (fromID i t) = some (i, t)
  | 0, i, t, hn, hd, hN => by omega
  | N + 1, i, t, hn, hd, hN => by
    unfold kinfolklaw07_own kinfolklaw07_own_b
    cases t with
    | nil => cases i <;> rfl
    | mk b l b2 r =>
      cases i with
      | true => exact hn.elim
      | false =>
        have hdp := depthID_eq (N := N) (i := false) (t := .mk b l b2 r) (by omega) (by omega)
        simp only [depthID] at hN hd
        have r1 := own_eq (N := N) hn.1 (by omega) (by omega)
        have r2 := own_eq (N := N) hn.2.1 (by omega) (by omega)
        have hp : id_pair b l b2 r = some (false, .mk b l b2 r) := by
          have h3 := hn.2.2
          have h1 := hn.1
          have h2 := hn.2.1
          cases b <;> cases l <;> cases b2 <;> cases r <;> first | rfl | exact h1.elim | exact h2.elim | exact absurd ⟨rfl, rfl, rfl⟩ h3
        simp only [fromID, r1, r2, Option.bind_some, id_Pair, hp, hdp, df (show ¬ (16 : Int) < ((depthID (.mk b l b2 r) : Nat) : Int) by simp only [depthID]; omega), cond_false]
        rfl
end Go.Proofs.Ytjjakdmcnkldoaa
