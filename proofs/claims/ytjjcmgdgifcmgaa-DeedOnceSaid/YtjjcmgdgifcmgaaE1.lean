/- Chapter 15: the ids that are made of bytes. Plain. -/
import Derived.Test.YtjjcmgdgifcmgaaA3
import Derived.Test.YtjjcmgdgifcmgaaQ3
set_option linter.unusedVariables false
set_option linter.unusedSimpArgs false
namespace Go.Proofs.Ytjjcmgdgifcmgaa
open Go.Ev Go.Lib

theorem _root_.Go.Ev.Bytes.drop {l : List Int} (h : Bytes l) (n : Nat) : Bytes (l.drop n) := fun x hx => h x (List.mem_of_mem_drop hx)
theorem _root_.Go.Ev.Bytes.take {l : List Int} (h : Bytes l) (n : Nat) : Bytes (l.take n) := fun x hx => h x (List.mem_of_mem_take hx)
theorem take_drop1 (l : List Int) (k : Nat) : List.take ((l.length : Int) - k).toNat (List.drop k l) = List.drop k l := List.take_of_length_le (by simp)
theorem irem8 {b : Int} {c : Nat} (h : 0 ≤ b) : irem .u8 b (c : Int) = b % c := by rw [irem, Int.tmod_eq_emod_of_nonneg h]
abbrev Idt := T_id_halves
instance decNilI (t : Idt) : Decidable (t = T_id_halves.nil) := match t with
  | .nil => isTrue rfl
  | .mk .. => isFalse (fun h => by cases h)
def zeroI (i : Bool) : Idt → Bool
  | .nil => !i
  | .mk .. => false
def depthI : Idt → Nat
  | .nil => 0
  | .mk _ t _ u => max (depthI t) (depthI u) + 1
def nfI : Bool → Idt → Prop
  | true, .nil => True
  | true, .mk .. => False
  | false, .nil => True
  | false, .mk b l b2 r => nfI b l ∧ nfI b2 r ∧ ¬ (l = .nil ∧ r = .nil ∧ b = b2)
theorem nfI_nil (i : Bool) : nfI i .nil := by cases i <;> trivial
theorem nfI_mk {i b c : Bool} {l r : Idt} (h : nfI i (.mk b l c r)) : i = false ∧ nfI b l ∧ nfI c r ∧ ¬ (l = .nil ∧ r = .nil ∧ b = c) := by
  cases i with
  | true => exact h.elim
  | false => exact ⟨rfl, h⟩
def bits : Nat → Bool → Idt → List Bool
  | 0, i, _ => [i]
  | d + 1, i, .nil => bits d i .nil ++ bits d i .nil
  | d + 1, i, .mk a t b u => bits d a t ++ bits d b u
def pairF (i : Bool) (t : Idt) (j : Bool) (u : Idt) : Bool × Idt := if t = .nil ∧ u = .nil ∧ i = j then (i, .nil) else (false, .mk i t j u)
theorem pair_nf {i j : Bool} {t u : Idt} (h1 : nfI i t) (h2 : nfI j u) : nfI (pairF i t j u).1 (pairF i t j u).2 := by
  unfold pairF
  split
  · exact nfI_nil i
  · rename_i h; exact ⟨h1, h2, h⟩
theorem pair_depth (i j : Bool) (t u : Idt) : depthI (pairF i t j u).2 ≤ max (depthI t) (depthI u) + 1 := by
  unfold pairF
  split
  · simp [depthI]
  · exact Nat.le_refl _
theorem idZero {i : Bool} {t : Idt} : id_ID_IsZero i t = some (zeroI i t) := by cases i <;> cases t <;> rfl
theorem idpair {i j : Bool} {t u : Idt} (h1 : nfI i t) (h2 : nfI j u) : id_pair i t j u = some (pairF i t j u) := by
  unfold id_pair pairF
  simp only [idZero, id_ID_IsOne, id_Zero, id_One, Option.bind_some]
  cases t with
  | nil =>
    cases u with
    | nil => cases i <;> cases j <;> rfl
    | mk => obtain ⟨rfl, -⟩ := nfI_mk h2; cases i <;> simp [zeroI]
  | mk => obtain ⟨rfl, -⟩ := nfI_mk h1; simp [zeroI]
theorem idDepth : ∀ {N : Nat} {i : Bool} {t : Idt}, depthI t < N → depthI t ≤ 100000 → id_ID_Depth N i t = some (depthI t : Int)
  | 0, i, t, hN, h => by omega
  | N + 1, i, t, hN, h => by
    unfold id_ID_Depth id_ID_Depth_b
    cases t with
    | nil => rfl
    | mk b l b2 r =>
      simp only [depthI] at hN h
      simp only [idDepth (N := N) (i := b) (t := l) (by omega) (by omega), idDepth (N := N) (i := b2) (t := r) (by omega) (by omega), Option.bind_some]
      have e : (if (depthI l : Int) < (depthI r : Int) then (depthI r : Int) else (depthI l : Int)) = ((max (depthI l) (depthI r) : Nat) : Int) := by split <;> omega
      rw [e, iadd64 (by omega) (by omega)]
      simp only [depthI]
      congr 1
      omega
def fromI : Bool → Idt → T_kinfolkref01_ID
  | true, _ => .mk 1 .nil .nil
  | false, .nil => .mk 0 .nil .nil
  | false, .mk b l b2 r => .mk 2 (fromI b l) (fromI b2 r)
def kindI (i : Bool) (t : Idt) : Int := if i = true then 1 else if t = .nil then 0 else 2
theorem fromI_kind (i : Bool) (t : Idt) : ∃ x y, fromI i t = .mk (kindI i t) x y := by
  cases i <;> cases t <;> exact ⟨_, _, rfl⟩
theorem pair_keep {i a b : Bool} {t u : Idt} (h : nfI i (.mk a t b u)) : pairF a t b u = (i, .mk a t b u) := by
  obtain ⟨rfl, -, -, h3⟩ := nfI_mk h
  rw [pairF, if_neg h3]
theorem rpair {i j : Bool} {t u : Idt} (h1 : nfI i t) (h2 : nfI j u) : kinfolkref01_Pair (fromI i t) (fromI j u) = some (fromI (pairF i t j u).1 (pairF i t j u).2) := by
  unfold kinfolkref01_Pair pairF
  cases t with
  | nil =>
    cases u with
    | nil => cases i <;> cases j <;> rfl
    | mk => obtain ⟨rfl, -⟩ := nfI_mk h2; cases i <;> rfl
  | mk =>
    obtain ⟨rfl, -⟩ := nfI_mk h1
    cases u with
    | nil => cases j <;> rfl
    | mk => obtain ⟨rfl, -⟩ := nfI_mk h2; rfl
theorem rmakeID : ∀ {N most : Nat} {p : List Int}, most < N → most ≤ 1000 → Bytes p → ∃ i t rest, kinfolkref01_Make N p (most : Int) = some (fromI i t, rest) ∧ nfI i t ∧ depthI t ≤ most ∧ Bytes rest
  | 0, most, p, hN, hm, h => by omega
  | N + 1, most, p, hN, hm, h => by
    unfold kinfolkref01_Make kinfolkref01_Make_b
    by_cases h0 : (p.length : Int) = 0
    · rw [dt h0]
      exact ⟨false, .nil, [], rfl, trivial, Nat.zero_le _, fun x hx => by simp at hx⟩
    · have hl : 0 < p.length := by omega
      have hb := h.at hl
      have leaf : ∀ q : List Int, Bytes q → ∃ i t rest, some (T_kinfolkref01_ID.mk (IntKind.i64.wrap (irem .u8 (p.getD 0 0) 2)) T_kinfolkref01_ID.nil T_kinfolkref01_ID.nil, q) = some (fromI i t, rest) ∧ nfI i t ∧ depthI t ≤ most ∧ Bytes rest := by
        intro q hq
        have e : IntKind.i64.wrap (irem .u8 (p.getD 0 0) 2) = p.getD 0 0 % 2 := by
          rw [show (2 : Int) = ((2 : Nat) : Int) from rfl, irem8 hb.1, i64_in (by omega) (by omega)]
        rw [e]
        rcases Int.emod_two_eq (p.getD 0 0) with h2 | h2
        · exact ⟨false, .nil, q, by rw [h2]; rfl, trivial, Nat.zero_le _, hq⟩
        · exact ⟨true, .nil, q, by rw [h2]; rfl, trivial, Nat.zero_le _, hq⟩
      have ht := take_drop1 p 1
      have ht' : List.take ((p.length : Int) - 1).toNat (List.drop 1 p) = List.drop 1 p := ht
      have hd := h.drop 1
      simp only [df h0, cond_false, ht', dt (show (0 : Int) < p.length by omega), dt (show (1 : Int) ≤ p.length by omega), dt (Int.le_refl (0 : Int)), dt (show (0 : Int) ≤ 1 by omega), dt (Int.le_refl (p.length : Int)), dt (show (p.length : Int) = p.length from rfl), Bool.and_self, cond_true]
      by_cases hm0 : (most : Int) = 0
      · rw [dt hm0, cond_true]; exact leaf _ hd
      · rw [df hm0, cond_false]
        by_cases h4 : irem .u8 (p.getD 0 0) 4 < 2
        · rw [dt h4, cond_true]; exact leaf _ hd
        · rw [df h4, cond_false]
          obtain ⟨m, rfl⟩ : ∃ m, most = m + 1 := ⟨most - 1, by omega⟩
          have em : isub .i64 ((m + 1 : Nat) : Int) 1 = (m : Int) := by rw [isub64 (by omega) (by omega)]; omega
          rw [em]
          obtain ⟨i, t, r1, q1, q2, q3, q4⟩ := rmakeID (N := N) (most := m) (by omega) (by omega) hd
          obtain ⟨j, u, r2, q5, q6, q7, q8⟩ := rmakeID (N := N) (most := m) (by omega) (by omega) q4
          rw [q1]
          simp only [Option.bind_some]
          rw [q5]
          simp only [Option.bind_some]
          rw [rpair q2 q6]
          refine ⟨_, _, r2, rfl, pair_nf q2 q6, ?_, q8⟩
          have := pair_depth i j t u
          omega
theorem ownI_eq : ∀ {N : Nat} {i : Bool} {t : Idt}, nfI i t → depthI t ≤ 16 → depthI t + 1 < N → kinfolklaw15_own N (fromI i t) = some (i, t)
  | 0, i, t, hn, hd, hN => by omega
  | N + 1, i, t, hn, hd, hN => by
    unfold kinfolklaw15_own kinfolklaw15_own_b
    cases t with
    | nil => cases i <;> rfl
    | mk b l b2 r =>
      have hk := pair_keep hn
      have hdp := idDepth (N := N) (i := i) (t := .mk b l b2 r) (by omega) (by omega)
      obtain ⟨rfl, n1, n2, n3⟩ := nfI_mk hn
      simp only [depthI] at hN hd
      have r1 := ownI_eq (N := N) n1 (by omega) (by omega)
      have r2 := ownI_eq (N := N) n2 (by omega) (by omega)
      have e2 : decide ((2 : Int) = 0) = false := rfl
      have e3 : decide ((2 : Int) = 1) = false := rfl
      simp only [fromI, r1, r2, Option.bind_some, id_Pair, idpair n1 n2, hk, hdp, df (show ¬ (16 : Int) < ((depthI (.mk b l b2 r) : Nat) : Int) by simp only [depthI]; omega), cond_false, e2, e3]
end Go.Proofs.Ytjjcmgdgifcmgaa
