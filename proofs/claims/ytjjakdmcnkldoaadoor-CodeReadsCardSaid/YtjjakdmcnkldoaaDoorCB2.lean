/- What is written: ids, trees. Plain. -/
import Derived.Test.YtjjakdmcnkldoaaDoorCA
import Derived.Test.YtjjakdmcnkldoaaDoorCB1
set_option linter.unusedVariables false
set_option linter.unusedSimpArgs false
namespace Go.Proofs.YtjjakdmcnkldoaaDoor
open Go.Ev

def zeroID (i : Bool) (t : T_id_halves) : Bool := match i, t with
  | false, .nil => true
  | _, _ => false
theorem isZero_eq (i : Bool) (t : T_id_halves) : id_ID_IsZero i t = some (zeroID i t) := by
  cases i <;> cases t <;> rfl
def encID : Bool → T_id_halves → List Bool
  | true, _ => bitsN 2 0 ++ bitsN 1 1
  | false, .nil => bitsN 2 0 ++ bitsN 1 0
  | false, .mk b l b2 r => if zeroID b l then bitsN 2 1 ++ encID b2 r else if zeroID b2 r then bitsN 2 2 ++ encID b l else bitsN 2 3 ++ (encID b l ++ encID b2 r)
def depthID : T_id_halves → Nat
  | .nil => 0
  | .mk _ l _ r => max (depthID l) (depthID r) + 1
theorem putID_go : ∀ {N : Nat} {i : Bool} {t : T_id_halves} {l : List Int} {B : List Bool}, depthID t < N → B.length + (encID i t).length ≤ 900000 → Pk l B →
    ∃ l', code_PutID_2 N i t (B.length : Int) l = some (((B ++ encID i t).length : Int), l') ∧ Pk l' (B ++ encID i t)
  | 0, i, t, l, B, hN, hB, h => by omega
  | N + 1, i, t, l, B, hN, hB, h => by
    -- two bits, whatever they are
    have two : ∀ (v k : Nat) {l : List Int} {B : List Bool}, v < 4 → k ≤ 2 → B.length ≤ 900000 → Pk l B → ∃ l', bits_Writer_Put_2 (v : Int) (k : Int) (B.length : Int) l = some (((B ++ bitsN k v).length : Int), l') ∧ Pk l' (B ++ bitsN k v) := by
      intro v k l B hv hk hB h
      obtain ⟨l', h1, h2⟩ := put_eq (v := v) (k := k) (Nat.lt_trans hv (by decide)) (by omega) (B := B) (by omega) h
      exact ⟨l', by rw [h1, List.length_append, bitsN_len], h2⟩
    unfold code_PutID_2 code_PutID_2_b id_ID_IsOne
    cases t with
    | nil =>
      cases i with
      | true =>
        simp only [encID, List.length_append, bitsN_len] at hB
        obtain ⟨l1, h1, p1⟩ := two 0 2 (by decide) (by decide) (by omega) h
        obtain ⟨l2, h2, p2⟩ := two 1 1 (by decide) (by decide) (by simp [bitsN_len]; omega) p1
        simp only [encID]
        rw [← List.append_assoc]
        refine ⟨l2, ?_, p2⟩
        simp only [id_ID_Left, id_ID_Right, isZero_eq, zeroID, Option.bind_some, cond_true, cond_false]
        rw [show (0 : Int) = ((0 : Nat) : Int) from rfl, show (2 : Int) = ((2 : Nat) : Int) from rfl, show (1 : Int) = ((1 : Nat) : Int) from rfl, h1]
        simp only [Option.bind_some]
        rw [h2]
        rfl
      | false =>
        simp only [encID, List.length_append, bitsN_len] at hB
        obtain ⟨l1, h1, p1⟩ := two 0 2 (by decide) (by decide) (by omega) h
        obtain ⟨l2, h2, p2⟩ := two 0 1 (by decide) (by decide) (by simp [bitsN_len]; omega) p1
        simp only [encID]
        rw [← List.append_assoc]
        refine ⟨l2, ?_, p2⟩
        simp only [id_ID_Left, id_ID_Right, isZero_eq, zeroID, Option.bind_some, cond_true, cond_false]
        rw [show (0 : Int) = ((0 : Nat) : Int) from rfl, show (2 : Int) = ((2 : Nat) : Int) from rfl, show (1 : Int) = ((1 : Nat) : Int) from rfl, h1]
        simp only [Option.bind_some]
        rw [h2]
        rfl
    | mk b t1 b2 t2 =>
      cases i with
      | true =>
        simp only [encID, List.length_append, bitsN_len] at hB
        obtain ⟨l1, h1, p1⟩ := two 0 2 (by decide) (by decide) (by omega) h
        obtain ⟨l2, h2, p2⟩ := two 1 1 (by decide) (by decide) (by simp [bitsN_len]; omega) p1
        simp only [encID]
        rw [← List.append_assoc]
        refine ⟨l2, ?_, p2⟩
        simp only [id_ID_Left, id_ID_Right, isZero_eq, zeroID, Option.bind_some, cond_true, cond_false]
        rw [show (0 : Int) = ((0 : Nat) : Int) from rfl, show (2 : Int) = ((2 : Nat) : Int) from rfl, show (1 : Int) = ((1 : Nat) : Int) from rfl, h1]
        simp only [Option.bind_some]
        rw [h2]
        rfl
      | false =>
        simp only [depthID] at hN
        simp only [id_ID_Left, id_ID_Right, isZero_eq, Option.bind_some, show zeroID false (T_id_halves.mk b t1 b2 t2) = false from rfl, cond_false]
        simp only [encID] at hB ⊢
        cases hz : zeroID b t1 with
        | true =>
          simp only [hz, if_true, List.length_append, bitsN_len] at hB
          obtain ⟨l1, h1, p1⟩ := two 1 2 (by decide) (by decide) (by omega) h
          obtain ⟨l2, h2, p2⟩ := putID_go (N := N) (i := b2) (t := t2) (by omega) (by simp [bitsN_len]; omega) p1
          simp only [if_true, cond_true]
          rw [← List.append_assoc]
          refine ⟨l2, ?_, p2⟩
          have h1' : bits_Writer_Put_2 1 2 (B.length : Int) l = _ := h1
          rw [h1']
          simp only [Option.bind_some]
          rw [h2]
          rfl
        | false =>
          cases hz2 : zeroID b2 t2 with
          | true =>
            simp only [hz, hz2, if_true, if_false, Bool.false_eq_true, List.length_append, bitsN_len] at hB
            obtain ⟨l1, h1, p1⟩ := two 2 2 (by decide) (by decide) (by omega) h
            obtain ⟨l2, h2, p2⟩ := putID_go (N := N) (i := b) (t := t1) (by omega) (by simp [bitsN_len]; omega) p1
            simp only [if_true, if_false, Bool.false_eq_true, cond_true, cond_false]
            rw [← List.append_assoc]
            refine ⟨l2, ?_, p2⟩
            have h1' : bits_Writer_Put_2 2 2 (B.length : Int) l = _ := h1
            rw [h1']
            simp only [Option.bind_some]
            rw [h2]
            rfl
          | false =>
            simp only [hz, hz2, if_false, Bool.false_eq_true, List.length_append, bitsN_len] at hB
            obtain ⟨l1, h1, p1⟩ := two 3 2 (by decide) (by decide) (by omega) h
            obtain ⟨l2, h2, p2⟩ := putID_go (N := N) (i := b) (t := t1) (by omega) (by simp [bitsN_len]; omega) p1
            obtain ⟨l3, h3, p3⟩ := putID_go (N := N) (i := b2) (t := t2) (by omega) (by simp [bitsN_len]; omega) p2
            simp only [if_false, Bool.false_eq_true, cond_false]
            rw [← List.append_assoc, ← List.append_assoc]
            refine ⟨l3, ?_, p3⟩
            have h1' : bits_Writer_Put_2 3 2 (B.length : Int) l = _ := h1
            rw [h1']
            simp only [Option.bind_some]
            rw [h2]
            simp only [Option.bind_some]
            rw [h3]
            rfl
end Go.Proofs.YtjjakdmcnkldoaaDoor
