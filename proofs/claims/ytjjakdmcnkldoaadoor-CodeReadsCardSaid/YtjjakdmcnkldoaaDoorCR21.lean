/- What reads is what is written: histories. Plain. -/
import Derived.Test.YtjjakdmcnkldoaaDoorCR19
set_option linter.unusedVariables false
set_option linter.unusedSimpArgs false
namespace Go.Proofs.YtjjakdmcnkldoaaDoor
open Go.Ev Go.Lib

def headB (x y : Bool) (base : Int) : List Bool :=
  (if base = 0 then (if x = false then bitsN 2 0 else if y = false then bitsN 2 1 else bitsN 2 2) else (if x = false then bitsN 2 3 ++ bitsN 2 0 else if y = false then bitsN 2 3 ++ bitsN 2 1 else bitsN 2 3 ++ bitsN 1 1)) ++ (if 0 < base then encNum base.toNat else [])
theorem baseL_enc {x y x' y' : Bool} {l r : List Bool} {b : Int} (h : baseL x y l = .inl (x', y', b, r)) : x' = x ∧ y' = y ∧ 0 < b ∧ l = encNum b.toNat ++ r := by
  unfold baseL at h
  split at h
  · cases h
  · rename_i v r1 hn
    split at h
    · cases h
    · split at h
      · cases h
      · rename_i h1 h2
        cases h
        exact ⟨rfl, rfl, by omega, by rw [Int.toNat_natCast]; exact numL_enc hn⟩
theorem headE_enc {L r : List Bool} {x y : Bool} {b : Int} (h : headE L = .inl (x, y, b, r)) : L = headB x y b ++ r := by
  match L, h with
  | false :: false :: l, h => cases h; rfl
  | false :: true :: l, h => cases h; rfl
  | true :: false :: l, h => cases h; rfl
  | true :: true :: true :: l, h =>
    obtain ⟨rfl, rfl, h1, h2⟩ := baseL_enc h
    unfold headB
    rw [if_neg (show ¬ b = 0 by omega), if_pos h1, List.append_assoc, ← h2]
    rfl
  | true :: true :: false :: c :: l, h =>
    obtain ⟨rfl, rfl, h1, h2⟩ := baseL_enc h
    unfold headB
    rw [if_neg (show ¬ b = 0 by omega), if_pos h1, List.append_assoc, ← h2]
    cases x <;> rfl
  | [], h => cases h
  | [a], h => cases a <;> cases h
  | [true, true], h => cases h
  | [true, true, false], h => cases h
theorem decE_enc : ∀ {k : Nat} {L : List Bool} {e : Int} {t : Tr} {r : List Bool}, decE k L = .inl (e, t, r) → L = encEv e t ++ r := by
  have leaf : ∀ {l : List Bool} {e : Int} {t : Tr} {r : List Bool}, leafD l = .inl (e, t, r) → true :: l = encEv e t ++ r := by
    intro l e t r h
    unfold leafD at h
    split at h
    · cases h
    · rename_i v r1 hn
      split at h
      · cases h
      · cases h
        simp only [encEv, Int.toNat_natCast]
        rw [List.append_assoc, ← numL_enc hn]
        rfl
  intro k
  induction k with
  | zero =>
    intro L e t r h
    match L, h with
    | [], h => cases h
    | true :: l, h => exact leaf h
    | false :: l, h => cases h
  | succ k ih =>
    intro L e t r h
    match L, h with
    | [], h => cases h
    | true :: l, h => exact leaf h
    | false :: l, h =>
      have h' : (match headE l with | .inr e => (.inr e : RE) | .inl (x, y, base, l1) => nodeD (decE k) x y base l1) = .inl (e, t, r) := h
      split at h'
      · cases h'
      · rename_i x y base l1 hh
        have hd := headE_enc hh
        unfold nodeD at h'
        split at h'
        · cases h'
        · rename_i a u l2 h1
          split at h'
          · cases h'
          · rename_i b w l3 h2
            split at h'
            · cases h'
            · rename_i hc
              split at h'
              · cases h'
              · cases h'
                have c1 : ¬ zeroEv a u = x := fun q => hc (.inl q)
                have c2 : ¬ zeroEv b w = y := fun q => hc (.inr (.inl q))
                have z1 : zeroEv a u = !x := by cases hz : zeroEv a u <;> cases x <;> simp_all
                have z2 : zeroEv b w = !y := by cases hz : zeroEv b w <;> cases y <;> simp_all
                have e1 : l1 = (if zeroEv a u then [] else encEv a u) ++ l2 := by
                  rw [z1]
                  cases x with
                  | false => simp only [if_true] at h1; cases h1; rfl
                  | true => simp only [Bool.true_eq_false, if_false] at h1; exact ih h1
                have e2 : l2 = (if zeroEv b w then [] else encEv b w) ++ r := by
                  rw [z2]
                  cases y with
                  | false => simp only [if_true] at h2; cases h2; rfl
                  | true => simp only [Bool.true_eq_false, if_false] at h2; exact ih h2
                rw [hd, e1, e2]
                simp only [encEv, headB, z1, z2, List.append_assoc]
                cases x <;> cases y <;> simp [bitsN]
end Go.Proofs.YtjjakdmcnkldoaaDoor
