/- What reads is what is written: numbers. Plain. -/
import Derived.Test.YtjjakdmcnkldoaaDoorCR18
set_option linter.unusedVariables false
set_option linter.unusedSimpArgs false
namespace Go.Proofs.YtjjakdmcnkldoaaDoor
open Go.Ev Go.Lib

theorem val_take {b : Nat} {l : List Bool} (h : ¬ l.length < b) : bitsN b (valB (l.take b)) ++ l.drop b = l := by
  have hlen : (l.take b).length = b := by rw [List.length_take]; omega
  have h1 := bitsN_val (l.take b)
  rw [hlen] at h1
  rw [h1, List.take_append_drop]
theorem val_lt {b : Nat} {l : List Bool} : valB (l.take b) < 2 ^ b := by
  have h1 := valB_lt (l.take b)
  have h2 : 2 ^ (l.take b).length ≤ 2 ^ b := Nat.pow_le_pow_right (by decide) (by rw [List.length_take]; omega)
  omega
theorem goL_enc : ∀ {f b base : Nat} {l : List Bool} {v : Nat} {r : List Bool}, goL f b base l = some (v, r) → base ≤ v ∧ l = encGo f b (v - base) ++ r
  | f, b, base, [], v, r, h => by cases f <;> cases h
  | 0, b, base, c :: l, v, r, h => by
    simp only [goL] at h
    split at h
    · cases h
    · rename_i hc
      cases h
      have c1 : c = false := by cases c with | false => rfl | true => exact absurd (.inl rfl) hc
      have c2 : ¬ l.length < b := fun q => hc (.inr (.inl q))
      refine ⟨by omega, ?_⟩
      rw [show base + valB (l.take b) - base = valB (l.take b) by omega]
      simp only [encGo, List.cons_append, val_take c2, c1]
  | f + 1, b, base, c :: l, v, r, h => by
    simp only [goL] at h
    split at h
    · rename_i hc
      obtain ⟨h1, h2⟩ := goL_enc h
      have hpos := Nat.two_pow_pos b
      refine ⟨by omega, ?_⟩
      simp only [encGo]
      rw [if_pos (show 2 ^ b ≤ v - base by omega), show v - base - 2 ^ b = v - (base + 2 ^ b) by omega, List.cons_append, ← h2, hc]
    · rename_i hc
      split at h
      · cases h
      · rename_i hd
        cases h
        have c1 : c = false := by cases c with | false => rfl | true => exact absurd rfl hc
        have c2 : ¬ l.length < b := fun q => hd (.inl q)
        have := val_lt (b := b) (l := l)
        refine ⟨by omega, ?_⟩
        rw [show base + valB (l.take b) - base = valB (l.take b) by omega]
        simp only [encGo]
        rw [if_neg (by omega), List.cons_append, val_take c2, c1]
theorem numL_enc {l : List Bool} {v : Nat} {r : List Bool} (h : numL l = some (v, r)) : l = encNum v ++ r := (goL_enc h).2
end Go.Proofs.YtjjakdmcnkldoaaDoor
