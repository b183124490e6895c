/- Nothing is left but padding: both readers. Plain. -/
import Derived.Test.YtjjakdmcnkldoaaDoorCR14
set_option linter.unusedVariables false
set_option linter.unusedSimpArgs false
namespace Go.Proofs.YtjjakdmcnkldoaaDoor
open Go.Ev Go.Lib

def endR (r : List Bool) : Int := if 8 ≤ r.length ∨ true ∈ r then 6 else 0
theorem valB_zero : ∀ {r : List Bool}, valB r = 0 ↔ ¬ true ∈ r
  | [] => by simp [valB]
  | b :: l => by
    have ih := valB_zero (r := l)
    have := Nat.two_pow_pos l.length
    cases b with
    | true => simp only [valB, if_true, List.mem_cons, true_or, not_true, iff_false]; omega
    | false => simp [valB, ih]
theorem endProg {p : List Int} {n : Nat} {r : List Bool} (hb : Bytes p) (hp : p.length ≤ 100000) (h : Rem p n r) : ∃ x, bits_Reader_End p (n : Int) 0 = some (endR r, x) := by
  have ha := h.all
  have e1 : isub .i64 (imul .i64 8 (p.length : Int)) (n : Int) = (r.length : Int) := by
    rw [imul64 (by omega) (by omega), isub64 (by omega) (by omega)]; omega
  unfold bits_Reader_End bits_Reader_Err bits_Reader_Left
  simp only [Option.bind_some, decide_true, cond_true, e1]
  by_cases h8 : 8 ≤ r.length
  · rw [dt (show (8 : Int) ≤ (r.length : Int) by omega)]
    exact ⟨6, by simp [endR, h8, bits_Reader_fail]⟩
  · rw [df (show ¬ (8 : Int) ≤ (r.length : Int) by omega)]
    have hg := rem_get (k := r.length) hb hp (by omega) h (Nat.le_refl _)
    simp only [cond_false, hg, Option.bind_some, List.take_length]
    by_cases hz : valB r = 0
    · have := valB_zero.1 hz
      exact ⟨0, by simp [endR, h8, this, hz]⟩
    · have ht : true ∈ r := by
        rcases Classical.em (true ∈ r) with q | q
        · exact q
        · exact absurd (valB_zero.2 q) hz
      rw [df (show ¬ ((valB r : Nat) : Int) = 0 by omega)]
      exact ⟨6, by simp [endR, ht, bits_Reader_fail]⟩
theorem end_go {l : List Bool} {n : Int} {l2 : List Bool} (hl : l.length ≤ 1000000) (hn : n = (l.length : Int)) : ∀ (m j : Nat) (e : Int), j + m = l.length → (e = 0 ∨ e = 6) →
    runL (kinfolkref05_End_L0_2_step l n l2) ((j : Int), e) = some (if e = 6 ∨ true ∈ l.drop j then 6 else 0)
  | 0, j, e, hj, he => by
    subst hn
    have hd : l.drop j = [] := List.drop_of_length_le (by omega)
    rw [hd]
    refine runL_done ?_
    simp only [kinfolkref05_End_L0_2_step, df (show ¬ (j : Int) < (l.length : Int) by omega), cond_false]
    rcases he with rfl | rfl <;> simp
  | m + 1, j, e, hj, he => by
    subst hn
    have hlt : j < l.length := by omega
    have hd : l.drop j = l[j] :: l.drop (j + 1) := List.drop_eq_getElem_cons hlt
    have hg : l.getD j false = l[j] := by simp [List.getD, hlt]
    have hadd : iadd .i64 (j : Int) 1 = ((j + 1 : Nat) : Int) := by rw [iadd64 (by omega) (by omega)]; omega
    rw [runL_next (s' := (((j + 1 : Nat) : Int), if l[j] = true then 6 else e))]
    · rw [end_go hl rfl m (j + 1) _ (by omega) (by split <;> simp [he]), hd]
      cases l[j] <;> simp
    · simp only [kinfolkref05_End_L0_2_step, dt (show (j : Int) < (l.length : Int) by omega), dt (show (0 : Int) ≤ (j : Int) by omega), Bool.and_self, cond_true, Int.toNat_natCast, hg, hadd]
      cases l[j] <;> rfl
theorem end0_go {l : List Bool} {n : Int} {l2 : List Bool} (hl : l.length ≤ 1000000) (hn : n = (l.length : Int)) : ∀ (m j : Nat), j + m = l.length → runL (kinfolkref05_End_L0_step l n l2) (j : Int) = some ()
  | 0, j, hj => by
    subst hn
    refine runL_done ?_
    simp only [kinfolkref05_End_L0_step, df (show ¬ (j : Int) < (l.length : Int) by omega), cond_false]
  | m + 1, j, hj => by
    subst hn
    have hadd : iadd .i64 (j : Int) 1 = ((j + 1 : Nat) : Int) := by rw [iadd64 (by omega) (by omega)]; omega
    rw [runL_next (s' := ((j + 1 : Nat) : Int))]
    · exact end0_go hl rfl m (j + 1) (by omega)
    · simp only [kinfolkref05_End_L0_step, dt (show (j : Int) < (l.length : Int) by omega), dt (show (0 : Int) ≤ (j : Int) by omega), Bool.and_self, cond_true, Int.toNat_natCast, hadd]
      cases l.getD j false <;> rfl
theorem rEnd {r : List Bool} (hl : r.length ≤ 1000000) : ∃ x, kinfolkref05_End r 0 = some (endR r, x) := by
  unfold kinfolkref05_End
  by_cases h8 : 8 ≤ r.length
  · have h := end0_go (l2 := r) hl rfl r.length 0 (by omega)
    have h' : runL (kinfolkref05_End_L0_step r (r.length : Int) r) 0 = some () := h
    exact ⟨6, by simp only [decide_true, cond_true, dt (show (8 : Int) ≤ (r.length : Int) by omega), h', Option.bind_some]; simp [endR, h8]⟩
  · have h := end_go (l2 := r) hl rfl r.length 0 0 (by omega) (.inl rfl)
    have h' : runL (kinfolkref05_End_L0_2_step r (r.length : Int) r) (0, 0) = _ := h
    refine ⟨endR r, ?_⟩
    simp only [decide_true, cond_true, df (show ¬ (8 : Int) ≤ (r.length : Int) by omega), cond_false, h', Option.bind_some]
    simp [endR, h8]
end Go.Proofs.YtjjakdmcnkldoaaDoor
