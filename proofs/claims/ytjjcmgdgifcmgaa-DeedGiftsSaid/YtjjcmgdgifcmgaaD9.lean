/- Chapter 15: what is right, and what is made. Plain. -/
import Derived.Test.YtjjcmgdgifcmgaaD8
set_option linter.unusedVariables false
set_option linter.unusedSimpArgs false
namespace Go.Proofs.Ytjjcmgdgifcmgaa
open Go.Ev Go.Lib

theorem right15 (no f t : Int) (i : Bool) (u : Idt) : ∃ b, deed_Gift_Right no f t i u = some b ∧ kinfolkref15_Right no f t (fromI i u) = some b := by
  have e : decide ((1 : Int) ≤ no) = decide ((0 : Int) < no) := by
    simp only [decide_eq_decide]; omega
  unfold deed_Gift_Right kinfolkref15_Right deed_node
  rw [e]
  by_cases h1 : (0 : Int) < no
  case neg => exact ⟨false, by simp only [df h1, cond_false], by simp only [df h1, cond_false]⟩
  by_cases h2 : no < 4611686018427387904
  case neg => exact ⟨false, by simp only [dt h1, df h2, cond_false, cond_true], by simp only [dt h1, df h2, cond_false, cond_true]⟩
  by_cases h3 : 0 ≤ f
  case neg => exact ⟨false, by simp only [dt h1, dt h2, df h3, cond_false, cond_true, Option.bind_some], by simp only [dt h1, dt h2, df h3, cond_false, cond_true]⟩
  by_cases h4 : f < 12
  case neg => exact ⟨false, by simp only [dt h1, dt h2, dt h3, df h4, cond_false, cond_true, Option.bind_some], by simp only [dt h1, dt h2, dt h3, df h4, cond_false, cond_true]⟩
  by_cases h5 : 0 ≤ t
  case neg => exact ⟨false, by simp only [dt h1, dt h2, dt h3, dt h4, df h5, cond_false, cond_true, Option.bind_some], by simp only [dt h1, dt h2, dt h3, dt h4, df h5, cond_false, cond_true]⟩
  by_cases h6 : t < 12
  case neg => exact ⟨false, by simp only [dt h1, dt h2, dt h3, dt h4, dt h5, df h6, cond_false, cond_true, Option.bind_some], by simp only [dt h1, dt h2, dt h3, dt h4, dt h5, df h6, cond_false, cond_true]⟩
  by_cases h7 : f = t
  case pos => exact ⟨false, by simp only [dt h1, dt h2, dt h3, dt h4, dt h5, dt h6, dt h7, cond_false, cond_true, Option.bind_some], by simp only [dt h1, dt h2, dt h3, dt h4, dt h5, dt h6, dt h7, cond_false, cond_true]⟩
  simp only [dt h1, dt h2, dt h3, dt h4, dt h5, dt h6, df h7, cond_false, cond_true, Option.bind_some]
  cases i with
  | true => exact ⟨true, rfl, by simp only [fromI]; rfl⟩
  | false => cases u with
    | nil => exact ⟨false, rfl, rfl⟩
    | mk a b c d => exact ⟨true, rfl, rfl⟩
end Go.Proofs.Ytjjcmgdgifcmgaa
