/- Cards read whole; PaperReads. Plain. -/
import Derived.Test.YteiikkpajcggfaaGreatDoorPT2
set_option linter.unusedVariables false
set_option linter.unusedSimpArgs false
namespace Go.Proofs.YteiikkpajcggfaaGreatDoor
open Go.Ev Go.Lib
theorem end_spec {p : List Int} {at_ : Nat} (ha : at_ ≤ p.length) (e : Int) :
  ∃ e2, wire_In_End (p.drop at_) e = some (e2, e2) ∧ kinfolkref06_End p at_ e = some (e2, e2) ∧ (e2 = 0 → e = 0 ∧ p.drop at_ = []) := by
 unfold wire_In_End kinfolkref06_End
 simp only [W.left_eq, W.fail_eq, W.rfail_eq, W.err_eq, Option.bind_some]
 by_cases h : (at_ : Int) < p.length
 ·have h2 : (0 : Int) < ((p.drop at_).length : Int) := by simp; omega
  refine ⟨if e = 0 then 6 else e, ?_, ?_, fun hh => ?_⟩
  ·simp only [decide_eq_true h2, cond_true]
  ·simp only [decide_eq_true h, cond_true]
  ·split at hh <;> omega
 ·have h2 : ¬ ((0 : Int) < ((p.drop at_).length : Int)) := by simp; omega
  refine ⟨e, ?_, ?_, fun hh => ⟨hh, List.drop_eq_nil_of_le (by omega)⟩⟩
  ·simp only [decide_eq_false h2, cond_false]
  ·simp only [decide_eq_false h, cond_false]
def ann : Fd := E_card_Field.mk 1 (⟨#[]⟩ : ByteArray) (⟨#[65, 110, 110]⟩ : ByteArray)
theorem ann_ok : okF ann = true := by decide +kernel
theorem ann_fit : Fit [ann] := ⟨⟨fun y hy => (by cases hy), trivial⟩, fun x hx => by
 have : x = ann := by simpa using hx
 rw [this]; exact ann_ok, fun x hx => by
 have : x = ann := by simpa using hx
 rw [this]; exact ⟨by decide, by decide⟩⟩
theorem ann_enc : encC [ann] = [1, 1, 0, 3, 65, 110, 110] := by decide +kernel
theorem awake10_go : kinfolklaw10_awake = some true := by
 unfold kinfolklaw10_awake
 have h1 : card_Make [(E_card_Field.mk 1 (⟨#[]⟩ : ByteArray) (⟨#[65, 110, 110]⟩ : ByteArray))] = some ([ann], 0) := make_fit ann_fit (by simp)
 rw [h1]
 simp only [Option.bind_some]
 rw [card_w (by simp) ann_fit.small, ann_enc]
 simp only [Option.bind_some]
 rw [W.same_eq (by simp)]
 simp
end Go.Proofs.YteiikkpajcggfaaGreatDoor
