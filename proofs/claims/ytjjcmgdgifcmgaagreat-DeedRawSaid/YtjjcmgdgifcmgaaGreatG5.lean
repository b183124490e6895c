/- Chapter 15: numbers and gifts read: the program's and the document's. Plain. -/
import Derived.Test.YtjjcmgdgifcmgaaGreatG4
set_option linter.unusedVariables false
set_option linter.unusedSimpArgs false
namespace Go.Proofs.YtjjcmgdgifcmgaaGreat
open Go.Ev Go.Lib
theorem zly {p : List Int} (hb : Bytes p) (hp : p.length ≤ 1000000) {at_ : Nat} (ha : at_ ≤ p.length) (e : Int) :
  ∃ v, ∃ at2 : Nat, ∃ e2, zdY (p.drop at_) e = some (v, p.drop at2, e2) ∧ zdD p at_ e = some (v, (at2 : Int), e2) ∧ at2 ≤ p.length ∧ 0 ≤ v ∧ v < 2147483648 ∧
   (e2 = 0 → e = 0 ∧ ∃ k, W.dec 0 (p.drop at_) = some (v, k) ∧ at2 = at_ + k) := by
 obtain ⟨v, at2, e2, h1, h2, h3, h4, h5, h6⟩ := W.num_spec hb hp ha e
 unfold zdY zdD
 rw [h1, h2]
 simp only [Option.bind_some, W.fail_eq, zic]
 by_cases hv : 2147483648 ≤ v
 ·simp only [dt hv, cond_true]
  by_cases he : e2 = 0
  ·exact ⟨0, at2, 6, by simp [he], by simp [he], h3, by omega, by omega, fun h => absurd h (by decide)⟩
  ·exact ⟨0, at2, e2, by simp [he], by simp [he], h3, by omega, by omega, fun h => absurd h he⟩
 ·have hw : IntKind.i64.wrap v = v := by
   have := W.i64_in (n := v) (by omega) (by omega)
   exact this
  simp only [df hv, cond_false, hw]
  exact ⟨v, at2, e2, rfl, rfl, h3, h4, by omega, h6⟩
end Go.Proofs.YtjjcmgdgifcmgaaGreat
