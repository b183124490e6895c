/- What is handed in: fields, rows of them. -/
import Derived.Test.YteiikkpajcggfaaGreatDoorCfg
set_option linter.unusedVariables false
set_option linter.unusedSimpArgs false
namespace Go.Proofs.YteiikkpajcggfaaGreatDoor
open Go.Ev Go.ChangeShapes Go.WideShapes Go.ChangeAt Go.RowKit
section
variable {P : Program} {H : Type} {enc : TypeId × Value → H} {W : World} {base b0 : Nat} {r : Reach} {spare : Nat → Bool} {held : Bool} {a : Option Addr} {len cap : Nat} {d : DataW H} {p : List MemPlace}
theorem slice_len {t e : Nat} (ht : P.underlying t = some (.slice e)) (h : ∃ fuel, DataW.trod enc P W b0 spare held fuel t (Value.slice a len cap).cells.toList = some (d, p)) : len ≤ maxLen := by
 obtain ⟨fuel, hf⟩ := h
 rcases DataW.trod_slice ht hf with ⟨hcs, _⟩ | ⟨a', len', cap', elems, rest, n, _, hcs, _, _, hl, hm, _⟩
 ·simp [Value.cells] at hcs
  omega
 ·simp [Value.cells] at hcs
  omega
theorem intsI_in {t e : Nat} {k : IntKind} (ht : P.underlying t = some (.slice e)) (he : P.underlying e = some (.int k)) (hc : P.cellsOf e = 1)
  (h : ∃ fuel, DataW.trod enc P W b0 spare held fuel t (Value.slice a len cap).cells.toList = some (d, p)) : ∃ l : List Int, (l.length ≤ 9223372036854775807 ∧ ∀ n ∈ l, (Lit.int k n).wf = true) ∧ RepA (topCx W) (.one (.pv (.ints k l false))) (.slice a len cap) := by
 have hlen := slice_len ht h
 obtain ⟨fuel, hf⟩ := h
 obtain ⟨v, l, h1, h2, h3, h4⟩ := ints_in ht he hc hf
 simp [Value.cells] at h1
 subst h1
 refine ⟨l, ⟨?_, h3⟩, rfl, h4⟩
 simp only [RepP] at h4
 rcases h4 with ⟨_, h6⟩ | ⟨b, o, cap', sp, h6, _⟩
 ·have : l.length = 0 := by simpa using h6
  omega
 ·simp only [Value.slice.injEq] at h6
  have : maxLen = 9223372036854775807 := rfl
  omega
end
end Go.Proofs.YteiikkpajcggfaaGreatDoor
