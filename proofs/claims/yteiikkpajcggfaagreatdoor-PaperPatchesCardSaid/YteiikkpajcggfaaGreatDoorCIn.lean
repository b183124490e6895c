/- What is handed in: fields, rows of them. -/
import Derived.Test.YteiikkpajcggfaaGreatDoorCfg
set_option linter.unusedVariables false
set_option linter.unusedSimpArgs false
namespace Go.Proofs.YteiikkpajcggfaaGreatDoor
open Go.Ev Go.ChangeShapes Go.WideShapes Go.ChangeAt Go.RowKit
section
variable {P : Program} {H : Type} {enc : TypeId × Value → H} {W : World} {base b0 : Nat} {r : Reach} {spare : Nat → Bool} {held : Bool} {a : Option Addr} {len cap : Nat} {d : DataW H} {p : List MemPlace}
theorem field_cells {e : Nat} {f1 f2 f3 : Go.Field} (he : P.underlying e = some (.struct #[f1, f2, f3])) (hu : P.underlying f1.type = some (.int .i64)) (hw : P.underlying f2.type = some .string) (hx : P.underlying f3.type = some .string)
  (ho1 : f1.offset = 0) (ho2 : f2.offset = 1) (ho3 : f3.offset = 2) (hc1 : P.cellsOf f1.type = 1) (hc2 : P.cellsOf f2.type = 1) (hc3 : P.cellsOf f3.type = 1) {n : Nat} {cs : List Value} {y : DataW H × List MemPlace} (hl : cs.length = 3)
  (hd : DataW.trod enc P W b0 spare held n e cs = some y) : ∃ (x : Int) (s t : ByteArray), cs = [.int .i64 x, .string s, .string t] := by
 obtain ⟨xs, m, _, _, hlen, hxs, hall⟩ := DataW.trod_struct he hd
 have g1 := hall 0 f1 rfl
 have g2 := hall 1 f2 rfl
 have g3 := hall 2 f3 rfl
 have hx3 : xs.length = 3 := by rw [hxs]; rfl
 rw [List.getElem?_eq_getElem (by omega), ho1, hc1] at g1
 rw [List.getElem?_eq_getElem (by omega), ho2, hc2] at g2
 rw [List.getElem?_eq_getElem (by omega), ho3, hc3] at g3
 match cs, hl with
 | [c1, c2, c3], _ =>
  obtain ⟨x1, e1, _, w1⟩ := DataW.trod_int hu g1
  obtain ⟨x2, e2, _, _⟩ := DataW.trod_string hw g2
  obtain ⟨x3, e3, _, _⟩ := DataW.trod_string hx g3
  simp at e1 e2 e3
  exact ⟨x1, x2, x3, by rw [e1, e2, e3]⟩
theorem slice_len {t e : Nat} (ht : P.underlying t = some (.slice e)) (h : ∃ fuel, DataW.trod enc P W b0 spare held fuel t (Value.slice a len cap).cells.toList = some (d, p)) : len ≤ maxLen := by
 obtain ⟨fuel, hf⟩ := h
 rcases DataW.trod_slice ht hf with ⟨hcs, _⟩ | ⟨a', len', cap', elems, rest, n, _, hcs, _, _, hl, hm, _⟩
 ·simp [Value.cells] at hcs
  omega
 ·simp [Value.cells] at hcs
  omega
theorem fields_in {t e : Nat} {f1 f2 f3 : Go.Field} (ht : P.underlying t = some (.slice e)) (he : P.underlying e = some (.struct #[f1, f2, f3])) (hu : P.underlying f1.type = some (.int .i64)) (hw : P.underlying f2.type = some .string) (hx : P.underlying f3.type = some .string)
  (ho1 : f1.offset = 0) (ho2 : f2.offset = 1) (ho3 : f3.offset = 2) (hc1 : P.cellsOf f1.type = 1) (hc2 : P.cellsOf f2.type = 1) (hc3 : P.cellsOf f3.type = 1) (hc : P.cellsOf e = 3)
  (h : ∃ fuel, DataW.trod enc P W b0 spare held fuel t (Value.slice a len cap).cells.toList = some (d, p)) : ∃ ls : List E_card_Field, ls.length ≤ 9223372036854775807 ∧ RepA (topCx W) (.one (.pv (.recs 3 (List.map E_card_Field.pv ls) false))) (.slice a len cap) := by
 have hlen := slice_len ht h
 obtain ⟨fuel, hf⟩ := h
 obtain ⟨v, l, h1, h2, h3, h4⟩ := recs_in (good := fun ps => ∃ z : E_card_Field, ps = z.pv) ht hc (by decide) (fun {n cs y} hl hd => by
  obtain ⟨x, s, q, hcs⟩ := field_cells he hu hw hx ho1 ho2 ho3 hc1 hc2 hc3 hl hd
  refine ⟨[.int .i64 x, .str s, .str q], rfl, ⟨.mk x s q, rfl⟩, ?_⟩
  simp only [RepPs, RepP]
  exact ⟨⟨_, by rw [hcs]; rfl, rfl⟩, ⟨_, by rw [hcs]; rfl, rfl⟩, ⟨_, by rw [hcs]; rfl, rfl⟩, trivial⟩) hf
 simp [Value.cells] at h1
 subst h1
 have key : ∀ l : List (List PV), (∀ ps ∈ l, ∃ z : E_card_Field, ps = z.pv) → ∃ ls : List E_card_Field, l = List.map E_card_Field.pv ls := by
  intro l
  induction l with
  | nil => intro _; exact ⟨[], rfl⟩
  | cons q l ih =>
   intro hq
   obtain ⟨z, hz⟩ := hq q (by simp)
   obtain ⟨ls, h5⟩ := ih fun ps hps => hq ps (by simp [hps])
   exact ⟨z :: ls, by simp [hz, h5]⟩
 obtain ⟨ls, h5⟩ := key l h3
 subst h5
 refine ⟨ls, ?_, rfl, h4⟩
 simp only [RepP] at h4
 rcases h4 with ⟨_, h6⟩ | ⟨b, o, cap', sp, h6, _⟩
 ·have : ls.length = 0 := by simpa using h6
  omega
 ·simp only [Value.slice.injEq, List.length_map] at h6
  have : maxLen = 9223372036854775807 := rfl
  omega
theorem intsI_in {t e : Nat} {k : IntKind} (ht : P.underlying t = some (.slice e)) (he : P.underlying e = some (.int k)) (hc : P.cellsOf e = 1)
  (h : ∃ fuel, DataW.trod enc P W b0 spare held fuel t (Value.slice a len cap).cells.toList = some (d, p)) : ∃ l : List Int, (l.length ≤ 9223372036854775807 ∧ ∀ n ∈ l, (Lit.int k n).wf = true) ∧ RepA (topCx W) (.one (.pv (.ints k l false))) (.slice a len cap) := by
 have hlen := slice_len ht h
 obtain ⟨fuel, hf⟩ := h
 obtain ⟨v, l, h1, h2, h3, h4⟩ := ints_in ht he hc hf
 simp [Value.cells] at h1
 subst h1
 refine ⟨l, ⟨?_, h3⟩, rfl, h4⟩
 simp only [RepP] at h4
 rcases h4 with ⟨_, h6⟩ | ⟨b, o, cap', sp, h6, _⟩
 ·have : l.length = 0 := by simpa using h6
  omega
 ·simp only [Value.slice.injEq] at h6
  have : maxLen = 9223372036854775807 := rfl
  omega
end
end Go.Proofs.YteiikkpajcggfaaGreatDoor
