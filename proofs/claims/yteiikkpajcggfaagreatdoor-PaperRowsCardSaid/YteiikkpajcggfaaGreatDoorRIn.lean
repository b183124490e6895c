/- Rows of rows of fields, handed in. -/
import Derived.Test.YteiikkpajcggfaaGreatDoorCIn
set_option linter.unusedVariables false
set_option linter.unusedSimpArgs false
namespace Go.Proofs.YteiikkpajcggfaaGreatDoor
open Go.Ev Go.ChangeShapes Go.WideShapes Go.ChangeAt Go.RowKit
section
variable {P : Program} {H : Type} {enc : TypeId × Value → H} {W : World} {base b0 : Nat} {r : Reach} {spare : Nat → Bool} {held : Bool} {a : Option Addr} {len cap : Nat} {d : DataW H} {p : List MemPlace}
theorem inner_len {e e2 : Nat} {n : Nat} {cs : List Value} {y : DataW H × List MemPlace} {l : List (List PV)} {v : Value} {sz : Nat} (he : P.underlying e = some (.slice e2)) (hd : DataW.trod enc P W b0 spare held n e cs = some y) (hcs : cs = [v]) (h4 : RepP W (topCx W).okP (topCx W).okP (.recs sz l false) v) : l.length ≤ 9223372036854775807 := by
  simp only [RepP] at h4
  rcases h4 with ⟨_, h6⟩ | ⟨b, o, cap', sp, h6, _⟩
  · have : l.length = 0 := by simpa using h6
    omega
  · subst h6
    subst hcs
    rcases DataW.trod_slice he hd with ⟨h1, _⟩ | ⟨a', len', cap', elems, rest, n, _, h1, _, _, hl, hm, _⟩
    · simp at h1
    · simp at h1
      have : maxLen = 9223372036854775807 := rfl
      omega
theorem rowsF_in {t e e2 : Nat} {f1 f2 f3 : Go.Field} (ht : P.underlying t = some (.slice e)) (he : P.underlying e = some (.slice e2)) (he2 : P.underlying e2 = some (.struct #[f1, f2, f3])) (hu : P.underlying f1.type = some (.int .i64)) (hw : P.underlying f2.type = some .string) (hx : P.underlying f3.type = some .string)
    (ho1 : f1.offset = 0) (ho2 : f2.offset = 1) (ho3 : f3.offset = 2) (hc1 : P.cellsOf f1.type = 1) (hc2 : P.cellsOf f2.type = 1) (hc3 : P.cellsOf f3.type = 1) (hc : P.cellsOf e2 = 3) (hcE : P.cellsOf e = 1)
    (h : ∃ fuel, DataW.trod enc P W b0 spare held fuel t (Value.slice a len cap).cells.toList = some (d, p)) : ∃ ls : List E_L_card_Field, (∀ z ∈ ls, match z with | .mk l => l.length ≤ 9223372036854775807) ∧ RepA (topCx W) (.one (.pv (.recs 1 (List.map E_L_card_Field.pv ls) false))) (.slice a len cap) := by
  obtain ⟨fuel, hf⟩ := h
  have key : ∀ l : List (List PV), (∀ ps ∈ l, ∃ z : E_card_Field, ps = z.pv) → ∃ ls : List E_card_Field, l = List.map E_card_Field.pv ls := by
    intro l
    induction l with
    | nil => intro _; exact ⟨[], rfl⟩
    | cons q l ih =>
      intro hq
      obtain ⟨z, hz⟩ := hq q (by simp)
      obtain ⟨ls, h5⟩ := ih fun ps hps => hq ps (by simp [hps])
      exact ⟨z :: ls, by simp [hz, h5]⟩
  obtain ⟨v, l, h1, h2, h3, h4⟩ := recs_in (good := fun ps => ∃ z : E_L_card_Field, ps = z.pv ∧ match z with | .mk l => l.length ≤ 9223372036854775807) ht hcE (by decide) (fun {n cs y} hl hd => by
    obtain ⟨v, l, g1, g2, g3, g4⟩ := recs_in (good := fun ps => ∃ z : E_card_Field, ps = z.pv) he hc (by decide) (fun {n cs y} hl hd => by
      obtain ⟨x, s, q, hcs⟩ := field_cells he2 hu hw hx ho1 ho2 ho3 hc1 hc2 hc3 hl hd
      refine ⟨[.int .i64 x, .str s, .str q], rfl, ⟨.mk x s q, rfl⟩, ?_⟩
      simp only [RepPs, RepP]
      exact ⟨⟨_, by rw [hcs]; rfl, rfl⟩, ⟨_, by rw [hcs]; rfl, rfl⟩, ⟨_, by rw [hcs]; rfl, rfl⟩, trivial⟩) hd
    have hlen := inner_len he hd g1 g4
    obtain ⟨ls, rfl⟩ := key l g3
    refine ⟨[.recs 3 (List.map E_card_Field.pv ls) false], rfl, ⟨.mk ls, rfl, by simpa using hlen⟩, ?_⟩
    simp only [RepPs]
    exact ⟨⟨v, by rw [g1]; rfl, g4⟩, trivial⟩) hf
  simp [Value.cells] at h1
  subst h1
  have key2 : ∀ l : List (List PV), (∀ ps ∈ l, ∃ z : E_L_card_Field, ps = z.pv ∧ match z with | .mk l => l.length ≤ 9223372036854775807) → ∃ ls : List E_L_card_Field, l = List.map E_L_card_Field.pv ls ∧ ∀ z ∈ ls, match z with | .mk l => l.length ≤ 9223372036854775807 := by
    intro l
    induction l with
    | nil => intro _; exact ⟨[], rfl, by simp⟩
    | cons q l ih =>
      intro hq
      obtain ⟨z, hz1, hz2⟩ := hq q (by simp)
      obtain ⟨ls, h5, h6⟩ := ih fun ps hps => hq ps (by simp [hps])
      refine ⟨z :: ls, by simp [hz1, h5], fun w hw => ?_⟩
      rcases List.mem_cons.1 hw with rfl | hw
      · exact hz2
      · exact h6 w hw
  obtain ⟨ls, h5, h6⟩ := key2 l h3
  exact ⟨ls, h6, rfl, by rw [← h5]; exact h4⟩
end
end Go.Proofs.YteiikkpajcggfaaGreatDoor
