/- What is handed in: bytes, rows of bytes, acts. -/
import Derived.Test.YtecblpgljmbpeaaB1
import Derived.Test.YtecblpgljmbpeaaQTop
import Derived.DataShut
set_option linter.unusedVariables false
set_option linter.unusedSimpArgs false
namespace Go.Proofs.Ytecblpgljmbpeaa
open Go.Ev Go.ChangeShapes Go.WideShapes Go.ChangeAt Go.RowKit
section
variable {P : Program} {H : Type} {enc : TypeId × Value → H} {W : World} {base b0 : Nat} {r : Reach} {spare : Nat → Bool} {held : Bool} {a : Option Addr} {len cap : Nat} {d : DataW H} {p : List MemPlace}
theorem bytes_wf {l : List Int} (h : ∀ n ∈ l, (Lit.int .u8 n).wf = true) : Bytes l := by
  intro x hx
  have := (Lit.wf_int_iff .u8 x).1 (h x hx)
  simp [IntKind.min, IntKind.max, IntKind.bits, IntKind.signed] at this
  omega
theorem bytes_in {t e : Nat} (ht : P.underlying t = some (.slice e)) (he : P.underlying e = some (.int .u8)) (hc : P.cellsOf e = 1)
    (h : ∃ fuel, DataW.trod enc P W b0 spare held fuel t (Value.slice a len cap).cells.toList = some (d, p)) : ∃ l, Bytes l ∧ RepA (topCx W) (.one (.pv (.ints .u8 l false))) (.slice a len cap) := by
  obtain ⟨fuel, hf⟩ := h
  obtain ⟨v, l, h1, h2, h3, h4⟩ := ints_in ht he hc hf
  simp [Value.cells] at h1
  subst h1
  exact ⟨l, bytes_wf h3, rfl, h4⟩
theorem rows_in {t e e2 : Nat} (ht : P.underlying t = some (.slice e)) (he : P.underlying e = some (.slice e2)) (he2 : P.underlying e2 = some (.int .u8)) (hc : P.cellsOf e = 1) (hc2 : P.cellsOf e2 = 1)
    (h : ∃ fuel, DataW.trod enc P W b0 spare held fuel t (Value.slice a len cap).cells.toList = some (d, p)) : ∃ ls : List E_uint8, (∀ z ∈ ls, Bytes (match z with | .mk l => l)) ∧ RepA (topCx W) (.one (.pv (.recs 1 (List.map E_uint8.pv ls) false))) (.slice a len cap) := by
  obtain ⟨fuel, hf⟩ := h
  obtain ⟨v, l, h1, h2, h3, h4⟩ := recs_in (good := fun ps => ∃ z : E_uint8, ps = z.pv ∧ Bytes (match z with | .mk l => l)) ht hc (by decide) (fun {n cs y} hl hd => by
    obtain ⟨v, l, h1, h2, h3, h4⟩ := ints_in he he2 hc2 hd
    refine ⟨[.ints .u8 l false], rfl, ⟨.mk l, rfl, bytes_wf h3⟩, ?_⟩
    simp only [RepPs]
    exact ⟨⟨v, by rw [h1]; rfl, h4⟩, trivial⟩) hf
  simp [Value.cells] at h1
  subst h1
  have key : ∀ l : List (List PV), (∀ ps ∈ l, ∃ z : E_uint8, ps = z.pv ∧ Bytes (match z with | .mk l => l)) → ∃ ls : List E_uint8, l = List.map E_uint8.pv ls ∧ ∀ z ∈ ls, Bytes (match z with | .mk l => l) := by
    intro l
    induction l with
    | nil => intro _; exact ⟨[], rfl, by simp⟩
    | cons q l ih =>
      intro hq
      obtain ⟨z, hz1, hz2⟩ := hq q (by simp)
      obtain ⟨ls, h5, h6⟩ := ih fun ps hps => hq ps (by simp [hps])
      refine ⟨z :: ls, by simp [hz1, h5], fun w hw => ?_⟩
      rcases List.mem_cons.1 hw with rfl | hw
      · exact hz2
      · exact h6 w hw
  obtain ⟨ls, h5, h6⟩ := key l h3
  exact ⟨ls, h6, rfl, by rw [← h5]; exact h4⟩
theorem acts_in {t e : Nat} {f1 f2 : Field} (ht : P.underlying t = some (.slice e)) (he : P.underlying e = some (.struct #[f1, f2])) (hu : P.underlying f1.type = some (.int .u8)) (hw : P.underlying f2.type = some (.int .i64)) (hc : P.cellsOf e = 2)
    (ho1 : f1.offset = 0) (ho2 : f2.offset = 1) (hc1 : P.cellsOf f1.type = 1) (hc2 : P.cellsOf f2.type = 1)
    (h : ∃ fuel, DataW.trod enc P W b0 spare held fuel t (Value.slice a len cap).cells.toList = some (d, p)) : ∃ ls : List E_kinfolklaw06_Act, (∀ z ∈ ls, match z with | .mk a b => (0 ≤ a ∧ a < 256) ∧ (-9223372036854775808 ≤ b ∧ b < 9223372036854775808)) ∧ RepA (topCx W) (.one (.pv (.recs 2 (List.map E_kinfolklaw06_Act.pv ls) false))) (.slice a len cap) := by
  obtain ⟨fuel, hf⟩ := h
  obtain ⟨v, l, h1, h2, h3, h4⟩ := recs_in (good := fun ps => ∃ z : E_kinfolklaw06_Act, ps = z.pv ∧ match z with | .mk a b => (0 ≤ a ∧ a < 256) ∧ (-9223372036854775808 ≤ b ∧ b < 9223372036854775808)) ht hc (by decide) (fun {n cs y} hl hd => by
    obtain ⟨xs, m, _, _, hlen, hxs, hall⟩ := DataW.trod_struct he hd
    have g1 := hall 0 f1 rfl
    have g2 := hall 1 f2 rfl
    have hx2 : xs.length = 2 := by rw [hxs]; rfl
    rw [List.getElem?_eq_getElem (by omega), ho1, hc1] at g1
    rw [List.getElem?_eq_getElem (by omega), ho2, hc2] at g2
    match cs, hl with
    | [c1, c2], _ =>
      obtain ⟨x1, e1, _, w1⟩ := DataW.trod_int hu g1
      obtain ⟨x2, e2, _, w2⟩ := DataW.trod_int hw g2
      simp at e1 e2
      refine ⟨[.int .u8 x1, .int .i64 x2], rfl, ⟨.mk x1 x2, rfl, ?_⟩, ?_⟩
      · have a1 := (Lit.wf_int_iff .u8 x1).1 w1
        have a2 := (Lit.wf_int_iff .i64 x2).1 w2
        simp [IntKind.min, IntKind.max, IntKind.bits, IntKind.signed] at a1 a2
        omega
      · simp only [RepPs, RepP]
        exact ⟨⟨c1, rfl, e1⟩, ⟨c2, rfl, e2⟩, trivial⟩) hf
  simp [Value.cells] at h1
  subst h1
  have key : ∀ l : List (List PV), (∀ ps ∈ l, ∃ z : E_kinfolklaw06_Act, ps = z.pv ∧ match z with | .mk a b => (0 ≤ a ∧ a < 256) ∧ (-9223372036854775808 ≤ b ∧ b < 9223372036854775808)) → ∃ ls : List E_kinfolklaw06_Act, l = List.map E_kinfolklaw06_Act.pv ls ∧ ∀ z ∈ ls, match z with | .mk a b => (0 ≤ a ∧ a < 256) ∧ (-9223372036854775808 ≤ b ∧ b < 9223372036854775808) := by
    intro l
    induction l with
    | nil => intro _; exact ⟨[], rfl, by simp⟩
    | cons q l ih =>
      intro hq
      obtain ⟨z, hz1, hz2⟩ := hq q (by simp)
      obtain ⟨ls, h5, h6⟩ := ih fun ps hps => hq ps (by simp [hps])
      refine ⟨z :: ls, by simp [hz1, h5], fun w hw => ?_⟩
      rcases List.mem_cons.1 hw with rfl | hw
      · exact hz2
      · exact h6 w hw
  obtain ⟨ls, h5, h6⟩ := key l h3
  exact ⟨ls, h6, rfl, by rw [← h5]; exact h4⟩
end
end Go.Proofs.Ytecblpgljmbpeaa
