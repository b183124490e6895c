/- What is handed in: rows of bytes, acts. -/
import Derived.Test.YtgimaogkhblaiaaCfg
import Derived.Test.YtgimaogkhblaiaaQ3
set_option linter.unusedVariables false
set_option linter.unusedSimpArgs false
namespace Go.Proofs.Ytgimaogkhblaiaa
open Go.Ev Go.ChangeShapes Go.WideShapes Go.ChangeAt Go.RowKit
section
variable {P : Program} {H : Type} {enc : TypeId × Value → H} {W : World} {base b0 : Nat} {r : Reach} {spare : Nat → Bool} {held : Bool} {a : Option Addr} {len cap : Nat} {d : DataW H} {p : List MemPlace}
theorem rows_in {t e e2 : Nat} (ht : P.underlying t = some (.slice e)) (he : P.underlying e = some (.slice e2)) (he2 : P.underlying e2 = some (.int .u8)) (hc : P.cellsOf e = 1) (hc2 : P.cellsOf e2 = 1)
    (h : ∃ fuel, DataW.trod enc P W b0 spare held fuel t (Value.slice a len cap).cells.toList = some (d, p)) : ∃ ls : List E_L_uint8, (∀ z ∈ ls, Bytes (match z with | .mk l => l)) ∧ RepA (topCx W) (.one (.pv (.recs 1 (List.map E_L_uint8.pv ls) false))) (.slice a len cap) := by
  obtain ⟨fuel, hf⟩ := h
  obtain ⟨v, l, h1, h2, h3, h4⟩ := recs_in (good := fun ps => ∃ z : E_L_uint8, ps = z.pv ∧ Bytes (match z with | .mk l => l)) ht hc (by decide) (fun {n cs y} hl hd => by
    obtain ⟨v, l, h1, h2, h3, h4⟩ := ints_in he he2 hc2 hd
    refine ⟨[.ints .u8 l false], rfl, ⟨.mk l, rfl, bytes_wf h3⟩, ?_⟩
    simp only [RepPs]
    exact ⟨⟨v, by rw [h1]; rfl, h4⟩, trivial⟩) hf
  simp [Value.cells] at h1
  subst h1
  have key : ∀ l : List (List PV), (∀ ps ∈ l, ∃ z : E_L_uint8, ps = z.pv ∧ Bytes (match z with | .mk l => l)) → ∃ ls : List E_L_uint8, l = List.map E_L_uint8.pv ls ∧ ∀ z ∈ ls, Bytes (match z with | .mk l => l) := by
    intro l
    induction l with
    | nil => intro _; exact ⟨[], rfl, by simp⟩
    | cons q l ih =>
      intro hq
      obtain ⟨z, hz1, hz2⟩ := hq q (by simp)
      obtain ⟨ls, h5, h6⟩ := ih fun ps hps => hq ps (by simp [hps])
      refine ⟨z :: ls, by simp [hz1, h5], fun w hw => ?_⟩
      rcases List.mem_cons.1 hw with rfl | hw
      · exact hz2
      · exact h6 w hw
  obtain ⟨ls, h5, h6⟩ := key l h3
  exact ⟨ls, h6, rfl, by rw [← h5]; exact h4⟩
/-- An act's numbers are of their kinds. -/
def actOk (z : E_kinfolklaw11_Act) : Prop := match z with | .mk a0 a1 a2 a3 a4 _ => (0 ≤ a0 ∧ a0 ≤ 255) ∧ (0 ≤ a1 ∧ a1 ≤ 18446744073709551615) ∧ Bytes a2 ∧ (-9223372036854775808 ≤ a3 ∧ a3 ≤ 9223372036854775807) ∧ (-9223372036854775808 ≤ a4 ∧ a4 ≤ 9223372036854775807)
theorem acts_in {t e e2 : Nat} {f0 f1 f2 f3 f4 f5 : Go.Field} (ht : P.underlying t = some (.slice e)) (he : P.underlying e = some (.struct #[f0, f1, f2, f3, f4, f5])) (he2 : P.underlying e2 = some (.int .u8)) (hc2' : P.cellsOf e2 = 1)
    (hu0 : P.underlying f0.type = some (.int .u8)) (hu1 : P.underlying f1.type = some (.int .u64)) (hu2 : P.underlying f2.type = some (.slice e2)) (hu3 : P.underlying f3.type = some (.int .i64)) (hu4 : P.underlying f4.type = some (.int .i64)) (hu5 : P.underlying f5.type = some .bool)
    (hc : P.cellsOf e = 6) (ho : f0.offset = 0 ∧ f1.offset = 1 ∧ f2.offset = 2 ∧ f3.offset = 3 ∧ f4.offset = 4 ∧ f5.offset = 5)
    (hcs : P.cellsOf f0.type = 1 ∧ P.cellsOf f1.type = 1 ∧ P.cellsOf f2.type = 1 ∧ P.cellsOf f3.type = 1 ∧ P.cellsOf f4.type = 1 ∧ P.cellsOf f5.type = 1)
    (h : ∃ fuel, DataW.trod enc P W b0 spare held fuel t (Value.slice a len cap).cells.toList = some (d, p)) : ∃ ls : List E_kinfolklaw11_Act, (∀ z ∈ ls, actOk z) ∧ RepA (topCx W) (.one (.pv (.recs 6 (List.map E_kinfolklaw11_Act.pv ls) false))) (.slice a len cap) := by
  obtain ⟨fuel, hf⟩ := h
  obtain ⟨ho0, ho1, ho2, ho3, ho4, ho5⟩ := ho
  obtain ⟨hc0, hc1, hc2, hc3, hc4, hc5⟩ := hcs
  obtain ⟨v, l, h1, h2, h3, h4⟩ := recs_in (good := fun ps => ∃ z : E_kinfolklaw11_Act, ps = z.pv ∧ actOk z) ht hc (by decide) (fun {n cs y} hl hd => by
    obtain ⟨xs, m, _, _, hlen, hxs, hall⟩ := DataW.trod_struct he hd
    have g0 := hall 0 f0 rfl
    have g1 := hall 1 f1 rfl
    have g2 := hall 2 f2 rfl
    have g3 := hall 3 f3 rfl
    have g4 := hall 4 f4 rfl
    have g5 := hall 5 f5 rfl
    have hx6 : xs.length = 6 := by rw [hxs]; rfl
    rw [List.getElem?_eq_getElem (by omega), ho0, hc0] at g0
    rw [List.getElem?_eq_getElem (by omega), ho1, hc1] at g1
    rw [List.getElem?_eq_getElem (by omega), ho2, hc2] at g2
    rw [List.getElem?_eq_getElem (by omega), ho3, hc3] at g3
    rw [List.getElem?_eq_getElem (by omega), ho4, hc4] at g4
    rw [List.getElem?_eq_getElem (by omega), ho5, hc5] at g5
    match cs, hl with
    | [c0, c1, c2, c3, c4, c5], _ =>
      obtain ⟨x0, e0, _, w0⟩ := DataW.trod_int hu0 g0
      obtain ⟨x1, e1, _, w1⟩ := DataW.trod_int hu1 g1
      obtain ⟨v2, x2, e2, _, w2, r2⟩ := ints_in hu2 he2 hc2' g2
      obtain ⟨x3, e3, _, w3⟩ := DataW.trod_int hu3 g3
      obtain ⟨x4, e4, _, w4⟩ := DataW.trod_int hu4 g4
      obtain ⟨x5, e5, _⟩ := DataW.trod_bool hu5 g5
      simp at e0 e1 e2 e3 e4 e5
      subst e2
      refine ⟨[.int .u8 x0, .int .u64 x1, .ints .u8 x2 false, .int .i64 x3, .int .i64 x4, .bool x5], rfl, ⟨.mk x0 x1 x2 x3 x4 x5, rfl, ?_⟩, ?_⟩
      · have a0 := (Lit.wf_int_iff .u8 x0).1 w0
        have a1 := (Lit.wf_int_iff .u64 x1).1 w1
        have a3 := (Lit.wf_int_iff .i64 x3).1 w3
        have a4 := (Lit.wf_int_iff .i64 x4).1 w4
        simp [IntKind.min, IntKind.max, IntKind.bits, IntKind.signed] at a0 a1 a3 a4
        exact ⟨by omega, by omega, bytes_wf w2, by omega, by omega⟩
      · simp only [RepPs]
        refine ⟨⟨c0, rfl, ?_⟩, ⟨c1, rfl, ?_⟩, ⟨c2, rfl, r2⟩, ⟨c3, rfl, ?_⟩, ⟨c4, rfl, ?_⟩, ⟨c5, rfl, ?_⟩, trivial⟩ <;> simp only [RepP] <;> assumption) hf
  simp [Value.cells] at h1
  subst h1
  have key : ∀ l : List (List PV), (∀ ps ∈ l, ∃ z : E_kinfolklaw11_Act, ps = z.pv ∧ actOk z) → ∃ ls : List E_kinfolklaw11_Act, l = List.map E_kinfolklaw11_Act.pv ls ∧ ∀ z ∈ ls, actOk z := by
    intro l
    induction l with
    | nil => intro _; exact ⟨[], rfl, by simp⟩
    | cons q l ih =>
      intro hq
      obtain ⟨z, hz1, hz2⟩ := hq q (by simp)
      obtain ⟨ls, h5, h6⟩ := ih fun ps hps => hq ps (by simp [hps])
      refine ⟨z :: ls, by simp [hz1, h5], fun w hw => ?_⟩
      rcases List.mem_cons.1 hw with rfl | hw
      · exact hz2
      · exact h6 w hw
  obtain ⟨ls, h5, h6⟩ := key l h3
  exact ⟨ls, h6, rfl, by rw [← h5]; exact h4⟩
end
end Go.Proofs.Ytgimaogkhblaiaa
