/- What is handed in: acts. -/
import Derived.Test.YtjjcmgdgifcmgaaGreatH5
import Derived.Test.YtjjcmgdgifcmgaaGreatQ3
set_option linter.unusedVariables false
set_option linter.unusedSimpArgs false
namespace Go.Proofs.YtjjcmgdgifcmgaaGreat
open Go.Ev Go.ChangeShapes Go.WideShapes Go.ChangeAt Go.RowKit
section
variable {P : Program} {H : Type} {enc : TypeId × Value → H} {W : World} {base b0 : Nat} {r : Reach} {spare : Nat → Bool} {held : Bool} {a : Option Addr} {len cap : Nat} {d : DataW H} {p : List MemPlace}
def zrU (z : zao) : Prop := Bytes (zm4 z)
theorem zuk {t e e2 : Nat} {f0 f1 f2 f3 f4 : Go.Field} (ht : P.underlying t = some (.slice e)) (he : P.underlying e = some (.struct #[f0, f1, f2, f3, f4])) (he2 : P.underlying e2 = some (.int .u8)) (hc2' : P.cellsOf e2 = 1)
  (hu0 : P.underlying f0.type = some (.int .u8)) (hu1 : P.underlying f1.type = some (.int .i64)) (hu2 : P.underlying f2.type = some (.int .i64)) (hu3 : P.underlying f3.type = some (.int .u64)) (hu4 : P.underlying f4.type = some (.slice e2))
  (hc : P.cellsOf e = 5) (ho : f0.offset = 0 ∧ f1.offset = 1 ∧ f2.offset = 2 ∧ f3.offset = 3 ∧ f4.offset = 4)
  (hcs : P.cellsOf f0.type = 1 ∧ P.cellsOf f1.type = 1 ∧ P.cellsOf f2.type = 1 ∧ P.cellsOf f3.type = 1 ∧ P.cellsOf f4.type = 1)
  (h : ∃ fuel, DataW.trod enc P W b0 spare held fuel t (Value.slice a len cap).cells.toList = some (d, p)) : ∃ ls : List zao, (∀ z ∈ ls, zrU z) ∧ RepA (ziP W) (.one (.pv (.recs 5 (List.map zao.pv ls) false))) (.slice a len cap) := by
 obtain ⟨fuel, hf⟩ := h
 obtain ⟨ho0, ho1, ho2, ho3, ho4⟩ := ho
 obtain ⟨hc0, hc1, hc2, hc3, hc4⟩ := hcs
 obtain ⟨v, l, h1, h2, h3, h4⟩ := zuN (good := fun ps => ∃ z : zao, ps = z.pv ∧ zrU z) ht hc (by decide) (fun {n cs y} hl hd => by
  obtain ⟨xs, m, _, _, hlen, hxs, hall⟩ := DataW.trod_struct he hd
  have g0 := hall 0 f0 rfl
  have g1 := hall 1 f1 rfl
  have g2 := hall 2 f2 rfl
  have g3 := hall 3 f3 rfl
  have g4 := hall 4 f4 rfl
  have hx5 : xs.length = 5 := by rw [hxs]; rfl
  rw [List.getElem?_eq_getElem (by omega), ho0, hc0] at g0
  rw [List.getElem?_eq_getElem (by omega), ho1, hc1] at g1
  rw [List.getElem?_eq_getElem (by omega), ho2, hc2] at g2
  rw [List.getElem?_eq_getElem (by omega), ho3, hc3] at g3
  rw [List.getElem?_eq_getElem (by omega), ho4, hc4] at g4
  match cs, hl with
  | [c0, c1, c2, c3, c4], _ =>
   obtain ⟨x0, e0, _, w0⟩ := DataW.trod_int hu0 g0
   obtain ⟨x1, e1, _, w1⟩ := DataW.trod_int hu1 g1
   obtain ⟨x2, e2, _, w2⟩ := DataW.trod_int hu2 g2
   obtain ⟨x3, e3, _, w3⟩ := DataW.trod_int hu3 g3
   obtain ⟨v4, x4, e4, _, w4, r4⟩ := zsf hu4 he2 hc2' g4
   simp at e0 e1 e2 e3 e4
   subst e4
   refine ⟨[.int .u8 x0, .int .i64 x1, .int .i64 x2, .int .u64 x3, .ints .u8 x4 false], rfl, ⟨.mk x0 x1 x2 x3 x4, rfl, zqG w4⟩, ?_⟩
   simp only [zbB]
   refine ⟨⟨c0, rfl, ?_⟩, ⟨c1, rfl, ?_⟩, ⟨c2, rfl, ?_⟩, ⟨c3, rfl, ?_⟩, ⟨c4, rfl, r4⟩, trivial⟩ <;> simp only [RepP] <;> assumption) hf
 simp [Value.cells] at h1
 subst h1
 have key : ∀ l : List (List PV), (∀ ps ∈ l, ∃ z : zao, ps = z.pv ∧ zrU z) → ∃ ls : List zao, l = List.map zao.pv ls ∧ ∀ z ∈ ls, zrU z := by
  intro l
  induction l with
  | nil => intro _; exact ⟨[], rfl, by simp⟩
  | cons q l ih =>
   intro hq
   obtain ⟨z, hz1, hz2⟩ := hq q (by simp)
   obtain ⟨ls, h5, h6⟩ := ih fun ps hps => hq ps (by simp [hps])
   refine ⟨z :: ls, by simp [hz1, h5], fun w hw => ?_⟩
   rcases List.mem_cons.1 hw with rfl | hw
   ·exact hz2
   ·exact h6 w hw
 obtain ⟨ls, h5, h6⟩ := key l h3
 exact ⟨ls, h6, rfl, by rw [← h5]; exact h4⟩
theorem zs6 {t e : Nat} (ht : P.underlying t = some (.slice e)) (h : ∃ fuel, DataW.trod enc P W b0 spare held fuel t (Value.slice a len cap).cells.toList = some (d, p)) : len ≤ maxLen := by
 obtain ⟨fuel, hf⟩ := h
 rcases DataW.trod_slice ht hf with ⟨hcs, _⟩ | ⟨a', len', cap', elems, rest, n, _, hcs, _, _, hl, hm, _⟩
 ·simp [Value.cells] at hcs
  omega
 ·simp [Value.cells] at hcs
  omega
theorem zqE {t e e2 : Nat} {f0 f1 f2 f3 f4 : Go.Field} (ht : P.underlying t = some (.slice e)) (he : P.underlying e = some (.struct #[f0, f1, f2, f3, f4])) (he2 : P.underlying e2 = some (.int .u8)) (hc2' : P.cellsOf e2 = 1)
  (hu0 : P.underlying f0.type = some (.int .u8)) (hu1 : P.underlying f1.type = some (.int .i64)) (hu2 : P.underlying f2.type = some (.int .i64)) (hu3 : P.underlying f3.type = some (.int .u64)) (hu4 : P.underlying f4.type = some (.slice e2))
  (hc : P.cellsOf e = 5) (ho : f0.offset = 0 ∧ f1.offset = 1 ∧ f2.offset = 2 ∧ f3.offset = 3 ∧ f4.offset = 4)
  (hcs : P.cellsOf f0.type = 1 ∧ P.cellsOf f1.type = 1 ∧ P.cellsOf f2.type = 1 ∧ P.cellsOf f3.type = 1 ∧ P.cellsOf f4.type = 1)
  (h : ∃ fuel, DataW.trod enc P W b0 spare held fuel t (Value.slice a len cap).cells.toList = some (d, p)) : ∃ ls : List zao, (ls.length ≤ 9223372036854775807 ∧ ∀ z ∈ ls, zrU z) ∧ RepA (ziP W) (.one (.pv (.recs 5 (List.map zao.pv ls) false))) (.slice a len cap) := by
 have hlen := zs6 ht h
 obtain ⟨ls, h1, h2, h4⟩ := zuk ht he he2 hc2' hu0 hu1 hu2 hu3 hu4 hc ho hcs h
 refine ⟨ls, ⟨?_, h1⟩, h2, h4⟩
 simp only [RepC, RepP] at h4
 rcases h4 with ⟨_, h6⟩ | ⟨b, o, cap', sp, h6, _⟩
 ·have : ls.length = 0 := by simpa using h6
  omega
 ·simp only [Value.slice.injEq, List.length_map] at h6
  have : maxLen = 9223372036854775807 := rfl
  omega
end
end Go.Proofs.YtjjcmgdgifcmgaaGreat
