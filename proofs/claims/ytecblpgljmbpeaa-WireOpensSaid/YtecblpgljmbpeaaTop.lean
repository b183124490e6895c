/- Bytes that are handed in. -/
import Derived.Test.YtecblpgljmbpeaaKb
import Derived.Test.YtecblpgljmbpeaaQTop
import Derived.DataShut
namespace Go.Proofs.Ytecblpgljmbpeaa
open Go.Ev Go.ChangeShapes Go.WideShapes Go.ChangeAt Go.RowKit
theorem bytes_in {P : Program} {H : Type} {enc : TypeId × Value → H} {W : World} {base b0 t e : Nat} {r : Reach} {spare : Nat → Bool} {held : Bool} {a : Option Addr} {len cap : Nat} {d : DataW H} {p : List MemPlace} (ht : P.underlying t = some (.slice e)) (he : P.underlying e = some (.int .u8)) (hc : P.cellsOf e = 1)
    (ok : Value.okWide P W r base t (.slice a len cap)) (h : ∃ fuel, DataW.trod enc P W b0 spare held fuel t (Value.slice a len cap).cells.toList = some (d, p)) : ∃ l, Bytes l ∧ RepA (topCx W) (.one (.pv (.ints .u8 l false))) (.slice a len cap) := by
  obtain ⟨fuel, hf⟩ := h
  rcases open_ints ht he hc hf with ⟨hcs, _⟩ | ⟨x, l, c, zs, hcs, _, hl, hm, hz, _, hcell, hwz⟩
  · simp [Value.cells] at hcs
    obtain ⟨rfl, rfl, rfl⟩ := hcs
    exact ⟨[], fun x hx => (by cases hx), top_nil _⟩
  · simp [Value.cells] at hcs
    obtain ⟨rfl, rfl, rfl⟩ := hcs
    obtain ⟨hs, _⟩ := okWide_spot ht ok
    have hlz : len ≤ zs.length := by rw [hz]; split <;> omega
    refine ⟨zs.take len, fun x hx => ?_, top_ints hs hl hlz hcell fun h0 => ?_⟩
    · have := hwz x (List.mem_of_mem_take hx)
      have := (Lit.wf_int_iff .u8 x).1 this
      simp [IntKind.min, IntKind.max, IntKind.bits, IntKind.signed] at this
      omega
    · have := hcell 0 (by omega)
      unfold World.cell? at this
      split at this
      · rename_i hb
        rcases Nat.lt_or_ge x.block W.heap.size with h' | h'
        · exact h'
        · have e0 : (x.add 0).block = x.block := rfl
          rw [e0, Array.getElem?_eq_none h'] at hb
          cases hb
      · cases this
end Go.Proofs.Ytecblpgljmbpeaa
