/- A contract at the top: nothing is the caller's own. No program in sight. -/
import Derived.Test.YtecblpgljmbpeaaQEvZ
import Derived.WalkKit
import Derived.ProofKit
import Derived.OpenShut
import Derived.ShutString
import Derived.ChangeOld
import Derived.Below
import Derived.SizedLaws
namespace Go.Ev
open Go.RowKit (Below)

def topG : G := { ob := fun _ => 0, rb := fun _ => 0, rs := fun _ => 0, rc := fun _ => 0, rl := fun _ => 0, U := fun _ => False }
def topCx (W : World) : Cx := { w := W, g := topG, S := fun _ => False, B := fun _ => False }
theorem top_sto (W : World) : Sto (topCx W) [] [] :=
  ⟨fun _ _ h => (by cases h), fun _ _ h => (by cases h), fun _ _ h => (by cases h), fun _ _ _ _ h => (by cases h), fun _ _ _ _ h => (by cases h), fun _ _ _ _ h => (by cases h), fun _ h => h.elim, fun _ h => h.elim, fun _ h => h.elim⟩
theorem Runs.top {P : Program} {f : FuncId} {xs : List AV} {vals : List Value} {W : World} (h : Runs P f xs [] [] ([.one (.pv (.bool true))], [], [])) (hr : RepAs (topCx W) xs vals) :
    Calls P f vals.toArray W fun e W' => e = .returned (.bool true) ∧ Below W.heap.size W W' :=
  Calls.mono (h.2.2.2 (topCx W) vals (top_sto W) (fun _ hu => hu.elim) hr) (by
    rintro e w' ⟨v, y, rfl, rfl, hx, _, _, hv⟩
    have hb : v = .bool true := by
      have := hv.2
      simpa only [RepC, RepP] using this
    exact ⟨by rw [hb], ⟨hx.os, hx.tape, hx.output, hx.size, fun b hb => hx.blk b hb (fun h => h)⟩⟩)
theorem top_okP {W : World} {b : Nat} (h : b < W.heap.size) : (topCx W).okP b := ⟨h, fun h => h, fun h => h⟩
theorem top_int {W : World} (k : IntKind) (n : Int) : RepA (topCx W) (.one (.pv (.int k n))) (.int k n) := ⟨rfl, by simp only [RepC, RepP]⟩
theorem top_bool {W : World} (b : Bool) : RepA (topCx W) (.one (.pv (.bool b))) (.bool b) := ⟨rfl, by simp only [RepC, RepP]⟩
theorem top_str {W : World} (s : ByteArray) : RepA (topCx W) (.one (.pv (.str s))) (.string s) := ⟨rfl, by simp only [RepC, RepP]⟩
theorem top_nil {W : World} (k : IntKind) : RepA (topCx W) (.one (.pv (.ints k [] false))) (.slice none 0 0) := ⟨rfl, by simp only [RepC, RepP]; exact .inl ⟨rfl, rfl⟩⟩
theorem top_ints {W : World} {k : IntKind} {a : Addr} {len cap : Nat} {zs : List Int} (hs : a.spot = none) (hl : len ≤ cap) (hz : len ≤ zs.length) (hc : ∀ i, i < zs.length → W.cell? (a.add i) = some (.int k (zs.getD i 0))) (hb : 0 < len → a.block < W.heap.size) :
    RepA (topCx W) (.one (.pv (.ints k (zs.take len) false))) (.slice (some a) len cap) := by
  obtain ⟨b, o, sp⟩ := a
  simp only at hs
  subst hs
  have hlen : (zs.take len).length = len := by rw [List.length_take]; omega
  refine ⟨rfl, ?_⟩
  simp only [RepC, RepP]
  refine .inr ⟨b, o, cap, by rw [hlen], by rw [hlen]; exact hl, by simp, fun h0 => ⟨top_okP (hb (by rw [hlen] at h0; exact h0)), fun i hi => ?_⟩⟩
  rw [hlen] at hi
  have := hc i (by omega)
  rw [Addr.add_lit] at this
  show W.cell? ⟨b, o + i, none⟩ = _
  rw [this]
  congr 2
  simp [List.getD, List.getElem?_take, hi]
/-- What is known of an address that is handed in. -/
theorem okWide_spot {P : Program} {W : World} {r : Reach} {base t : Nat} {e : TypeId} {a : Addr} {len cap : Nat} (ht : P.underlying t = some (.slice e)) (h : Value.okWide P W r base t (.slice (some a) len cap)) : a.spot = none ∧ len ≤ cap := by
  simp only [Value.okWide, ht, Cell.okWide, Cell.ok] at h
  exact ⟨h.2.2.2.1, h.1⟩
end Go.Ev
