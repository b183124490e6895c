/- A contract at the top: nothing is the caller's own. No program in sight. -/
import Derived.Test.YtjjakdmcnkldoaaQEvZ
import Derived.WalkKit
import Derived.ProofKit
import Derived.OpenShut
import Derived.ShutString
import Derived.ChangeOld
import Derived.Below
import Derived.SizedLaws
set_option linter.unusedVariables false
set_option linter.unusedSimpArgs false
namespace Go.Ev
open Go.RowKit (Below)

def topG : G := { ob := fun _ => 0, rb := fun _ => 0, rs := fun _ => 0, rc := fun _ => 0, rl := fun _ => 0, U := fun _ => False }
def topCx (W : World) : Cx := { w := W, g := topG, S := fun _ => False, B := fun _ => False }
theorem top_sto (W : World) : Sto (topCx W) [] [] :=
  ⟨fun _ _ h => (by cases h), fun _ _ h => (by cases h), fun _ _ h => (by cases h), fun _ _ _ _ h => (by cases h), fun _ _ _ _ h => (by cases h), fun _ _ _ _ h => (by cases h), fun _ h => h.elim, fun _ h => h.elim, fun _ h => h.elim⟩
theorem Runs.top {P : Program} {f : FuncId} {xs : List AV} {vals : List Value} {W : World} (h : Runs P f xs [] [] ([.one (.pv (.bool true))], [], [])) (hr : RepAs (topCx W) xs vals) :
    Calls P f vals.toArray W fun e W' => e = .returned (.bool true) ∧ Below W.heap.size W W' :=
  Calls.mono (h.2.2.2 (topCx W) vals (top_sto W) (fun _ hu => hu.elim) hr) (by
    rintro e w' ⟨v, y, rfl, rfl, hx, _, _, hv⟩
    have hb : v = .bool true := by
      have := hv.2
      simpa only [RepC, RepP] using this
    exact ⟨by rw [hb], ⟨hx.os, hx.tape, hx.output, hx.size, fun b hb => hx.blk b hb (fun h => h)⟩⟩)
theorem top_okP {W : World} {b : Nat} (h : b < W.heap.size) : (topCx W).okP b := ⟨h, fun h => h, fun h => h⟩
theorem top_int {W : World} (k : IntKind) (n : Int) : RepA (topCx W) (.one (.pv (.int k n))) (.int k n) := ⟨rfl, by simp only [RepC, RepP]⟩
theorem top_bool {W : World} (b : Bool) : RepA (topCx W) (.one (.pv (.bool b))) (.bool b) := ⟨rfl, by simp only [RepC, RepP]⟩
theorem top_str {W : World} (s : ByteArray) : RepA (topCx W) (.one (.pv (.str s))) (.string s) := ⟨rfl, by simp only [RepC, RepP]⟩
theorem top_nil {W : World} (k : IntKind) : RepA (topCx W) (.one (.pv (.ints k [] false))) (.slice none 0 0) := ⟨rfl, by simp only [RepC, RepP]; exact .inl ⟨rfl, rfl⟩⟩
theorem top_ints {W : World} {k : IntKind} {a : Addr} {len cap : Nat} {zs : List Int} (hs : a.spot = none) (hl : len ≤ cap) (hz : len ≤ zs.length) (hc : ∀ i, i < zs.length → W.cell? (a.add i) = some (.int k (zs.getD i 0))) (hb : 0 < len → a.block < W.heap.size) :
    RepA (topCx W) (.one (.pv (.ints k (zs.take len) false))) (.slice (some a) len cap) := by
  obtain ⟨b, o, sp⟩ := a
  simp only at hs
  subst hs
  have hlen : (zs.take len).length = len := by rw [List.length_take]; omega
  refine ⟨rfl, ?_⟩
  simp only [RepC, RepP]
  refine .inr ⟨b, o, cap, none, by rw [hlen], by rw [hlen]; exact hl, by simp, fun h0 => ⟨rfl, top_okP (hb (by rw [hlen] at h0; exact h0)), fun i hi => ?_⟩⟩
  rw [hlen] at hi
  have := hc i (by omega)
  rw [Addr.add_lit] at this
  show W.cell? ⟨b, o + i, none⟩ = _
  rw [this]
  congr 2
  simp [List.getD, List.getElem?_take, hi]
/-- What is known of an address that is handed in. -/
theorem okWide_spot {P : Program} {W : World} {r : Reach} {base t : Nat} {e : TypeId} {a : Addr} {len cap : Nat} (ht : P.underlying t = some (.slice e)) (h : Value.okWide P W r base t (.slice (some a) len cap)) : a.spot = none ∧ len ≤ cap := by
  simp only [Value.okWide, ht, Cell.okWide, Cell.ok] at h
  exact ⟨h.2.2.2.1, h.1⟩

/-! ### What is handed in lies in memory -/
section
open Go.ChangeShapes Go.WideShapes Go.ChangeAt Go.RowKit
variable {P : Program} {H : Type} {enc : TypeId × Value → H} {W : World} {b0 fuel : Nat} {spare : Nat → Bool} {held : Bool} {cs : List Value} {y : DataW H × List MemPlace}
theorem cell_lt {a : Addr} {v : Value} (h : W.cell? a = some v) : a.block < W.heap.size ∧ a.spot = none := by
  unfold World.cell? at h
  split at h
  · rename_i hb
    refine ⟨?_, ?_⟩
    · rcases Nat.lt_or_ge a.block W.heap.size with h' | h'
      · exact h'
      · rw [Array.getElem?_eq_none h'] at hb; cases hb
    · cases hs : a.spot with
      | none => rfl
      | some _ => rw [hs] at h; simp at h
  · cases h
theorem add_form {a : Addr} (h : a.spot = none) (n : Nat) : a.add n = ⟨a.block, a.off + n, none⟩ := by
  obtain ⟨b, o, sp⟩ := a
  simp only at h
  subst h
  exact Addr.add_lit ..
/-- A slice of whole numbers, wherever it stands. -/
theorem ints_in {t e : TypeId} {k : IntKind} (ht : P.underlying t = some (.slice e)) (he : P.underlying e = some (.int k)) (hc : P.cellsOf e = 1) (h : DataW.trod enc P W b0 spare held fuel t cs = some y) :
    ∃ v l, cs = [v] ∧ v.oneCell' = true ∧ (∀ n ∈ l, (Lit.int k n).wf = true) ∧ RepP W (topCx W).okP (topCx W).okP (.ints k l false) v := by
  rcases open_ints ht he hc h with ⟨hcs, _⟩ | ⟨a, len, cap, zs, hcs, _, hl, hm, hz, _, hcell, hwz⟩
  · exact ⟨_, [], hcs, rfl, by simp, by simp only [RepP]; exact .inl ⟨rfl, rfl⟩⟩
  · have hlz : len ≤ zs.length := by rw [hz]; split <;> omega
    have hlen : (zs.take len).length = len := by rw [List.length_take]; omega
    refine ⟨_, zs.take len, hcs, rfl, fun n hn => hwz n (List.mem_of_mem_take hn), ?_⟩
    simp only [RepP]
    obtain ⟨b, o, sp⟩ := a
    refine .inr ⟨b, o, cap, sp, by rw [hlen], by rw [hlen]; exact hl, by simp, fun h0 => ?_⟩
    rw [hlen] at h0
    have hc0 := hcell 0 (by omega)
    obtain ⟨hb, hsp⟩ := cell_lt hc0
    have hsp0 : sp = none := hsp
    subst hsp0
    refine ⟨rfl, top_okP hb, fun i hi => ?_⟩
    rw [hlen] at hi
    have := hcell i (by omega)
    rw [Addr.add_lit] at this
    show W.cell? ⟨b, o + i, none⟩ = _
    rw [this]
    congr 2
    simp [List.getD, List.getElem?_take, hi]
theorem RepPs_congr {w : World} {ok : Nat → Prop} : ∀ {ps : List PV} {f g : Nat → Option Value}, RepPs w ok ps f → (∀ j, j < ps.length → g j = f j) → RepPs w ok ps g
  | [], _, _, _, _ => by simp [RepPs]
  | p :: ps, f, g, h, hg => by
    simp only [RepPs] at h ⊢
    obtain ⟨⟨v, hv, hp⟩, hs⟩ := h
    exact ⟨⟨v, by rw [hg 0 (by simp), hv], hp⟩, RepPs_congr hs fun j hj => hg (j + 1) (by simp; omega)⟩
/-- A slice of elements, each read by hel. -/
theorem recs_in {t e sz : Nat} {good : List PV → Prop} (ht : P.underlying t = some (.slice e)) (hc : P.cellsOf e = sz) (hsz : 0 < sz)
    (hel : ∀ {n : Nat} {cs : List Value} {y : DataW H × List MemPlace}, cs.length = sz → DataW.trod enc P W b0 spare held n e cs = some y → ∃ ps, ps.length = sz ∧ good ps ∧ RepPs W (topCx W).okP ps fun i => cs[i]?)
    (h : DataW.trod enc P W b0 spare held fuel t cs = some y) :
    ∃ v l, cs = [v] ∧ v.oneCell' = true ∧ (∀ ps ∈ l, good ps) ∧ RepP W (topCx W).okP (topCx W).okP (.recs sz l false) v := by
  rcases DataW.trod_slice ht h with ⟨hcs, _⟩ | ⟨a, len, cap, elems, rest, n, _, hcs, _, _, hl, _, hlen, hall, _, _⟩
  · exact ⟨_, [], hcs, rfl, by simp, by simp only [RepP]; exact .inl ⟨rfl, rfl⟩⟩
  have each : ∀ i, i < len → ∃ ps, ps.length = sz ∧ good ps ∧ (∃ cs', W.cells? b0 (a.add (i * sz)) sz = some cs' ∧ RepPs W (topCx W).okP ps fun j => cs'[j]?) := by
    intro i hi
    have h1 := hall i hi
    rw [hc, List.getElem?_eq_getElem (by omega), Option.bind_eq_some_iff] at h1
    obtain ⟨cs', h2, h3⟩ := h1
    obtain ⟨ps, h4, h5, h6⟩ := hel (World.cells?_some h2).2.1 h3
    exact ⟨ps, h4, h5, cs', h2, h6⟩
  have build : ∀ (m i : Nat), i + m = len → ∃ l : List (List PV), l.length = m ∧ (∀ ps ∈ l, good ps) ∧ ∀ b o, a = ⟨b, o, none⟩ → RepPss W (topCx W).okP sz l fun j => W.cell? ⟨b, o + (i * sz + j), none⟩ := by
    intro m
    induction m with
    | zero => intro i _; exact ⟨[], rfl, by simp, fun b o _ => by simp [RepPss]⟩
    | succ m ih =>
      intro i hi
      obtain ⟨l, hl1, hl2, hl3⟩ := ih (i + 1) (by omega)
      obtain ⟨ps, h4, h5, cs', h2, h6⟩ := each i (by omega)
      refine ⟨ps :: l, by simp [hl1], fun q hq => ?_, fun b o ha => ?_⟩
      · rcases List.mem_cons.1 hq with rfl | hq
        · exact h5
        · exact hl2 q hq
      · simp only [RepPss]
        refine ⟨h4, ?_, ?_⟩
        · have hcell := (World.cells?_some h2).2.2
          have hl' := (World.cells?_some h2).2.1
          refine RepPs_congr h6 fun j hj => ?_
          rw [h4] at hj
          have := hcell j hj
          rw [ha, Addr.add_lit, Addr.add_lit] at this
          rw [← this]
          congr 2
          omega
        · have := hl3 b o ha
          have e : (fun j => W.cell? ⟨b, o + ((i + 1) * sz + j), none⟩) = fun j => W.cell? ⟨b, o + (i * sz + (j + sz)), none⟩ := by
            funext j
            congr 2
            rw [Nat.add_mul]; omega
          rw [e] at this
          exact this
  obtain ⟨l, hl1, hl2, hl3⟩ := build len 0 (by omega)
  refine ⟨_, l, hcs, rfl, hl2, ?_⟩
  simp only [RepP]
  obtain ⟨b, o, sp⟩ := a
  refine .inr ⟨b, o, cap, sp, by rw [hl1], by rw [hl1]; exact hl, by simp, fun h0 => ?_⟩
  rw [hl1] at h0
  obtain ⟨ps, h4, _, cs', h2, _⟩ := each 0 h0
  have hl' := (World.cells?_some h2).2.1
  have h7 := (World.cells?_some h2).2.2 0 hsz
  rw [List.getElem?_eq_getElem (by omega)] at h7
  obtain ⟨hb, hsp⟩ := cell_lt h7
  have hz : (0 * sz) = 0 := by omega
  rw [hz] at hsp hb
  have hsp0 : sp = none := hsp
  subst hsp0
  refine ⟨rfl, top_okP hb, ?_⟩
  have := hl3 b o rfl
  simpa using this
end
end Go.Ev
