/- What the library's ValidString and IndexByte answer, by value. -/
import Derived.Test.YtecblpgljmbpeaaDoorShelf
import Derived.Test.YtecblpgljmbpeaaDoorQ3
set_option linter.unusedVariables false
namespace Go.Proofs.YtecblpgljmbpeaaDoor
open Go.RowKit Go.Lib Go.Ev

theorem rep_sb {x : Cx} {s : ByteArray} {vals : List Value} (h : RepAs x [.one (.pv (.str s))] vals) : vals = [.string s] := by
  match vals, h with
  | [v], h =>
    have h1 := h.1.2
    simp only [RepC, RepP] at h1
    rw [h1]
theorem rep_si {x : Cx} {s : ByteArray} {n : Int} {k : IntKind} {vals : List Value} (h : RepAs x [.one (.pv (.str s)), .one (.pv (.int k n))] vals) : vals = [.string s, .int k n] := by
  match vals, h with
  | [v, u], h =>
    have h1 := h.1.2
    have h2 := h.2.1.2
    simp only [RepC, RepP] at h1 h2
    rw [h1, h2]
noncomputable def utf8_ValidString (s : ByteArray) : Option Bool :=
  if s.size ≤ 9223372036854775807 then some (validD s.data.toList) else none
def utf8_ValidString_out (s : ByteArray) : Bool → Res
  | b => ([.one (.pv (.bool b))], [], [])
theorem utf8_ValidString_runs (s : ByteArray) (r_ : Bool) (h : utf8_ValidString s = some r_) : Runs Tryd.prog 19 [.one (.pv (.str s))] [] [] (utf8_ValidString_out s r_) := by
  unfold utf8_ValidString at h
  split at h
  · rename_i hs
    cases h
    refine Runs.quiet (by kernel_rfl) rfl fun x vals hgd hr => ?_
    rw [rep_sb hr]
    have c1 := hgd.2.2 ("unicode/utf8.first", fun c => if c < 256 then some (.int .u8 (firstT c)) else none) (by simp [cellsT]) 0 (by kernel_rfl)
    have c2 := hgd.2.2 ("unicode/utf8.acceptRanges", fun i => if i < 32 then some (.int .u8 (if i % 2 = 0 then accLo (i / 2) else accHi (i / 2))) else none) (by simp [cellsT]) 1 (by kernel_rfl)
    have hT : Utf8Tabs (Tryd.lays196_ren.g 3) (Tryd.lays196_ren.g 4) x.w := by
      refine ⟨fun c hc => ?_, fun i hi => ⟨?_, ?_⟩⟩
      · exact c1.2 c _ (if_pos hc)
      · refine c2.2 (2 * i) _ ?_
        simp only
        rw [if_pos (by omega), if_pos (by omega), show 2 * i / 2 = i by omega]
      · refine c2.2 (2 * i + 1) _ ?_
        simp only
        rw [if_pos (by omega), if_neg (by omega), show (2 * i + 1) / 2 = i by omega]
    refine (Tryd.utf8_ValidString s x.w hs hT).mono ?_
    rintro e w' ⟨rfl, hb⟩
    exact ⟨_, rfl, hb, fun y _ => ⟨rfl, by simp only [RepC, RepP]⟩⟩
  · cases h
noncomputable def strings_IndexByte (s : ByteArray) (c : Int) : Option Int := some (indexByte s.data.toList c.toNat.toUInt8)
def strings_IndexByte_out (s : ByteArray) (c : Int) : Int → Res
  | n => ([.one (.pv (.int .i64 n))], [], [])
theorem strings_IndexByte_runs (s : ByteArray) (c : Int) (r_ : Int) (h : strings_IndexByte s c = some r_) : Runs Tryd.prog 27 [.one (.pv (.str s)), .one (.pv (.int .u8 c))] [] [] (strings_IndexByte_out s c r_) := by
  unfold strings_IndexByte at h
  cases h
  refine Runs.quiet (by kernel_rfl) rfl fun x vals hgd hr => ?_
  rw [rep_si hr]
  refine (Tryd.strings_IndexByte s c x.w).mono ?_
  rintro e w' ⟨rfl, rfl⟩
  exact ⟨_, rfl, Below.refl _ _, fun y _ => ⟨rfl, by simp only [RepC, RepP]⟩⟩
end Go.Proofs.YtecblpgljmbpeaaDoor
