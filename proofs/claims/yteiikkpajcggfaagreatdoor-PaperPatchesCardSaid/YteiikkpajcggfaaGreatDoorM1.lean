/- What the library's ValidString, Index, Contains, Trim answer, and the kinds' names, by value. -/
import Derived.Test.YteiikkpajcggfaaGreatDoorShelf
import Derived.Test.YteiikkpajcggfaaGreatDoorQ3
import Derived.WalkKit
import Derived.ProofKit
set_option linter.unusedVariables false
set_option linter.unusedSimpArgs false
namespace Go.Proofs.YteiikkpajcggfaaGreatDoor
open Go.RowKit Go.Lib Go.Ev
theorem rep_sb {x : Cx} {s : ByteArray} {vals : List Value} (h : RepAs x [.one (.pv (.str s))] vals) : vals = [.string s] := by
 match vals, h with
 | [v], h =>
  have h1 := h.1.2
  simp only [RepC, RepP] at h1
  rw [h1]
theorem rep_ss {x : Cx} {s t : ByteArray} {vals : List Value} (h : RepAs x [.one (.pv (.str s)), .one (.pv (.str t))] vals) : vals = [.string s, .string t] := by
 match vals, h with
 | [v, u], h =>
  have h1 := h.1.2
  have h2 := h.2.1.2
  simp only [RepC, RepP] at h1 h2
  rw [h1, h2]
theorem rep_i {x : Cx} {n : Int} {k : IntKind} {vals : List Value} (h : RepAs x [.one (.pv (.int k n))] vals) : vals = [.int k n] := by
 match vals, h with
 | [v], h =>
  have h1 := h.1.2
  simp only [RepC, RepP] at h1
  rw [h1]
noncomputable def utf8_ValidString (s : ByteArray) : Option Bool :=
 if s.size ≤ 9223372036854775807 then some (validD s.data.toList) else none
def utf8_ValidString_out (s : ByteArray) : Bool → Res
 | b => ([.one (.pv (.bool b))], [], [])
theorem utf8_ValidString_runs (s : ByteArray) (r_ : Bool) (h : utf8_ValidString s = some r_) : Runs Tryz.prog 104 [.one (.pv (.str s))] [] [] (utf8_ValidString_out s r_) := by
 unfold utf8_ValidString at h
 split at h
 ·rename_i hs
  cases h
  refine Runs.quiet (by kernel_rfl) rfl fun x vals hgd hr => ?_
  rw [rep_sb hr]
  have c1 := hgd.2.2 ("unicode/utf8.first", fun c => if c < 256 then some (.int .u8 (firstT c)) else none) (by simp [cellsT]) (Tryz.lays196_ren.g 3) (by kernel_rfl)
  have c2 := hgd.2.2 ("unicode/utf8.acceptRanges", fun i => if i < 32 then some (.int .u8 (if i % 2 = 0 then accLo (i / 2) else accHi (i / 2))) else none) (by simp [cellsT]) (Tryz.lays196_ren.g 4) (by kernel_rfl)
  have hT : Utf8Tabs (Tryz.lays196_ren.g 3) (Tryz.lays196_ren.g 4) x.w := by
   refine ⟨fun c hc => ?_, fun i hi => ⟨?_, ?_⟩⟩
   ·exact c1.2 c _ (if_pos hc)
   ·refine c2.2 (2 * i) _ ?_
    simp only
    rw [if_pos (by omega), if_pos (by omega), show 2 * i / 2 = i by omega]
   ·refine c2.2 (2 * i + 1) _ ?_
    simp only
    rw [if_pos (by omega), if_neg (by omega), show (2 * i + 1) / 2 = i by omega]
  refine (Tryz.utf8_ValidString s x.w hs hT).mono ?_
  rintro e w' ⟨rfl, hb⟩
  exact ⟨_, rfl, hb, fun y _ => ⟨rfl, by simp only [RepC, RepP]⟩⟩
 ·cases h
noncomputable def stringslite_Index (s t : ByteArray) : Option Int := match t.data.toList with
 | [c] => some (indexByte s.data.toList c)
 | _ => none
def stringslite_Index_out (s t : ByteArray) : Int → Res
 | n => ([.one (.pv (.int .i64 n))], [], [])
theorem one_byte {t : ByteArray} {c : UInt8} (h : t.data.toList = [c]) : t = ⟨#[c]⟩ := by
 cases t with
 | mk d =>
  have : d = #[c] := by apply Array.ext'; simpa using h
  rw [this]
theorem stringslite_Index_runs (s t : ByteArray) (r_ : Int) (h : stringslite_Index s t = some r_) : Runs Tryz.prog 153 [.one (.pv (.str s)), .one (.pv (.str t))] [] [] (stringslite_Index_out s t r_) := by
 unfold stringslite_Index at h
 split at h
 ·rename_i c hc
  cases h
  refine Runs.quiet (by kernel_rfl) rfl fun x vals hgd hr => ?_
  rw [rep_ss hr, one_byte hc]
  refine (Tryz.stringslite_Index_one s c x.w).mono ?_
  rintro e w' ⟨rfl, rfl⟩
  exact ⟨_, rfl, Below.refl _ _, fun y _ => ⟨rfl, by simp only [RepC, RepP]⟩⟩
 ·cases h
noncomputable def strings_Contains (s t : ByteArray) : Option Bool := match t.data.toList with
 | [c] => some (decide (0 ≤ indexByte s.data.toList c))
 | _ => none
def strings_Contains_out (s t : ByteArray) : Bool → Res
 | b => ([.one (.pv (.bool b))], [], [])
theorem strings_Contains_runs (s t : ByteArray) (r_ : Bool) (h : strings_Contains s t = some r_) : Runs Tryz.prog 110 [.one (.pv (.str s)), .one (.pv (.str t))] [] [] (strings_Contains_out s t r_) := by
 unfold strings_Contains at h
 split at h
 ·rename_i c hc
  cases h
  refine Runs.quiet (by kernel_rfl) rfl fun x vals hgd hr => ?_
  rw [rep_ss hr, one_byte hc]
  refine (Tryz.strings_Contains_one s c x.w).mono ?_
  rintro e w' ⟨rfl, rfl⟩
  exact ⟨_, rfl, Below.refl _ _, fun y _ => ⟨rfl, by simp only [RepC, RepP]⟩⟩
 ·cases h
noncomputable def strings_Trim (s t : ByteArray) : Option ByteArray := match t.data.toList with
 | [c] => if c.toNat < 128 ∧ s.size ≤ 9223372036854775807 then some ⟨(trimB s.data.toList c).toArray⟩ else none
 | _ => none
def strings_Trim_out (s t : ByteArray) : ByteArray → Res
 | s2 => ([.one (.pv (.str s2))], [], [])
theorem below_drew {w : World} : Below w.heap.size w w.drew := ⟨rfl, rfl, rfl, Nat.le_refl _, fun _ _ => rfl⟩
theorem strings_Trim_runs (s t : ByteArray) (r_ : ByteArray) (h : strings_Trim s t = some r_) : Runs Tryz.prog 111 [.one (.pv (.str s)), .one (.pv (.str t))] [] [] (strings_Trim_out s t r_) := by
 unfold strings_Trim at h
 split at h
 ·rename_i c hc
  split at h
  ·rename_i hh
   cases h
   refine Runs.quiet (by kernel_rfl) rfl fun x vals hgd hr => ?_
   rw [rep_ss hr, one_byte hc]
   refine (Tryz.strings_Trim_one s c hh.1 x.w hh.2).mono ?_
   rintro e w' ⟨rfl, rfl | rfl⟩
   ·exact ⟨_, rfl, Below.refl _ _, fun y _ => ⟨rfl, by simp only [RepC, RepP]⟩⟩
   ·exact ⟨_, rfl, below_drew, fun y _ => ⟨rfl, by simp only [RepC, RepP]⟩⟩
  ·cases h
 ·cases h
def kindNm : Int → ByteArray
 | 1 => ⟨#[110, 97, 109, 101]⟩
 | 2 => ⟨#[112, 104, 111, 110, 101]⟩
 | 3 => ⟨#[109, 97, 105, 108]⟩
 | 4 => ⟨#[97, 100, 100, 114, 101, 115, 115]⟩
 | 5 => ⟨#[110, 111, 116, 101]⟩
 | 6 => ⟨#[103, 114, 111, 117, 112]⟩
 | _ => ⟨#[]⟩
theorem kindWalk (n : Int) (w : World) : Calls Tryz.prog 62 #[.int .i64 n] w fun e w' => e = .returned (.string (kindNm n)) ∧ Below w.heap.size w w' := by
 have fin : ∀ o : Obj, Below w.heap.size w (w.alloc o) := fun o => (Below.refl _ w).alloc (Nat.le_refl _) o
 by_cases h0 : n < 0
 ·have hk : kindNm n = ⟨#[]⟩ := by unfold kindNm; split <;> first | rfl | omega
  rw [hk]
  go_enter Tryz.func62, Tryz.ntmps62
  go_wp2
  go_ret
  exact ⟨rfl, fin _⟩
 by_cases h7 : 7 ≤ n
 ·have hk : kindNm n = ⟨#[]⟩ := by unfold kindNm; split <;> first | rfl | omega
  rw [hk]
  go_enter Tryz.func62, Tryz.ntmps62
  go_wp2
  go_ret
  exact ⟨rfl, fin _⟩
 have hc : n = 0 ∨ n = 1 ∨ n = 2 ∨ n = 3 ∨ n = 4 ∨ n = 5 ∨ n = 6 := by omega
 clear h0 h7
 rcases hc with rfl | rfl | rfl | rfl | rfl | rfl | rfl
 all_goals
  go_enter Tryz.func62, Tryz.ntmps62
  go_wp2
  go_ret
  exact ⟨rfl, fin _⟩
noncomputable def card_KindName (n : Int) : Option ByteArray := some (kindNm n)
def card_KindName_out (n : Int) : ByteArray → Res
 | s => ([.one (.pv (.str s))], [], [])
theorem card_KindName_runs (n : Int) (r_ : ByteArray) (h : card_KindName n = some r_) : Runs Tryz.prog 62 [.one (.pv (.int .i64 n))] [] [] (card_KindName_out n r_) := by
 unfold card_KindName at h
 cases h
 refine Runs.quiet (by kernel_rfl) rfl fun x vals hgd hr => ?_
 rw [rep_i hr]
 refine (kindWalk n x.w).mono ?_
 rintro e w' ⟨rfl, hb⟩
 exact ⟨_, rfl, hb, fun y _ => ⟨rfl, by simp only [RepC, RepP]⟩⟩
end Go.Proofs.YteiikkpajcggfaaGreatDoor
