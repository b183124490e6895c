/- What a row lists, told to the walks: the two tables of unicode/utf8. -/
import Derived.Test.YteiikkpajcggfaaGreatDoorRows
import Derived.Test.YteiikkpajcggfaaGreatDoorShelf
import Derived.Test.YteiikkpajcggfaaGreatDoorQ3
import Derived.Lib.LaidIn
import Derived.Lib.LaidU8T
import Derived.PinnedBridge
import Derived.MakeChecks
set_option linter.unusedVariables false
namespace Go.Proofs.YteiikkpajcggfaaGreatDoor
open Go Go.Proofs Go.Ev Go.Lib
abbrev laidU : List (String × DataW Unit) := [("unicode/utf8.acceptRanges", Rows.laid_unicode_utf8_acceptRanges), ("unicode/utf8.first", Rows.laid_unicode_utf8_first)]
theorem gFirst : Tryz.prog.globalNamed "unicode/utf8.first" = some 0 := by kernel_rfl
theorem gAccept : Tryz.prog.globalNamed "unicode/utf8.acceptRanges" = some 1 := by kernel_rfl
theorem var_lt {P : Program} {W : World} {n : String} {g : Nat} {cs : Array Value} (hg : P.globalNamed n = some g) (h : W.var? P n = some cs) : g < W.heap.size := by
 unfold World.var? at h
 rw [hg, Option.bind_some] at h
 rcases Nat.lt_or_ge g W.heap.size with h' | h'
 ·exact h'
 ·rw [Array.getElem?_eq_none h'] at h; cases h
theorem firstIs : Rows.laid_unicode_utf8_first = firstData := Pinned.utf8First_eq
theorem acceptIs : (Rows.laid_unicode_utf8_acceptRanges : DataW Unit) = acceptData := by kernel_rfl
theorem reads_lt {W : World} {n : String} {d : DataW Unit} {g : Nat} (hg : Tryz.prog.globalNamed n = some g) (h : VarReads Tryz.prog W n d) : g < W.heap.size := by
 obtain ⟨g', t, cs, fuel, p, hg', hty, hvar, hd⟩ := h
 exact var_lt hg hvar
theorem gdU {W : World} (h : laidMetH Tryz.prog laidU W) : Gd Tryz.prog (topCx W) := by
 rw [MakeChecks.laidMetH_plain _ _ _ (by kernel_rfl)] at h
 have h4 := Lib.laidMet.reads h (.head _)
 have h3 := Lib.laidMet.reads h (.tail _ (.head _))
 rw [firstIs] at h3
 rw [acceptIs] at h4
 have hT := utf8Tabs_of_readsT (U8Types.of196 Tryz.lays196) ⟨by kernel_rfl, by kernel_rfl, by kernel_rfl, by kernel_rfl, by kernel_rfl, by kernel_rfl, by kernel_rfl⟩ h3 h4
 have l0 := reads_lt gFirst h3
 have l1 := reads_lt gAccept h4
 refine ⟨fun e hm g hg => ?_, fun e hm g hg => ?_, fun e hm g hg => ?_⟩
 ·obtain rfl := List.mem_singleton.1 hm
  exact absurd hg (by rw [show Tryz.prog.globalNamed "internal/strconv.uint64pow10" = none by kernel_rfl]; simp)
 ·obtain rfl := List.mem_singleton.1 hm
  exact absurd hg (by rw [show Tryz.prog.globalNamed "strconv.ErrSyntax" = none by kernel_rfl]; simp)
 ·simp only [cellsT, List.mem_cons, List.not_mem_nil, or_false] at hm
  rcases hm with rfl | rfl
  ·obtain rfl := Option.some.inj (gFirst.symm.trans hg)
   refine ⟨top_okP l0, fun i v hv => ?_⟩
   simp only at hv
   split at hv
   ·rename_i hi
    cases hv
    exact hT.1 i hi
   ·cases hv
  ·obtain rfl := Option.some.inj (gAccept.symm.trans hg)
   refine ⟨top_okP l1, fun i v hv => ?_⟩
   simp only at hv
   split at hv
   ·rename_i hi
    cases hv
    have := hT.2 (i / 2) (by omega)
    split
    ·rename_i h2
     have e : 2 * (i / 2) = i := by omega
     rw [e] at this
     exact this.1
    ·rename_i h2
     have e : 2 * (i / 2) + 1 = i := by omega
     rw [e] at this
     exact this.2
   ·cases hv
end Go.Proofs.YteiikkpajcggfaaGreatDoor
