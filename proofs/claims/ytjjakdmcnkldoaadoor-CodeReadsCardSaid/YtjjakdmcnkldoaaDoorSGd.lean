/- What a row lists, told to the walks: the table. -/
import Derived.Test.YtjjakdmcnkldoaaDoorRows
import Derived.Test.YtjjakdmcnkldoaaDoorSQ2
import Derived.Lib.LaidTab
import Derived.Stop.LaidErr
import Derived.MakeChecks
set_option linter.unusedVariables false
namespace Go.Proofs.YtjjakdmcnkldoaaDoor
open Go Go.Proofs Go.Ev Go.Lib

abbrev laidD : List (String × DataW Unit) := [("math/bits.deBruijn32tab", Rows.laid_math_bits_deBruijn32tab), ("math/bits.deBruijn64tab", Rows.laid_math_bits_deBruijn64tab), ("internal/strconv.uint64pow10", Rows.laid_internal_strconv_uint64pow10)]
theorem gPow : Tryd.prog.globalNamed "internal/strconv.uint64pow10" = some 0 := by kernel_rfl
theorem gPowType : (Tryd.prog.globals[0]?).map (·.type) = some 209 := by kernel_rfl
theorem dCells27 : Tryd.prog.cellsOf 27 = 1 := by kernel_rfl
theorem dCells209 : Tryd.prog.cellsOf 209 = 20 := by kernel_rfl
theorem var_lt {P : Program} {W : World} {n : String} {g : Nat} {cs : Array Value} (hg : P.globalNamed n = some g) (h : W.var? P n = some cs) : g < W.heap.size := by
  unfold World.var? at h
  rw [hg, Option.bind_some] at h
  rcases Nat.lt_or_ge g W.heap.size with h' | h'
  · exact h'
  · rw [Array.getElem?_eq_none h'] at h; cases h
theorem gdD {W : World} (h : laidMetH Tryd.prog laidD W) : Gd Tryd.prog (topCx W) := by
  rw [MakeChecks.laidMetH_plain _ _ _ (by kernel_rfl)] at h
  have ht : TabIs Tryd.prog W "internal/strconv.uint64pow10" .u64 pow10Tab := tabIs_of_head gPow gPowType Tryd.underlying209 Tryd.underlying27 dCells27 dCells209 h.tail.tail
  refine ⟨fun e hm g hg => ?_, fun e hm g hg => by cases hm⟩
  obtain rfl := List.mem_singleton.1 hm
  obtain rfl := Option.some.inj (gPow.symm.trans hg)
  exact ⟨top_okP (var_lt gPow ht), ht⟩
end Go.Proofs.YtjjakdmcnkldoaaDoor
