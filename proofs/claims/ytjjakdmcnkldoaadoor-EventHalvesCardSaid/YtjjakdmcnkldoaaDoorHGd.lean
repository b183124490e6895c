/- What a row lists, told to the walks: the table, the error's variable. -/
import Derived.Test.YtjjakdmcnkldoaaDoorRows
import Derived.Test.YtjjakdmcnkldoaaDoorHQ3
import Derived.Lib.LaidTab
import Derived.Stop.LaidErr
import Derived.MakeChecks
set_option linter.unusedVariables false
namespace Go.Proofs.YtjjakdmcnkldoaaDoor
open Go Go.Proofs Go.Ev Go.Lib

abbrev laidD : List (String × DataW Unit) := [("math/bits.deBruijn32tab", Rows.laid_math_bits_deBruijn32tab), ("math/bits.deBruijn64tab", Rows.laid_math_bits_deBruijn64tab), ("internal/strconv.uint64pow10", Rows.laid_internal_strconv_uint64pow10)]
abbrev laidE : List (String × DataW Unit) := [("math/bits.deBruijn32tab", Rows.laid_math_bits_deBruijn32tab), ("math/bits.deBruijn64tab", Rows.laid_math_bits_deBruijn64tab), ("internal/strconv.uint64pow10", Rows.laid_internal_strconv_uint64pow10), ("strconv.ErrRange", Rows.laid_strconv_ErrRange), ("strconv.ErrSyntax", Rows.laid_strconv_ErrSyntax)]
theorem gPow : Tryd.prog.globalNamed "internal/strconv.uint64pow10" = some 0 := by kernel_rfl
theorem gPowType : (Tryd.prog.globals[0]?).map (·.type) = some 209 := by kernel_rfl
theorem gErr : Tryd.prog.globalNamed "strconv.ErrSyntax" = some 3 := by kernel_rfl
theorem gErrType : (Tryd.prog.globals[3]?).map (·.type) = some 205 := by kernel_rfl
theorem dCells27 : Tryd.prog.cellsOf 27 = 1 := by kernel_rfl
theorem dCells209 : Tryd.prog.cellsOf 209 = 20 := by kernel_rfl
theorem dCells230 : Tryd.prog.cellsOf 230 = 1 := by kernel_rfl
theorem dCells9 : Tryd.prog.cellsOf 9 = 1 := by kernel_rfl
theorem dStar : "*" ++ "errors.errorString" = "*errors.errorString" := by decide
theorem dRow (u : TypeId) (h : Tryd.prog.typeName? 3 u = some "*errors.errorString") : u = 228 :=
  typeName_ptr_named (nm := "errors.errorString") (by rw [dStar]; kernel_rfl) (by kernel_rfl) (by decide) u (by rw [dStar]; exact h)
theorem var_lt {P : Program} {W : World} {n : String} {g : Nat} {cs : Array Value} (hg : P.globalNamed n = some g) (h : W.var? P n = some cs) : g < W.heap.size := by
  unfold World.var? at h
  rw [hg, Option.bind_some] at h
  rcases Nat.lt_or_ge g W.heap.size with h' | h'
  · exact h'
  · rw [Array.getElem?_eq_none h'] at h; cases h
theorem tab_of {W : World} {r : List (String × DataW Unit)} (h : laidMet Tryd.prog (("internal/strconv.uint64pow10", Rows.laid_internal_strconv_uint64pow10) :: r) W) : TabIs Tryd.prog W "internal/strconv.uint64pow10" .u64 pow10Tab :=
  tabIs_of_head gPow gPowType Tryd.underlying209 Tryd.underlying27 dCells27 dCells209 h
theorem gd_of {W : World} {r : List (String × DataW Unit)} (h : laidMet Tryd.prog (("internal/strconv.uint64pow10", Rows.laid_internal_strconv_uint64pow10) :: r) W)
    (he : 3 < W.heap.size ∧ ∃ ev, W.cell? ⟨3, 0, none⟩ = some ev ∧ (ev = .nilIface ∨ ∃ te pe, ev = .iface te pe)) : Gd Tryd.prog (topCx W) := by
  have ht := tab_of h
  refine ⟨fun e hm g hg => ?_, fun e hm g hg => ?_, fun e hm => by cases hm⟩
  · obtain rfl := List.mem_singleton.1 hm
    obtain rfl := Option.some.inj (gPow.symm.trans hg)
    exact ⟨top_okP (var_lt gPow ht), ht⟩
  · obtain rfl := List.mem_singleton.1 hm
    obtain rfl := Option.some.inj (gErr.symm.trans hg)
    exact ⟨top_okP he.1, he.2⟩
theorem gdE {W : World} (h : laidMetH Tryd.prog laidE W) : Gd Tryd.prog (topCx W) := by
  rw [MakeChecks.laidMetH_plain _ _ _ (by kernel_rfl)] at h
  have h1 := h.tail.tail
  obtain ⟨a0, s0, hv, -, -, -⟩ := laid_sentinel h1.tail.tail gErr gErrType Tryd.underlying205 dRow Tryd.underlying228 Tryd.underlying230 rfl rfl Tryd.underlying9 dCells230 dCells9
  exact gd_of h1 ⟨var_lt gErr hv, _, by simpa using World.var?_cell gErr hv 0, .inr ⟨_, _, rfl⟩⟩
end Go.Proofs.YtjjakdmcnkldoaaDoor
