/- FormatUint at base 10 and ParseUint at 10, 64, by value. -/
import Derived.Test.YtjjakdmcnkldoaaDoorM1
import Derived.Test.YtjjakdmcnkldoaaDoorSQ2
set_option linter.unusedVariables false
namespace Go.Proofs.YtjjakdmcnkldoaaDoor
open Go.RowKit Go.Sort Go.Lib Go.Ev

noncomputable def strconv_FormatUint10 (n k : Int) : Option ByteArray :=
  if k = 10 ∧ 0 ≤ n ∧ n < 18446744073709551616 then some ⟨(decDigits n.toNat).toArray⟩ else none
def strconv_FormatUint10_out (n k : Int) : ByteArray → Res
  | s => ([.one (.pv (.str s))], [], [])
theorem strconv_FormatUint10_runs (n k : Int) (r_ : ByteArray) (h : strconv_FormatUint10 n k = some r_) : Runs Tryd.prog 138 [.one (.pv (.int .u64 n)), .one (.pv (.int .i64 k))] [] [] (strconv_FormatUint10_out n k r_) := by
  unfold strconv_FormatUint10 at h
  split at h
  · rename_i hn
    cases h
    obtain ⟨rfl, h0, h1⟩ := hn
    obtain ⟨u, rfl⟩ : ∃ u : Nat, n = (u : Int) := ⟨n.toNat, by omega⟩
    refine Runs.quiet (by kernel_rfl) rfl fun x vals hgd hr => ?_
    rw [rep_two hr]
    rw [Int.toNat_natCast]
    by_cases hs : u < 100
    · refine (formatUint_small u hs x.w).mono ?_
      rintro e w' ⟨rfl, rfl⟩
      exact ⟨_, rfl, Below.refl _ _, fun y _ => rep_str1⟩
    · obtain ⟨g, hg⟩ := Option.isSome_iff_exists.1 (show (Tryd.prog.globalNamed "internal/strconv.uint64pow10").isSome = true by kernel_rfl)
      have htab := (hgd.1 ("internal/strconv.uint64pow10", .u64, pow10Tab) (by simp [tabs])) g hg
      refine (formatUint_big u (by omega) (by omega) x.w htab.2).mono ?_
      rintro e w' ⟨rfl, k, os, rfl⟩
      exact ⟨_, rfl, below_grown _ _ _, fun y _ => rep_str1⟩
  · cases h
end Go.Proofs.YtjjakdmcnkldoaaDoor
