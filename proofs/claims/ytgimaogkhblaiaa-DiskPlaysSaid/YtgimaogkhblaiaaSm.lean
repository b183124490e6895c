/- The keys of a disk's segments, sorted; the segments' copy. -/
import Derived.Test.YtgimaogkhblaiaaS3
import Derived.Test.YtgimaogkhblaiaaShelf
set_option linter.unusedVariables false
set_option linter.unusedSimpArgs false
namespace Go.Proofs.Ytgimaogkhblaiaa
open Go.Ev Go.RowKit Go.Shelf Go.Sort

/-! ### The keys of a disk's segments, sorted -/
/-- Keys that may be: each once, numbers of their kind, not many. -/
def keysOk (ks : List Int) : Bool := decide ks.Nodup && ks.all (fun a => decide (0 ≤ a) && decide (a ≤ 18446744073709551615)) && decide (ks.length ≤ 200)
def slices_Sorted_keys (m : List (Int × List Int)) : Option (List Int) := if keysOk (m.map (·.1)) = true then some (sortI (m.map (·.1))) else none
def slices_Sorted_keys_out (m : List (Int × List Int)) : List Int → Res
  | l2 => ([(.one (.own 0 0 (l2).length false))], [[(.mp 1)], [(.maph (.int .u64) false (List.map M_uint64_uint8.pv m) [])]], [(.ints .u64 l2)])
theorem slices_Sorted_keys_runs (m : List (Int × List Int)) (r_ : List Int) (h : slices_Sorted_keys m = some r_) : Runs Try.prog 70 [(.one (.fn 86 [(.ref 0 0)]))] [[(.mp 1)], [(.maph (.int .u64) false (List.map M_uint64_uint8.pv m) [])]] [] (slices_Sorted_keys_out m r_) := by
  unfold slices_Sorted_keys at h
  split at h
  · rename_i hk
    cases h
    simp only [keysOk, Bool.and_eq_true, decide_eq_true_eq, List.all_eq_true] at hk
    have H := Runs.sortedKeys (P := Try.prog) Try.keysL Try.sortedL (by kernel_rfl) (List.map M_uint64_uint8.pv m) false (m.map (·.1)) (by simp [M_uint64_uint8.pv]) hk.1.1 hk.1.2 (by omega)
      (fun l hl => slices_Sort_uint64_runs 201 l.length l _ (sort_full (by omega))) rfl
    rw [← sortI_len (m.map (·.1))] at H
    exact H
  · cases h
def maps_Clone_segs (m : List (Int × List Int)) : Option Unit := some ()
def maps_Clone_segs_out (m : List (Int × List Int)) : Unit → Res
  | _ => ([(.one (.mp 1))], [[(.maph (.int .u64) false (List.map M_uint64_uint8.pv m) [])], [(.maph (.int .u64) false (List.map M_uint64_uint8.pv m) [])]], [])
theorem maps_Clone_segs_runs (m : List (Int × List Int)) (r_ : Unit) (h : maps_Clone_segs m = some r_) : Runs Try.prog 68 [(.one (.mp 0))] [[(.maph (.int .u64) false (List.map M_uint64_uint8.pv m) [])]] [] (maps_Clone_segs_out m r_) :=
  Runs.mapsClone Try.cloneL (by kernel_rfl) _ _ _
end Go.Proofs.Ytgimaogkhblaiaa
