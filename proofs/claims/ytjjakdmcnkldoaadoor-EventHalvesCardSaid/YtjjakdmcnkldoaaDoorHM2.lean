/- FormatUint at base 10 and ParseUint at 10, 64, by value. -/
import Derived.Test.YtjjakdmcnkldoaaDoorM1
import Derived.Test.YtjjakdmcnkldoaaDoorHQ3
set_option linter.unusedVariables false
namespace Go.Proofs.YtjjakdmcnkldoaaDoor
open Go.RowKit Go.Sort Go.Lib Go.Ev

noncomputable def strconv_FormatUint10 (n k : Int) : Option ByteArray :=
  if k = 10 ∧ 0 ≤ n ∧ n < 18446744073709551616 then some ⟨(decDigits n.toNat).toArray⟩ else none
def strconv_FormatUint10_out (n k : Int) : ByteArray → Res
  | s => ([.one (.pv (.str s))], [], [])
theorem strconv_FormatUint10_runs (n k : Int) (r_ : ByteArray) (h : strconv_FormatUint10 n k = some r_) : Runs Tryd.prog 138 [.one (.pv (.int .u64 n)), .one (.pv (.int .i64 k))] [] [] (strconv_FormatUint10_out n k r_) := by
  unfold strconv_FormatUint10 at h
  split at h
  · rename_i hn
    cases h
    obtain ⟨rfl, h0, h1⟩ := hn
    obtain ⟨u, rfl⟩ : ∃ u : Nat, n = (u : Int) := ⟨n.toNat, by omega⟩
    refine Runs.quiet (by kernel_rfl) rfl fun x vals hgd hr => ?_
    rw [rep_two hr]
    rw [Int.toNat_natCast]
    by_cases hs : u < 100
    · refine (formatUint_small u hs x.w).mono ?_
      rintro e w' ⟨rfl, rfl⟩
      exact ⟨_, rfl, Below.refl _ _, fun y _ => rep_str1⟩
    · obtain ⟨g, hg⟩ := Option.isSome_iff_exists.1 (show (Tryd.prog.globalNamed "internal/strconv.uint64pow10").isSome = true by kernel_rfl)
      have htab := (hgd.1 ("internal/strconv.uint64pow10", .u64, pow10Tab) (by simp [tabs])) g hg
      refine (formatUint_big u (by omega) (by omega) x.w htab.2).mono ?_
      rintro e w' ⟨rfl, k, os, rfl⟩
      exact ⟨_, rfl, below_grown _ _ _, fun y _ => rep_str1⟩
  · cases h
noncomputable def strconv_ParseUint (s : ByteArray) (k b : Int) : Option (Int ⊕ Unit) :=
  if k = 10 ∧ b = 64 ∧ s.size ≤ 140737488355328 then (match parseUintB 64 s.data.toList with | .ok u => some (.inl (u : Int)) | .range => none | _ => some (.inr ())) else none
def strconv_ParseUint_out (s : ByteArray) (k b : Int) : Int ⊕ Unit → Res
  | .inl n => ([.one (.pv (.int .u64 n)), .one (.pv .nilI)], [], [])
  | .inr _ => ([.one (.pv (.int .u64 0)), .one (.pv .errI)], [], [])
theorem strconv_ParseUint_runs (s : ByteArray) (k b : Int) (r_ : Int ⊕ Unit) (h : strconv_ParseUint s k b = some r_) : Runs Tryd.prog 164 [.one (.pv (.str s)), .one (.pv (.int .i64 k)), .one (.pv (.int .i64 b))] [] [] (strconv_ParseUint_out s k b r_) := by
  unfold strconv_ParseUint at h
  split at h
  · rename_i hn
    obtain ⟨rfl, rfl, hs⟩ := hn
    cases hp : parseUintB 64 s.data.toList
    · rename_i u
      rw [hp] at h
      cases h
      refine Runs.quiet (by kernel_rfl) rfl fun x vals hgd hr => ?_
      rw [rep_three hr]
      refine (Tryd.strconv_ParseUint_10_at64_ok s (by omega) u hp x.w).mono ?_
      rintro e w' ⟨rfl, hw⟩
      refine ⟨_, rfl, ?_, fun y _ => rep_ok⟩
      rcases hw with rfl | rfl
      · exact Below.refl _ _
      · exact bytesWorld_below _ _ _
    · rw [hp] at h
      cases h
      refine Runs.quiet (by kernel_rfl) rfl fun x vals hgd hr => ?_
      rw [rep_three hr]
      obtain ⟨_, ev, hv, hev⟩ := (hgd.2.1 "strconv.ErrSyntax" (by simp [errs])) 3 (by kernel_rfl)
      refine (Tryd.strconv_ParseUint_10_at64_syntax s (by omega) (hp.trans (if_pos rfl).symm) ev x.w hv hev).mono ?_
      rintro e w' ⟨N, rfl, _, _, hb⟩
      exact ⟨_, rfl, hb, fun y _ => rep_err⟩
    · rw [hp] at h
      cases h
  · cases h
end Go.Proofs.YtjjakdmcnkldoaaDoor
