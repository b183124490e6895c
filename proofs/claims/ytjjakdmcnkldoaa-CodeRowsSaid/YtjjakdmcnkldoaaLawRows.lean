/- For every input, CodeRows answers true, and its arguments read behind the call as they read before. No condition. -/
import Derived.Test.YtjjakdmcnkldoaaRows
import Derived.Test.YtjjakdmcnkldoaaB12
import Derived.Test.YtjjakdmcnkldoaaQ2
set_option linter.unusedVariables false
namespace Go.Proofs.Ytjjakdmcnkldoaa.codeRows
open Go.ChangeShapes Go.WideShapes Go.ChangeAt Go.RowKit Go.Ev
open Go.ChangeMaps (open_string shut_string)
theorem own : ownKnob Try.prog.godebug = none := by kernel_rfl
theorem laidOut : laidOutB Try.prog = true := by kernel_rfl
set_option maxRecDepth 100000 in
theorem lifted (os : Os) (started : os.Started) (H : Type) (enc : TypeId × Value → H) :
    ReturnsInHanded {} Try.checked os 4 .any (Rows.codeRowsSpec.pre6 enc Try.prog Try.f4 Rows.codeRowsRow.domain false) (Rows.codeRowsSpec.post enc Try.prog Try.f4 false true false false) := by
  refine returnsInHanded_of_change_sized (C := Try.checked) own started (by kernel_rfl) Try.func4
    (ChangeSpec.witness6 (enc := enc) (C := Try.checked) false ⟨#[], #[.slice none 0 0, .slice none 0 0, .slice none 0 0, .int .u64 0], []⟩ 8 (by kernel_rfl) (by kernel_rfl) (by kernel_rfl) (by kernel_rfl)) ?_
  intro W base args ds gs before hval0 hW hcnd hsz0 _
  have hsz : (DataW.weightsEach Try.prog (Try.f4.params.toList ++ Rows.codeRowsSpec.plain.varTypes Try.prog) (ds ++ gs)).all (· ≤ reachBytes) = true := hsz0
  have hval : ∀ (j : Nat) t v, Try.f4.params[j]? = some t → args[j]? = some v → Value.okWide Try.prog W .any base t v := hval0
  have hW' := hW
  obtain ⟨p, q, hA0, hV, rfl, hfz, hnd⟩ := hW
  have hA : DataW.TrodAll enc Try.prog W 0 (fun _ => true) true Try.f4.params.toList args.toList ds p := hA0
  rw [Try.params4] at hA hval hsz
  obtain ⟨v0, vs0, d0, ds0, p0, q0, hargs, rfl, rfl, h0, r0⟩ := trodAll_cons hA
  obtain ⟨v1, vs1, d1, ds1, p1, q1, rfl, rfl, rfl, h1, r1⟩ := trodAll_cons r0
  obtain ⟨v2, vs2, d2, ds2, p2, q2, rfl, rfl, rfl, h2, r2⟩ := trodAll_cons r1
  obtain ⟨v3, vs3, d3, ds3, p3, q3, rfl, rfl, rfl, h3, r3⟩ := trodAll_cons r2
  obtain ⟨rfl, rfl, rfl⟩ := trodAll_nil r3
  obtain rfl : args = #[v0, v1, v2, v3] := by cases args; simp_all
  obtain ⟨rfl, rfl⟩ := trodVars_none hV
  have ok0 := (hval 0 22 v0 rfl rfl)
  obtain ⟨a0, len0, cap0, rfl⟩ := okWide_slice Try.underlying22 ok0
  have k0 := h0
  have lt0 : ∀ x ∈ p0, x.block < W.heap.size := by obtain ⟨m, hm⟩ := k0; exact DataW.trod_lt m _ _ _ hm
  obtain ⟨l0, b0, x0⟩ : ∃ l, Bytes l ∧ RepA (topCx W) (.one (.pv (.ints .u8 l false))) (.slice a0 len0 cap0) := bytes_in Try.underlying22 Try.underlying5 (by kernel_rfl) h0
  have ok1 := (hval 1 22 v1 rfl rfl)
  obtain ⟨a1, len1, cap1, rfl⟩ := okWide_slice Try.underlying22 ok1
  have k1 := h1
  have lt1 : ∀ x ∈ p1, x.block < W.heap.size := by obtain ⟨m, hm⟩ := k1; exact DataW.trod_lt m _ _ _ hm
  obtain ⟨l1, b1, x1⟩ : ∃ l, Bytes l ∧ RepA (topCx W) (.one (.pv (.ints .u8 l false))) (.slice a1 len1 cap1) := bytes_in Try.underlying22 Try.underlying5 (by kernel_rfl) h1
  have ok2 := (hval 2 22 v2 rfl rfl)
  obtain ⟨a2, len2, cap2, rfl⟩ := okWide_slice Try.underlying22 ok2
  have k2 := h2
  have lt2 : ∀ x ∈ p2, x.block < W.heap.size := by obtain ⟨m, hm⟩ := k2; exact DataW.trod_lt m _ _ _ hm
  obtain ⟨l2, b2, x2⟩ : ∃ l, Bytes l ∧ RepA (topCx W) (.one (.pv (.ints .u8 l false))) (.slice a2 len2 cap2) := bytes_in Try.underlying22 Try.underlying5 (by kernel_rfl) h2
  obtain ⟨n3, rfl, rfl, rfl, w3⟩ := open_int Try.underlying27 (hval 3 27 v3 rfl rfl) h3
  have g3 := (Lit.wf_int_iff .u64 n3).1 w3
  simp [IntKind.min, IntKind.max, IntKind.bits, IntKind.signed] at g3
  clear hA0 hval0 hsz0 hsz
  have ht : kinfolklaw07_CodeRows 40 l0 l1 l2 n3 = some true := codeRows_true (by decide) b0 b1 b2 (by omega)
  have hruns := kinfolklaw07_CodeRows_runs 40 l0 l1 l2 n3 true ht
  refine (Runs.top (W := W) (vals := [.slice a0 len0 cap0, .slice a1 len1 cap1, .slice a2 len2 cap2, .int .u64 n3]) hruns (gd_none (by kernel_rfl)) ⟨x0, x1, x2, top_int .u64 n3, trivial⟩).mono fun e W' ⟨he, bel⟩ => ?_
  subst he
  exact ⟨_, rfl, _, _, _, [], _, [], hW', trodAll_mk1 (shut_bool Try.underlying4 _), (trodAll_cons_mk (Below.trod laidOut (by kernel_rfl) (of_decide_eq_true (by kernel_rfl)) k0 bel lt0) (trodAll_cons_mk (Below.trod laidOut (by kernel_rfl) (of_decide_eq_true (by kernel_rfl)) k1 bel lt1) (trodAll_cons_mk (Below.trod laidOut (by kernel_rfl) (of_decide_eq_true (by kernel_rfl)) k2 bel lt2) (trodAll_cons_mk (shut_int Try.underlying27 w3) trodAll_mk0)))), rfl, bel.frame _, fun h => by cases h⟩
theorem over : Rows.codeRowsRow.holds Try.pinned (OpenSpec.ofChange Rows.codeRowsSpec) :=
  OpenClaim.holds_of_wide 4 Try.f4 rfl rfl rfl rfl rfl rfl rfl ⟨rfl, rfl, rfl, rfl, rfl⟩ rfl rfl rfl rfl rfl (by kernel_rfl) Try.func4 (by kernel_rfl)
    (of_decide_eq_true (by kernel_rfl)) (by unfold Func.isWrapper; first | (rw [if_pos (by decide +kernel)]; kernel_rfl) | (rw [if_neg (by decide +kernel)]; exact ⟨rfl, rfl⟩))
    (fun os started H enc _ => lifted os started H enc)
end Go.Proofs.Ytjjakdmcnkldoaa.codeRows
namespace Go.Proofs.Ytjjakdmcnkldoaa
/-- The row, under a short name, for the claim. -/
theorem codeRows_holds : Rows.CodeRowsSaid := codeRows.over
#print axioms codeRows_holds
end Go.Proofs.Ytjjakdmcnkldoaa
