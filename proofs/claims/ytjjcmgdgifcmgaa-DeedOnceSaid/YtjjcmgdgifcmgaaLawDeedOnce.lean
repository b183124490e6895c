/- For every input, DeedOnce answers true, and its arguments read behind the call as they read before. No condition. -/
import Derived.Test.YtjjcmgdgifcmgaaRows
import Derived.Test.YtjjcmgdgifcmgaaE2
import Derived.Test.YtjjcmgdgifcmgaaQ3
set_option linter.unusedVariables false
namespace Go.Proofs.Ytjjcmgdgifcmgaa.deedOnce
open Go.ChangeShapes Go.WideShapes Go.ChangeAt Go.RowKit Go.Ev
open Go.ChangeMaps (open_string shut_string)
theorem own : ownKnob Try.prog.godebug = none := by kernel_rfl
theorem laidOut : laidOutB Try.prog = true := by kernel_rfl
set_option maxRecDepth 100000 in
theorem lifted (os : Os) (started : os.Started) (H : Type) (enc : TypeId × Value → H) :
    ReturnsInHanded {} Try.checked os 4 .any (Rows.deedOnceSpec.pre6 enc Try.prog Try.f4 Rows.deedOnceRow.domain false) (Rows.deedOnceSpec.post enc Try.prog Try.f4 false true false false) := by
  refine returnsInHanded_of_change_sized (C := Try.checked) own started (by kernel_rfl) Try.func4
    (ChangeSpec.witness6 (enc := enc) (C := Try.checked) false ⟨#[], #[.int .u8 0, .int .u8 0, .slice none 0 0, .slice none 0 0], []⟩ 8 (by kernel_rfl) (by kernel_rfl) (by kernel_rfl) (by kernel_rfl)) ?_
  intro W base args ds gs before hval0 hW hcnd hsz0 _
  have hsz : (DataW.weightsEach Try.prog (Try.f4.params.toList ++ Rows.deedOnceSpec.plain.varTypes Try.prog) (ds ++ gs)).all (· ≤ reachBytes) = true := hsz0
  have hval : ∀ (j : Nat) t v, Try.f4.params[j]? = some t → args[j]? = some v → Value.okWide Try.prog W .any base t v := hval0
  have hW' := hW
  obtain ⟨p, q, hA0, hV, rfl, hfz, hnd⟩ := hW
  have hA : DataW.TrodAll enc Try.prog W 0 (fun _ => true) true Try.f4.params.toList args.toList ds p := hA0
  rw [Try.params4] at hA hval hsz
  obtain ⟨v0, vs0, d0, ds0, p0, q0, hargs, rfl, rfl, h0, r0⟩ := trodAll_cons hA
  obtain ⟨v1, vs1, d1, ds1, p1, q1, rfl, rfl, rfl, h1, r1⟩ := trodAll_cons r0
  obtain ⟨v2, vs2, d2, ds2, p2, q2, rfl, rfl, rfl, h2, r2⟩ := trodAll_cons r1
  obtain ⟨v3, vs3, d3, ds3, p3, q3, rfl, rfl, rfl, h3, r3⟩ := trodAll_cons r2
  obtain ⟨rfl, rfl, rfl⟩ := trodAll_nil r3
  obtain rfl : args = #[v0, v1, v2, v3] := by cases args; simp_all
  obtain ⟨rfl, rfl⟩ := trodVars_none hV
  obtain ⟨n0, rfl, rfl, rfl, w0⟩ := open_int Try.underlying5 (hval 0 5 v0 rfl rfl) h0
  have g0 := (Lit.wf_int_iff .u8 n0).1 w0
  simp [IntKind.min, IntKind.max, IntKind.bits, IntKind.signed] at g0
  obtain ⟨n1, rfl, rfl, rfl, w1⟩ := open_int Try.underlying5 (hval 1 5 v1 rfl rfl) h1
  have g1 := (Lit.wf_int_iff .u8 n1).1 w1
  simp [IntKind.min, IntKind.max, IntKind.bits, IntKind.signed] at g1
  have ok2 := (hval 2 22 v2 rfl rfl)
  obtain ⟨a2, len2, cap2, rfl⟩ := okWide_slice Try.underlying22 ok2
  have k2 := h2
  have lt2 : ∀ x ∈ p2, x.block < W.heap.size := by obtain ⟨m, hm⟩ := k2; exact DataW.trod_lt m _ _ _ hm
  obtain ⟨l2, b2, x2⟩ : ∃ l, Bytes l ∧ RepA (topCx W) (.one (.pv (.ints .u8 l false))) (.slice a2 len2 cap2) := bytes_in Try.underlying22 Try.underlying5 (by kernel_rfl) h2
  have ok3 := (hval 3 22 v3 rfl rfl)
  obtain ⟨a3, len3, cap3, rfl⟩ := okWide_slice Try.underlying22 ok3
  have k3 := h3
  have lt3 : ∀ x ∈ p3, x.block < W.heap.size := by obtain ⟨m, hm⟩ := k3; exact DataW.trod_lt m _ _ _ hm
  obtain ⟨l3, b3, x3⟩ : ∃ l, Bytes l ∧ RepA (topCx W) (.one (.pv (.ints .u8 l false))) (.slice a3 len3 cap3) := bytes_in Try.underlying22 Try.underlying5 (by kernel_rfl) h3
  clear hA0 hval0 hsz0 hsz
  have ht : kinfolklaw15_DeedOnce 100 n0 n1 l2 l3 = some true := once15 (by decide) (by omega) (by omega) b2 b3
  have hruns := kinfolklaw15_DeedOnce_runs 100 n0 n1 l2 l3 true ht
  refine (Runs.top (W := W) (vals := [.int .u8 n0, .int .u8 n1, .slice a2 len2 cap2, .slice a3 len3 cap3]) hruns (gd_none (by kernel_rfl) (by kernel_rfl) (by kernel_rfl)) ⟨top_int .u8 n0, top_int .u8 n1, x2, x3, trivial⟩).mono fun e W' ⟨he, bel⟩ => ?_
  subst he
  exact ⟨_, rfl, _, _, _, [], _, [], hW', trodAll_mk1 (shut_bool Try.underlying4 _), (trodAll_cons_mk (shut_int Try.underlying5 w0) (trodAll_cons_mk (shut_int Try.underlying5 w1) (trodAll_cons_mk (Below.trod laidOut (by kernel_rfl) (of_decide_eq_true (by kernel_rfl)) k2 bel lt2) (trodAll_cons_mk (Below.trod laidOut (by kernel_rfl) (of_decide_eq_true (by kernel_rfl)) k3 bel lt3) trodAll_mk0)))), rfl, bel.frame _, fun h => by cases h⟩
theorem over : Rows.deedOnceRow.holds Try.pinned (OpenSpec.ofChange Rows.deedOnceSpec) :=
  OpenClaim.holds_of_wide 4 Try.f4 rfl rfl rfl rfl rfl rfl rfl ⟨rfl, rfl, rfl, rfl, rfl⟩ rfl rfl rfl rfl rfl (by kernel_rfl) Try.func4 (by kernel_rfl)
    (of_decide_eq_true (by kernel_rfl)) (by unfold Func.isWrapper; first | (rw [if_pos (by decide +kernel)]; kernel_rfl) | (rw [if_neg (by decide +kernel)]; exact ⟨rfl, rfl⟩))
    (fun os started H enc _ => lifted os started H enc)
end Go.Proofs.Ytjjcmgdgifcmgaa.deedOnce
namespace Go.Proofs.Ytjjcmgdgifcmgaa
/-- The row, under a short name, for the claim. -/
theorem deedOnce_holds : Rows.DeedOnceSaid := deedOnce.over
#print axioms deedOnce_holds
end Go.Proofs.Ytjjcmgdgifcmgaa
