/- For every input, DeedGifts answers true, and its arguments read behind the call as they read before. No condition. -/
import Derived.Test.YtjjcmgdgifcmgaaRows
import Derived.Test.YtjjcmgdgifcmgaaD11
import Derived.Test.YtjjcmgdgifcmgaaQ3
set_option linter.unusedVariables false
namespace Go.Proofs.Ytjjcmgdgifcmgaa.deedGifts
open Go.ChangeShapes Go.WideShapes Go.ChangeAt Go.RowKit Go.Ev
open Go.ChangeMaps (open_string shut_string)
theorem own : ownKnob Try.prog.godebug = none := by kernel_rfl
theorem laidOut : laidOutB Try.prog = true := by kernel_rfl
set_option maxRecDepth 100000 in
theorem lifted (os : Os) (started : os.Started) (H : Type) (enc : TypeId × Value → H) :
    ReturnsInHanded {} Try.checked os 3 .any (Rows.deedGiftsSpec.pre6 enc Try.prog Try.f3 Rows.deedGiftsRow.domain false) (Rows.deedGiftsSpec.post enc Try.prog Try.f3 false true false false) := by
  refine returnsInHanded_of_change_sized (C := Try.checked) own started (by kernel_rfl) Try.func3
    (ChangeSpec.witness6 (enc := enc) (C := Try.checked) false ⟨#[], #[.slice none 0 0, .int .u64 0, .int .i64 0, .int .i64 0, .slice none 0 0], []⟩ 8 (by kernel_rfl) (by kernel_rfl) (by kernel_rfl) (by kernel_rfl)) ?_
  intro W base args ds gs before hval0 hW hcnd hsz0 _
  have hsz : (DataW.weightsEach Try.prog (Try.f3.params.toList ++ Rows.deedGiftsSpec.plain.varTypes Try.prog) (ds ++ gs)).all (· ≤ reachBytes) = true := hsz0
  have hval : ∀ (j : Nat) t v, Try.f3.params[j]? = some t → args[j]? = some v → Value.okWide Try.prog W .any base t v := hval0
  have hW' := hW
  obtain ⟨p, q, hA0, hV, rfl, hfz, hnd⟩ := hW
  have hA : DataW.TrodAll enc Try.prog W 0 (fun _ => true) true Try.f3.params.toList args.toList ds p := hA0
  rw [Try.params3] at hA hval hsz
  obtain ⟨v0, vs0, d0, ds0, p0, q0, hargs, rfl, rfl, h0, r0⟩ := trodAll_cons hA
  obtain ⟨v1, vs1, d1, ds1, p1, q1, rfl, rfl, rfl, h1, r1⟩ := trodAll_cons r0
  obtain ⟨v2, vs2, d2, ds2, p2, q2, rfl, rfl, rfl, h2, r2⟩ := trodAll_cons r1
  obtain ⟨v3, vs3, d3, ds3, p3, q3, rfl, rfl, rfl, h3, r3⟩ := trodAll_cons r2
  obtain ⟨v4, vs4, d4, ds4, p4, q4, rfl, rfl, rfl, h4, r4⟩ := trodAll_cons r3
  obtain ⟨rfl, rfl, rfl⟩ := trodAll_nil r4
  obtain rfl : args = #[v0, v1, v2, v3, v4] := by cases args; simp_all
  obtain ⟨rfl, rfl⟩ := trodVars_none hV
  have ok0 := (hval 0 22 v0 rfl rfl)
  obtain ⟨a0, len0, cap0, rfl⟩ := okWide_slice Try.underlying22 ok0
  have k0 := h0
  have lt0 : ∀ x ∈ p0, x.block < W.heap.size := by obtain ⟨m, hm⟩ := k0; exact DataW.trod_lt m _ _ _ hm
  obtain ⟨l0, b0, x0⟩ : ∃ l, Bytes l ∧ RepA (topCx W) (.one (.pv (.ints .u8 l false))) (.slice a0 len0 cap0) := bytes_in Try.underlying22 Try.underlying5 (by kernel_rfl) h0
  obtain ⟨n1, rfl, rfl, rfl, w1⟩ := open_int Try.underlying23 (hval 1 23 v1 rfl rfl) h1
  have g1 := (Lit.wf_int_iff .u64 n1).1 w1
  simp [IntKind.min, IntKind.max, IntKind.bits, IntKind.signed] at g1
  obtain ⟨n2, rfl, rfl, rfl, w2⟩ := open_int Try.underlying3 (hval 2 3 v2 rfl rfl) h2
  have g2 := (Lit.wf_int_iff .i64 n2).1 w2
  simp [IntKind.min, IntKind.max, IntKind.bits, IntKind.signed] at g2
  obtain ⟨n3, rfl, rfl, rfl, w3⟩ := open_int Try.underlying3 (hval 3 3 v3 rfl rfl) h3
  have g3 := (Lit.wf_int_iff .i64 n3).1 w3
  simp [IntKind.min, IntKind.max, IntKind.bits, IntKind.signed] at g3
  have ok4 := (hval 4 22 v4 rfl rfl)
  obtain ⟨a4, len4, cap4, rfl⟩ := okWide_slice Try.underlying22 ok4
  have k4 := h4
  have lt4 : ∀ x ∈ p4, x.block < W.heap.size := by obtain ⟨m, hm⟩ := k4; exact DataW.trod_lt m _ _ _ hm
  obtain ⟨l4, b4, x4⟩ : ∃ l, Bytes l ∧ RepA (topCx W) (.one (.pv (.ints .u8 l false))) (.slice a4 len4 cap4) := bytes_in Try.underlying22 Try.underlying5 (by kernel_rfl) h4
  clear hA0 hval0 hsz0 hsz
  have ht : kinfolklaw15_DeedGifts 100 l0 n1 n2 n3 l4 = some true := gifts15 (by decide) b0 b4 (by omega) (by omega)
  have hruns := kinfolklaw15_DeedGifts_runs 100 l0 n1 n2 n3 l4 true ht
  refine (Runs.top (W := W) (vals := [.slice a0 len0 cap0, .int .u64 n1, .int .i64 n2, .int .i64 n3, .slice a4 len4 cap4]) hruns (gd_none (by kernel_rfl) (by kernel_rfl) (by kernel_rfl)) ⟨x0, top_int .u64 n1, top_int .i64 n2, top_int .i64 n3, x4, trivial⟩).mono fun e W' ⟨he, bel⟩ => ?_
  subst he
  exact ⟨_, rfl, _, _, _, [], _, [], hW', trodAll_mk1 (shut_bool Try.underlying4 _), (trodAll_cons_mk (Below.trod laidOut (by kernel_rfl) (of_decide_eq_true (by kernel_rfl)) k0 bel lt0) (trodAll_cons_mk (shut_int Try.underlying23 w1) (trodAll_cons_mk (shut_int Try.underlying3 w2) (trodAll_cons_mk (shut_int Try.underlying3 w3) (trodAll_cons_mk (Below.trod laidOut (by kernel_rfl) (of_decide_eq_true (by kernel_rfl)) k4 bel lt4) trodAll_mk0))))), rfl, bel.frame _, fun h => by cases h⟩
theorem over : Rows.deedGiftsRow.holds Try.pinned (OpenSpec.ofChange Rows.deedGiftsSpec) :=
  OpenClaim.holds_of_wide 3 Try.f3 rfl rfl rfl rfl rfl rfl rfl ⟨rfl, rfl, rfl, rfl, rfl⟩ rfl rfl rfl rfl rfl (by kernel_rfl) Try.func3 (by kernel_rfl)
    (of_decide_eq_true (by kernel_rfl)) (by unfold Func.isWrapper; first | (rw [if_pos (by decide +kernel)]; kernel_rfl) | (rw [if_neg (by decide +kernel)]; exact ⟨rfl, rfl⟩))
    (fun os started H enc _ => lifted os started H enc)
end Go.Proofs.Ytjjcmgdgifcmgaa.deedGifts
namespace Go.Proofs.Ytjjcmgdgifcmgaa
/-- The row, under a short name, for the claim. -/
theorem deedGifts_holds : Rows.DeedGiftsSaid := deedGifts.over
#print axioms deedGifts_holds
end Go.Proofs.Ytjjcmgdgifcmgaa
