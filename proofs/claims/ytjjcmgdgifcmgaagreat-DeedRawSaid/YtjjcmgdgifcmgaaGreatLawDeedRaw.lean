/- For every input, DeedRaw answers true, and its arguments read behind the call as they read before. No condition. -/
import Derived.Test.YtjjcmgdgifcmgaaGreatRows
import Derived.Test.YtjjcmgdgifcmgaaGreatR7
import Derived.Test.YtjjcmgdgifcmgaaGreatQ3
set_option linter.unusedVariables false
namespace Go.Proofs.YtjjcmgdgifcmgaaGreat.deedRaw
open Go.ChangeShapes Go.WideShapes Go.ChangeAt Go.RowKit Go.Ev
open Go.ChangeMaps (open_string shut_string)
theorem own : ownKnob Tryz.prog.godebug = none := by kernel_rfl
theorem zwx : laidOutB Tryz.prog = true := by kernel_rfl
set_option maxRecDepth 100000 in
theorem zxh (os : Os) (started : os.Started) (H : Type) (enc : TypeId × Value → H) :
  ReturnsInHanded {} Tryz.checked os 5 .any (Rows.deedRawSpec.pre6 enc Tryz.prog Tryz.f5 Rows.deedRawRow.domain false) (Rows.deedRawSpec.post enc Tryz.prog Tryz.f5 false true false false) := by
 refine returnsInHanded_of_change_sized (C := Tryz.checked) own started (by kernel_rfl) Tryz.func5
  (ChangeSpec.witness6 (enc := enc) (C := Tryz.checked) false ⟨#[], #[.slice none 0 0], []⟩ 8 (by kernel_rfl) (by kernel_rfl) (by kernel_rfl) (by kernel_rfl)) ?_
 intro W base args ds gs before hval0 hW hcnd hsz0 _
 have hsz : (DataW.weightsEach Tryz.prog (Tryz.f5.params.toList ++ Rows.deedRawSpec.plain.varTypes Tryz.prog) (ds ++ gs)).all (· ≤ reachBytes) = true := hsz0
 have hval : ∀ (j : Nat) t v, Tryz.f5.params[j]? = some t → args[j]? = some v → Value.okWide Tryz.prog W .any base t v := hval0
 have hW' := hW
 obtain ⟨p, q, hA0, hV, rfl, hfz, hnd⟩ := hW
 have hA : DataW.TrodAll enc Tryz.prog W 0 (fun _ => true) true Tryz.f5.params.toList args.toList ds p := hA0
 rw [Tryz.params5] at hA hval hsz
 obtain ⟨v0, vs0, d0, ds0, p0, q0, hargs, rfl, rfl, h0, r0⟩ := trodAll_cons hA
 obtain ⟨rfl, rfl, rfl⟩ := trodAll_nil r0
 obtain rfl : args = #[v0] := by cases args; simp_all
 obtain ⟨rfl, rfl⟩ := trodVars_none hV
 have ok0 := (hval 0 33 v0 rfl rfl)
 obtain ⟨a0, len0, cap0, rfl⟩ := okWide_slice Tryz.underlying33 ok0
 have k0 := h0
 have lt0 : ∀ x ∈ p0, x.block < W.heap.size := by obtain ⟨m, hm⟩ := k0; exact DataW.trod_lt m _ _ _ hm
 obtain ⟨l0, b0, x0⟩ : ∃ l, Bytes l ∧ RepA (zqt W) (.one (.pv (.ints .u8 l false))) (.slice a0 len0 cap0) := zvb Tryz.underlying33 Tryz.underlying5 (by kernel_rfl) h0
 clear hA0 hval0 hsz0 hsz
 have ht : zgz 100 l0 = some true := zxN (by decide) b0
 have hruns := zl6 100 l0 true ht
 refine (Runs.top (W := W) (vals := [.slice a0 len0 cap0]) hruns (zwt (by kernel_rfl) (by kernel_rfl) (by kernel_rfl)) ⟨x0, trivial⟩).mono fun e W' ⟨he, bel⟩ => ?_
 subst he
 exact ⟨_, rfl, _, _, _, [], _, [], hW', trodAll_mk1 (shut_bool Tryz.underlying4 _), (trodAll_cons_mk (Below.trod zwx (by kernel_rfl) (of_decide_eq_true (by kernel_rfl)) k0 bel lt0) trodAll_mk0), rfl, bel.frame _, fun h => by cases h⟩
theorem over : Rows.deedRawRow.holds Tryz.pinned (OpenSpec.ofChange Rows.deedRawSpec) :=
 OpenClaim.holds_of_wide 5 Tryz.f5 rfl rfl rfl rfl rfl rfl rfl ⟨rfl, rfl, rfl, rfl, rfl⟩ rfl rfl rfl rfl rfl (by kernel_rfl) Tryz.func5 (by kernel_rfl)
  (of_decide_eq_true (by kernel_rfl)) (by unfold Func.isWrapper; first | (rw [if_pos (by decide +kernel)]; kernel_rfl) | (rw [if_neg (by decide +kernel)]; exact ⟨rfl, rfl⟩))
  (fun os started H enc _ => zxh os started H enc)
end Go.Proofs.YtjjcmgdgifcmgaaGreat.deedRaw
namespace Go.Proofs.YtjjcmgdgifcmgaaGreat
theorem deedRaw_holds : Rows.DeedRawSaid := deedRaw.over
#print axioms deedRaw_holds
end Go.Proofs.YtjjcmgdgifcmgaaGreat
