/- For every input, DeedPlays answers true, and its arguments read behind the call as they read before. No condition. -/
import Derived.Test.YtjjcmgdgifcmgaaGreatRows
import Derived.Test.YtjjcmgdgifcmgaaGreatH5
import Derived.Test.YtjjcmgdgifcmgaaGreatQ3
import Derived.Test.YtjjcmgdgifcmgaaGreatDIn
set_option linter.unusedVariables false
namespace Go.Proofs.YtjjcmgdgifcmgaaGreat.deedPlays
open Go.ChangeShapes Go.WideShapes Go.ChangeAt Go.RowKit Go.Ev
open Go.ChangeMaps (open_string shut_string)
theorem own : ownKnob Tryz.prog.godebug = none := by kernel_rfl
theorem laidOut : laidOutB Tryz.prog = true := by kernel_rfl
set_option maxRecDepth 100000 in
theorem lifted (os : Os) (started : os.Started) (H : Type) (enc : TypeId × Value → H) :
  ReturnsInHanded {} Tryz.checked os 3 .any (Rows.deedPlaysSpec.pre6 enc Tryz.prog Tryz.f3 Rows.deedPlaysRow.domain false) (Rows.deedPlaysSpec.post enc Tryz.prog Tryz.f3 false true false false) := by
 refine returnsInHanded_of_change_sized (C := Tryz.checked) own started (by kernel_rfl) Tryz.func3
  (ChangeSpec.witness6 (enc := enc) (C := Tryz.checked) false ⟨#[], #[.int .u8 0, .slice none 0 0], []⟩ 8 (by kernel_rfl) (by kernel_rfl) (by kernel_rfl) (by kernel_rfl)) ?_
 intro W base args ds gs before hval0 hW hcnd hsz0 _
 have hsz : (DataW.weightsEach Tryz.prog (Tryz.f3.params.toList ++ Rows.deedPlaysSpec.plain.varTypes Tryz.prog) (ds ++ gs)).all (· ≤ reachBytes) = true := hsz0
 have hval : ∀ (j : Nat) t v, Tryz.f3.params[j]? = some t → args[j]? = some v → Value.okWide Tryz.prog W .any base t v := hval0
 have hW' := hW
 obtain ⟨p, q, hA0, hV, rfl, hfz, hnd⟩ := hW
 have hA : DataW.TrodAll enc Tryz.prog W 0 (fun _ => true) true Tryz.f3.params.toList args.toList ds p := hA0
 rw [Tryz.params3] at hA hval hsz
 obtain ⟨v0, vs0, d0, ds0, p0, q0, hargs, rfl, rfl, h0, r0⟩ := trodAll_cons hA
 obtain ⟨v1, vs1, d1, ds1, p1, q1, rfl, rfl, rfl, h1, r1⟩ := trodAll_cons r0
 obtain ⟨rfl, rfl, rfl⟩ := trodAll_nil r1
 obtain rfl : args = #[v0, v1] := by cases args; simp_all
 obtain ⟨rfl, rfl⟩ := trodVars_none hV
 obtain ⟨n0, rfl, rfl, rfl, w0⟩ := open_int Tryz.underlying5 (hval 0 5 v0 rfl rfl) h0
 have g0 := (Lit.wf_int_iff .u8 n0).1 w0
 simp [IntKind.min, IntKind.max, IntKind.bits, IntKind.signed] at g0
 have ok1 := (hval 1 22 v1 rfl rfl)
 obtain ⟨a1, len1, cap1, rfl⟩ := okWide_slice Tryz.underlying22 ok1
 have k1 := h1
 have lt1 : ∀ x ∈ p1, x.block < W.heap.size := by obtain ⟨m, hm⟩ := k1; exact DataW.trod_lt m _ _ _ hm
 obtain ⟨l1, b1, x1⟩ := acts_in Tryz.underlying22 Tryz.underlying35 Tryz.underlying5 (by kernel_rfl) Tryz.underlying5 Tryz.underlying3 Tryz.underlying3 Tryz.underlying27 Tryz.underlying33 (by kernel_rfl) ⟨rfl, rfl, rfl, rfl, rfl⟩ ⟨by kernel_rfl, by kernel_rfl, by kernel_rfl, by kernel_rfl, by kernel_rfl⟩ h1
 clear hA0 hval0 hsz0 hsz
 have ht : kl15_DeedPlays 100 n0 l1 = some true := plays15 (by decide) (by omega) b1
 have hruns := kl15_DeedPlays_runs 100 n0 l1 true ht
 refine (Runs.top (W := W) (vals := [.int .u8 n0, .slice a1 len1 cap1]) hruns (gd_none (by kernel_rfl) (by kernel_rfl) (by kernel_rfl)) ⟨top_int .u8 n0, x1, trivial⟩).mono fun e W' ⟨he, bel⟩ => ?_
 subst he
 exact ⟨_, rfl, _, _, _, [], _, [], hW', trodAll_mk1 (shut_bool Tryz.underlying4 _), (trodAll_cons_mk (shut_int Tryz.underlying5 w0) (trodAll_cons_mk (Below.trod laidOut (by kernel_rfl) (of_decide_eq_true (by kernel_rfl)) k1 bel lt1) trodAll_mk0)), rfl, bel.frame _, fun h => by cases h⟩
theorem over : Rows.deedPlaysRow.holds Tryz.pinned (OpenSpec.ofChange Rows.deedPlaysSpec) :=
 OpenClaim.holds_of_wide 3 Tryz.f3 rfl rfl rfl rfl rfl rfl rfl ⟨rfl, rfl, rfl, rfl, rfl⟩ rfl rfl rfl rfl rfl (by kernel_rfl) Tryz.func3 (by kernel_rfl)
  (of_decide_eq_true (by kernel_rfl)) (by unfold Func.isWrapper; first | (rw [if_pos (by decide +kernel)]; kernel_rfl) | (rw [if_neg (by decide +kernel)]; exact ⟨rfl, rfl⟩))
  (fun os started H enc _ => lifted os started H enc)
end Go.Proofs.YtjjcmgdgifcmgaaGreat.deedPlays
namespace Go.Proofs.YtjjcmgdgifcmgaaGreat
theorem deedPlays_holds : Rows.DeedPlaysSaid := deedPlays.over
#print axioms deedPlays_holds
end Go.Proofs.YtjjcmgdgifcmgaaGreat
