/- For every input, EventLimits answers true, and its arguments read behind the call as they read before. No condition. -/
import Derived.Test.YtjjakdmcnkldoaaDoorRows
import Derived.Test.YtjjakdmcnkldoaaDoorT8
import Derived.Test.YtjjakdmcnkldoaaDoorQ2
import Derived.Test.YtjjakdmcnkldoaaDoorGd
import Derived.Test.YtjjakdmcnkldoaaDoorTie
import Derived.Test.YtjjakdmcnkldoaaDoorCards
import Derived.Lay
import Derived.Handed
import Derived.LaidOnce
import Derived.SevenTiedAt
set_option linter.unusedVariables false
namespace Go.Proofs.YtjjakdmcnkldoaaDoor.eventLimits
open Go.ChangeShapes Go.WideShapes Go.ChangeAt Go.RowKit Go.Ev
open Go.ChangeMaps (open_string shut_string)
theorem own : ownKnob Tryd.prog.godebug = none := by kernel_rfl
set_option maxRecDepth 100000 in
theorem lifted (os : Os) (started : os.Started) (H : Type) (enc : TypeId × Value → H) :
    ReturnsInHanded {} Tryd.checked os 11 .any (fun w args => (Rows.eventLimitsSpec.pre enc Tryd.prog Tryd.f11 [] false w args ∧ laidMetH Tryd.prog laidE w) ∧ sizedMet enc Tryd.prog Tryd.f11 (OpenSpec.ofChange Rows.eventLimitsSpec) false w args)
      (Rows.eventLimitsSpec.post enc Tryd.prog Tryd.f11 false true false false) := by
  refine returnsInHanded_of_change_and (C := Tryd.checked) (X := fun w _ => laidMetH Tryd.prog laidE w) (fun _ _ _ hh h => h.of_heap hh) own started (by kernel_rfl) Tryd.func11
    (ChangeSpec.witness_at (enc := enc) (C := Tryd.checked) (os := os) (X := fun w _ => laidMetH Tryd.prog laidE w) false (World.laidAll Tryd.prog os laidE) #[.int .u64 0, .int .u8 0, .int .u64 0] 8 (World.laidAll_os _ _ _) (by kernel_rfl) (by kernel_rfl) (by kernel_rfl) (by kernel_rfl) (by kernel_rfl)
      (by rw [MakeChecks.laidMetH_plain _ _ _ (by kernel_rfl)]; exact laidMet_laidAll _ (by kernel_rfl) (by kernel_rfl))) ?_
  intro W base args ds gs before hval0 hW hcnd hsz0 hL _
  have hsz : (DataW.weightsEach Tryd.prog (Tryd.f11.params.toList ++ Rows.eventLimitsSpec.plain.varTypes Tryd.prog) (ds ++ gs)).all (· ≤ reachBytes) = true := hsz0
  have hval : ∀ (j : Nat) t v, Tryd.f11.params[j]? = some t → args[j]? = some v → Value.okWide Tryd.prog W .any base t v := hval0
  have hW' := hW
  obtain ⟨p, q, hA0, hV, rfl, hfz, hnd⟩ := hW
  have hA : DataW.TrodAll enc Tryd.prog W 0 (fun _ => true) true Tryd.f11.params.toList args.toList ds p := hA0
  rw [Tryd.params11] at hA hval hsz
  obtain ⟨v0, vs0, d0, ds0, p0, q0, hargs, rfl, rfl, h0, r0⟩ := trodAll_cons hA
  obtain ⟨v1, vs1, d1, ds1, p1, q1, rfl, rfl, rfl, h1, r1⟩ := trodAll_cons r0
  obtain ⟨v2, vs2, d2, ds2, p2, q2, rfl, rfl, rfl, h2, r2⟩ := trodAll_cons r1
  obtain ⟨rfl, rfl, rfl⟩ := trodAll_nil r2
  obtain rfl : args = #[v0, v1, v2] := by cases args; simp_all
  obtain ⟨rfl, rfl⟩ := trodVars_none hV
  obtain ⟨n0, rfl, rfl, rfl, w0⟩ := open_int Tryd.underlying27 (hval 0 27 v0 rfl rfl) h0
  have g0 := (Lit.wf_int_iff .u64 n0).1 w0
  simp [IntKind.min, IntKind.max, IntKind.bits, IntKind.signed] at g0
  obtain ⟨n1, rfl, rfl, rfl, w1⟩ := open_int Tryd.underlying5 (hval 1 5 v1 rfl rfl) h1
  have g1 := (Lit.wf_int_iff .u8 n1).1 w1
  simp [IntKind.min, IntKind.max, IntKind.bits, IntKind.signed] at g1
  obtain ⟨n2, rfl, rfl, rfl, w2⟩ := open_int Tryd.underlying27 (hval 2 27 v2 rfl rfl) h2
  have g2 := (Lit.wf_int_iff .u64 n2).1 w2
  simp [IntKind.min, IntKind.max, IntKind.bits, IntKind.signed] at g2
  clear hA0 hval0 hsz0 hsz
  have ht : kinfolklaw02_EventLimits 40 n0 n1 n2 = some true := eventLimits_true (by decide) (by omega) (by omega) (by omega)
  have hruns := kinfolklaw02_EventLimits_runs 40 n0 n1 n2 true ht
  refine (Runs.top (W := W) (vals := [.int .u64 n0, .int .u8 n1, .int .u64 n2]) hruns (gdE hL) ⟨top_int .u64 n0, top_int .u8 n1, top_int .u64 n2, trivial⟩).mono fun e W' ⟨he, bel⟩ => ?_
  subst he
  exact ⟨_, rfl, _, _, _, [], _, [], hW', trodAll_mk1 (shut_bool Tryd.underlying4 _), (trodAll_cons_mk (shut_int Tryd.underlying27 w0) (trodAll_cons_mk (shut_int Tryd.underlying5 w1) (trodAll_cons_mk (shut_int Tryd.underlying27 w2) trodAll_mk0))), rfl, bel.frame _, fun h => by cases h⟩
theorem over : Rows.eventLimitsRow.holds Tryd.pinned (OpenSpec.ofChange Rows.eventLimitsSpec) :=
  OpenClaim.holds_of_wide 11 Tryd.f11 rfl rfl rfl rfl rfl rfl rfl ⟨rfl, rfl, rfl, rfl, rfl⟩ rfl rfl rfl rfl rfl (by kernel_rfl) Tryd.func11 (by kernel_rfl)
    (of_decide_eq_true (by kernel_rfl)) (by unfold Func.isWrapper; first | (rw [if_pos (by decide +kernel)]; kernel_rfl) | (rw [if_neg (by decide +kernel)]; exact ⟨rfl, rfl⟩))
    (fun os started H enc _ => lifted os started H enc)

theorem card : Rows.EventLimitsCardSaid :=
  Claim7.holds_tied_plain_at .later [] [.data, .data, .data, .sentinel, .sentinel] true (true, "692ffe8abb6c5422b0c74d4304d3fab3669136bf634019fd1c9fbb54e197d8dc") true over (fun _ h => by cases h) (by kernel_rfl) (fun _ h => by cases h) eventLimits_row_tie rfl ⟨rfl, rfl⟩ (by kernel_rfl) rfl
    (fun f fn hf hfn => by
      obtain rfl : f = 11 := Option.some.inj ((show Tryd.prog.funcNamed "kinfolk/kinfolklaw02.EventLimits" = some 11 by kernel_rfl).symm.trans hf) |>.symm
      obtain rfl : fn = Tryd.f11 := (Option.some.inj (Tryd.func11.symm.trans hfn)).symm
      exact ⟨by kernel_rfl, fun j t ht => by
        rw [Tryd.params11] at ht
        have hm : t ∈ [27, 5, 27] := by simpa using Array.mem_of_getElem? ht
        have hall : ([27, 5, 27].all fun u => !Tryd.prog.wantsStandIn u) = true := by kernel_rfl
        exact (show Tryd.prog.wantsStandIn t = false by simpa using List.all_eq_true.1 hall t hm)⟩)
    (by kernel_rfl)
end Go.Proofs.YtjjakdmcnkldoaaDoor.eventLimits
namespace Go.Proofs.YtjjakdmcnkldoaaDoor
/-- The card, under a short name, for the claim. -/
theorem eventLimitsCard_holds : Rows.EventLimitsCardSaid := eventLimits.card
#print axioms eventLimitsCard_holds
end Go.Proofs.YtjjakdmcnkldoaaDoor
