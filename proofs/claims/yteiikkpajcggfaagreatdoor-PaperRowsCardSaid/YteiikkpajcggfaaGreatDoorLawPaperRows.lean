/- For every input, PaperRows answers true, and its arguments read behind the call as they read before. No condition. -/
import Derived.Test.YteiikkpajcggfaaGreatDoorRows
import Derived.Test.YteiikkpajcggfaaGreatDoorPT4
import Derived.Test.YteiikkpajcggfaaGreatDoorRIn
import Derived.Test.YteiikkpajcggfaaGreatDoorQ3
import Derived.Test.YteiikkpajcggfaaGreatDoorGd
import Derived.Test.YteiikkpajcggfaaGreatDoorTie
import Derived.Test.YteiikkpajcggfaaGreatDoorCards
import Derived.Lay
import Derived.Handed
import Derived.LaidOnce
import Derived.SevenTiedAt
set_option linter.unusedVariables false
namespace Go.Proofs.YteiikkpajcggfaaGreatDoor.paperRows
open Go.ChangeShapes Go.WideShapes Go.ChangeAt Go.RowKit Go.Ev
open Go.ChangeMaps (open_string shut_string)
theorem own : ownKnob Tryz.prog.godebug = none := by kernel_rfl
theorem laidOut : laidOutB Tryz.prog = true := by kernel_rfl
set_option maxRecDepth 100000 in
theorem lifted (os : Os) (started : os.Started) (H : Type) (enc : TypeId × Value → H) :
    ReturnsInHanded {} Tryz.checked os 7 .any (fun w args => (Rows.paperRowsSpec.pre enc Tryz.prog Tryz.f7 [] false w args ∧ laidMetH Tryz.prog laidU w) ∧ sizedMet enc Tryz.prog Tryz.f7 (OpenSpec.ofChange Rows.paperRowsSpec) false w args)
      (Rows.paperRowsSpec.post enc Tryz.prog Tryz.f7 false true false false) := by
  refine returnsInHanded_of_change_and (C := Tryz.checked) (X := fun w _ => laidMetH Tryz.prog laidU w) (fun _ _ _ hh h => h.of_heap hh) own started (by kernel_rfl) Tryz.func7
    (ChangeSpec.witness_at (enc := enc) (C := Tryz.checked) (os := os) (X := fun w _ => laidMetH Tryz.prog laidU w) false (World.laidAll Tryz.prog os laidU) #[.slice none 0 0, .int .u8 0] 8 (World.laidAll_os _ _ _) (by kernel_rfl) (by kernel_rfl) (by kernel_rfl) (by kernel_rfl) (by kernel_rfl)
      (by rw [MakeChecks.laidMetH_plain _ _ _ (by kernel_rfl)]; exact laidMet_laidAll _ (by kernel_rfl) (by kernel_rfl))) ?_
  intro W base args ds gs before hval0 hW hcnd hsz0 hL _
  have hsz : (DataW.weightsEach Tryz.prog (Tryz.f7.params.toList ++ Rows.paperRowsSpec.plain.varTypes Tryz.prog) (ds ++ gs)).all (· ≤ reachBytes) = true := hsz0
  have hval : ∀ (j : Nat) t v, Tryz.f7.params[j]? = some t → args[j]? = some v → Value.okWide Tryz.prog W .any base t v := hval0
  have hW' := hW
  obtain ⟨p, q, hA0, hV, rfl, hfz, hnd⟩ := hW
  have hA : DataW.TrodAll enc Tryz.prog W 0 (fun _ => true) true Tryz.f7.params.toList args.toList ds p := hA0
  rw [Tryz.params7] at hA hval hsz
  obtain ⟨v0, vs0, d0, ds0, p0, q0, hargs, rfl, rfl, h0, r0⟩ := trodAll_cons hA
  obtain ⟨v1, vs1, d1, ds1, p1, q1, rfl, rfl, rfl, h1, r1⟩ := trodAll_cons r0
  obtain ⟨rfl, rfl, rfl⟩ := trodAll_nil r1
  obtain rfl : args = #[v0, v1] := by cases args; simp_all
  obtain ⟨rfl, rfl⟩ := trodVars_none hV
  have ok0 := (hval 0 58 v0 rfl rfl)
  obtain ⟨a0, len0, cap0, rfl⟩ := okWide_slice Tryz.underlying58 ok0
  have k0 := h0
  have lt0 : ∀ x ∈ p0, x.block < W.heap.size := by obtain ⟨m, hm⟩ := k0; exact DataW.trod_lt m _ _ _ hm
  obtain ⟨l0, b0, x0⟩ := rowsF_in Tryz.underlying58 Tryz.underlying22 Tryz.underlying44 Tryz.underlying3 Tryz.underlying9 Tryz.underlying9 rfl rfl rfl (by kernel_rfl) (by kernel_rfl) (by kernel_rfl) (by kernel_rfl) (by kernel_rfl) h0
  obtain ⟨n1, rfl, rfl, rfl, w1⟩ := open_int Tryz.underlying5 (hval 1 5 v1 rfl rfl) h1
  have g1 := (Lit.wf_int_iff .u8 n1).1 w1
  simp [IntKind.min, IntKind.max, IntKind.bits, IntKind.signed] at g1
  clear hA0 hval0 hsz0 hsz
  have ht : kinfolklaw10_PaperRows 2000 l0 n1 = some true := paperRows_true (by decide) b0 (by omega)
  have hruns := kinfolklaw10_PaperRows_runs 2000 l0 n1 true ht
  refine (Runs.top (W := W) (vals := [.slice a0 len0 cap0, .int .u8 n1]) hruns (gdU hL) ⟨x0, top_int .u8 n1, trivial⟩).mono fun e W' ⟨he, bel⟩ => ?_
  subst he
  exact ⟨_, rfl, _, _, _, [], _, [], hW', trodAll_mk1 (shut_bool Tryz.underlying4 _), (trodAll_cons_mk (Below.trod laidOut (by kernel_rfl) (of_decide_eq_true (by kernel_rfl)) k0 bel lt0) (trodAll_cons_mk (shut_int Tryz.underlying5 w1) trodAll_mk0)), rfl, bel.frame _, fun h => by cases h⟩
theorem over : Rows.paperRowsRow.holds Tryz.pinned (OpenSpec.ofChange Rows.paperRowsSpec) :=
  OpenClaim.holds_of_wide 7 Tryz.f7 rfl rfl rfl rfl rfl rfl rfl ⟨rfl, rfl, rfl, rfl, rfl⟩ rfl rfl rfl rfl rfl (by kernel_rfl) Tryz.func7 (by kernel_rfl)
    (of_decide_eq_true (by kernel_rfl)) (by unfold Func.isWrapper; first | (rw [if_pos (by decide +kernel)]; kernel_rfl) | (rw [if_neg (by decide +kernel)]; exact ⟨rfl, rfl⟩))
    (fun os started H enc _ => lifted os started H enc)

theorem card : Rows.PaperRowsCardSaid :=
  Claim7.holds_tied_plain_at .later [] [.data, .pinned] true (true, "f6fe5ce5f308e36e737792270679f72de2631fbcc395b18ad2aa29e9c6e0e472") false over (fun _ h => by cases h) (by kernel_rfl) (fun _ h => by cases h) paperRows_row_tie rfl ⟨rfl, rfl⟩ (by kernel_rfl) rfl
    (fun f fn hf hfn => by
      obtain rfl : f = 7 := Option.some.inj ((show Tryz.prog.funcNamed "kinfolk/kinfolklaw10.PaperRows" = some 7 by kernel_rfl).symm.trans hf) |>.symm
      obtain rfl : fn = Tryz.f7 := (Option.some.inj (Tryz.func7.symm.trans hfn)).symm
      exact ⟨by kernel_rfl, fun j t ht => by
        rw [Tryz.params7] at ht
        have hm : t ∈ [58, 5] := by simpa using Array.mem_of_getElem? ht
        have hall : ([58, 5].all fun u => !Tryz.prog.wantsStandIn u) = true := by kernel_rfl
        exact (show Tryz.prog.wantsStandIn t = false by simpa using List.all_eq_true.1 hall t hm)⟩)
    (by kernel_rfl)
end Go.Proofs.YteiikkpajcggfaaGreatDoor.paperRows
namespace Go.Proofs.YteiikkpajcggfaaGreatDoor
/-- The card, under a short name, for the claim. -/
theorem paperRowsCard_holds : Rows.PaperRowsCardSaid := paperRows.card
#print axioms paperRowsCard_holds
end Go.Proofs.YteiikkpajcggfaaGreatDoor
