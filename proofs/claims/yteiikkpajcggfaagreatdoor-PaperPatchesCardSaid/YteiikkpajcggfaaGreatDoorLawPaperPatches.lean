/- For every input, PaperPatches answers true, and its arguments read behind the call as they read before. No condition. -/
import Derived.Test.YteiikkpajcggfaaGreatDoorRows
import Derived.Test.YteiikkpajcggfaaGreatDoorA8
import Derived.Test.YteiikkpajcggfaaGreatDoorPQ3
import Derived.Test.YteiikkpajcggfaaGreatDoorCIn
import Derived.Test.YteiikkpajcggfaaGreatDoorQ3
import Derived.Test.YteiikkpajcggfaaGreatDoorGd
import Derived.Test.YteiikkpajcggfaaGreatDoorTie
import Derived.Test.YteiikkpajcggfaaGreatDoorCards
import Derived.Lay
import Derived.Handed
import Derived.LaidOnce
import Derived.SevenTiedAt
set_option linter.unusedVariables false
namespace Go.Proofs.YteiikkpajcggfaaGreatDoor.paperPatches
open Go.ChangeShapes Go.WideShapes Go.ChangeAt Go.RowKit Go.Ev
open Go.ChangeMaps (open_string shut_string)
theorem own : ownKnob Tryz.prog.godebug = none := by kernel_rfl
theorem laidOut : laidOutB Tryz.prog = true := by kernel_rfl
set_option maxRecDepth 100000 in
theorem lifted (os : Os) (started : os.Started) (H : Type) (enc : TypeId × Value → H) :
  ReturnsInHanded {} Tryz.checked os 9 .any (fun w args => (Rows.paperPatchesSpec.pre enc Tryz.prog Tryz.f9 [] false w args ∧ laidMetH Tryz.prog laidU w) ∧ sizedMet enc Tryz.prog Tryz.f9 (OpenSpec.ofChange Rows.paperPatchesSpec) false w args)
   (Rows.paperPatchesSpec.post enc Tryz.prog Tryz.f9 false true false false) := by
 refine returnsInHanded_of_change_and (C := Tryz.checked) (X := fun w _ => laidMetH Tryz.prog laidU w) (fun _ _ _ hh h => h.of_heap hh) own started (by kernel_rfl) Tryz.func9
  (ChangeSpec.witness_at (enc := enc) (C := Tryz.checked) (os := os) (X := fun w _ => laidMetH Tryz.prog laidU w) false (World.laidAll Tryz.prog os laidU) #[.slice none 0 0, .slice none 0 0, .slice none 0 0, .int .u16 0] 8 (World.laidAll_os _ _ _) (by kernel_rfl) (by kernel_rfl) (by kernel_rfl) (by kernel_rfl) (by kernel_rfl)
   (by rw [MakeChecks.laidMetH_plain _ _ _ (by kernel_rfl)]; exact laidMet_laidAll _ (by kernel_rfl) (by kernel_rfl))) ?_
 intro W base args ds gs before hval0 hW hcnd hsz0 hL _
 have hsz : (DataW.weightsEach Tryz.prog (Tryz.f9.params.toList ++ Rows.paperPatchesSpec.plain.varTypes Tryz.prog) (ds ++ gs)).all (· ≤ reachBytes) = true := hsz0
 have hval : ∀ (j : Nat) t v, Tryz.f9.params[j]? = some t → args[j]? = some v → Value.okWide Tryz.prog W .any base t v := hval0
 have hW' := hW
 obtain ⟨p, q, hA0, hV, rfl, hfz, hnd⟩ := hW
 have hA : DataW.TrodAll enc Tryz.prog W 0 (fun _ => true) true Tryz.f9.params.toList args.toList ds p := hA0
 rw [Tryz.params9] at hA hval hsz
 obtain ⟨v0, vs0, d0, ds0, p0, q0, hargs, rfl, rfl, h0, r0⟩ := trodAll_cons hA
 obtain ⟨v1, vs1, d1, ds1, p1, q1, rfl, rfl, rfl, h1, r1⟩ := trodAll_cons r0
 obtain ⟨v2, vs2, d2, ds2, p2, q2, rfl, rfl, rfl, h2, r2⟩ := trodAll_cons r1
 obtain ⟨v3, vs3, d3, ds3, p3, q3, rfl, rfl, rfl, h3, r3⟩ := trodAll_cons r2
 obtain ⟨rfl, rfl, rfl⟩ := trodAll_nil r3
 obtain rfl : args = #[v0, v1, v2, v3] := by cases args; simp_all
 obtain ⟨rfl, rfl⟩ := trodVars_none hV
 have ok0 := (hval 0 22 v0 rfl rfl)
 obtain ⟨a0, len0, cap0, rfl⟩ := okWide_slice Tryz.underlying22 ok0
 have k0 := h0
 have lt0 : ∀ x ∈ p0, x.block < W.heap.size := by obtain ⟨m, hm⟩ := k0; exact DataW.trod_lt m _ _ _ hm
 obtain ⟨l0, b0, x0⟩ := fields_in Tryz.underlying22 Tryz.underlying44 Tryz.underlying3 Tryz.underlying9 Tryz.underlying9 rfl rfl rfl (by kernel_rfl) (by kernel_rfl) (by kernel_rfl) (by kernel_rfl) h0
 have ok1 := (hval 1 22 v1 rfl rfl)
 obtain ⟨a1, len1, cap1, rfl⟩ := okWide_slice Tryz.underlying22 ok1
 have k1 := h1
 have lt1 : ∀ x ∈ p1, x.block < W.heap.size := by obtain ⟨m, hm⟩ := k1; exact DataW.trod_lt m _ _ _ hm
 obtain ⟨l1, b1, x1⟩ := fields_in Tryz.underlying22 Tryz.underlying44 Tryz.underlying3 Tryz.underlying9 Tryz.underlying9 rfl rfl rfl (by kernel_rfl) (by kernel_rfl) (by kernel_rfl) (by kernel_rfl) h1
 have ok2 := (hval 2 23 v2 rfl rfl)
 obtain ⟨a2, len2, cap2, rfl⟩ := okWide_slice Tryz.underlying23 ok2
 have k2 := h2
 have lt2 : ∀ x ∈ p2, x.block < W.heap.size := by obtain ⟨m, hm⟩ := k2; exact DataW.trod_lt m _ _ _ hm
 obtain ⟨l2, b2, x2⟩ := intsI_in Tryz.underlying23 Tryz.underlying3 (by kernel_rfl) h2
 obtain ⟨n3, rfl, rfl, rfl, w3⟩ := open_int Tryz.underlying70 (hval 3 70 v3 rfl rfl) h3
 have g3 := (Lit.wf_int_iff .u16 n3).1 w3
 simp [IntKind.min, IntKind.max, IntKind.bits, IntKind.signed] at g3
 clear hA0 hval0 hsz0 hsz
 have ht : kinfolklaw10_PaperPatches 2000 l0 l1 l2 n3 = some true := paperPatches_true (by decide) b0 b1 l2 (by omega)
 have hruns := kinfolklaw10_PaperPatches_runs 2000 l0 l1 l2 n3 true ht
 refine (Runs.top (W := W) (vals := [.slice a0 len0 cap0, .slice a1 len1 cap1, .slice a2 len2 cap2, .int .u16 n3]) hruns (gdU hL) ⟨x0, x1, x2, top_int .u16 n3, trivial⟩).mono fun e W' ⟨he, bel⟩ => ?_
 subst he
 exact ⟨_, rfl, _, _, _, [], _, [], hW', trodAll_mk1 (shut_bool Tryz.underlying4 _), (trodAll_cons_mk (Below.trod laidOut (by kernel_rfl) (of_decide_eq_true (by kernel_rfl)) k0 bel lt0) (trodAll_cons_mk (Below.trod laidOut (by kernel_rfl) (of_decide_eq_true (by kernel_rfl)) k1 bel lt1) (trodAll_cons_mk (Below.trod laidOut (by kernel_rfl) (of_decide_eq_true (by kernel_rfl)) k2 bel lt2) (trodAll_cons_mk (shut_int Tryz.underlying70 w3) trodAll_mk0)))), rfl, bel.frame _, fun h => by cases h⟩
theorem over : Rows.paperPatchesRow.holds Tryz.pinned (OpenSpec.ofChange Rows.paperPatchesSpec) :=
 OpenClaim.holds_of_wide 9 Tryz.f9 rfl rfl rfl rfl rfl rfl rfl ⟨rfl, rfl, rfl, rfl, rfl⟩ rfl rfl rfl rfl rfl (by kernel_rfl) Tryz.func9 (by kernel_rfl)
  (of_decide_eq_true (by kernel_rfl)) (by unfold Func.isWrapper; first | (rw [if_pos (by decide +kernel)]; kernel_rfl) | (rw [if_neg (by decide +kernel)]; exact ⟨rfl, rfl⟩))
  (fun os started H enc _ => lifted os started H enc)
theorem card : Rows.PaperPatchesCardSaid :=
 Claim7.holds_tied_plain_at .later [] [.data, .pinned] true (true, "f6fe5ce5f308e36e737792270679f72de2631fbcc395b18ad2aa29e9c6e0e472") false over (fun _ h => by cases h) (by kernel_rfl) (fun _ h => by cases h) paperPatches_row_tie rfl ⟨rfl, rfl⟩ (by kernel_rfl) rfl
  (fun f fn hf hfn => by
   obtain rfl : f = 9 := Option.some.inj ((show Tryz.prog.funcNamed "kinfolk/kinfolklaw10.PaperPatches" = some 9 by kernel_rfl).symm.trans hf) |>.symm
   obtain rfl : fn = Tryz.f9 := (Option.some.inj (Tryz.func9.symm.trans hfn)).symm
   exact ⟨by kernel_rfl, fun j t ht => by
    rw [Tryz.params9] at ht
    have hm : t ∈ [22, 22, 23, 70] := by simpa using Array.mem_of_getElem? ht
    have hall : ([22, 22, 23, 70].all fun u => !Tryz.prog.wantsStandIn u) = true := by kernel_rfl
    exact (show Tryz.prog.wantsStandIn t = false by simpa using List.all_eq_true.1 hall t hm)⟩)
  (by kernel_rfl)
end Go.Proofs.YteiikkpajcggfaaGreatDoor.paperPatches
namespace Go.Proofs.YteiikkpajcggfaaGreatDoor
theorem paperPatchesCard_holds : Rows.PaperPatchesCardSaid := paperPatches.card
#print axioms paperPatchesCard_holds
end Go.Proofs.YteiikkpajcggfaaGreatDoor
