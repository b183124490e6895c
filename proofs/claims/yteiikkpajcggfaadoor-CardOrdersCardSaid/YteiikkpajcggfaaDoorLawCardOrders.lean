/- For every input, CardOrders answers true, and its arguments read behind the call as they read before. No condition. -/
import Derived.Test.YteiikkpajcggfaaDoorRows
import Derived.Test.YteiikkpajcggfaaDoorCT6D
import Derived.Test.YteiikkpajcggfaaDoorCIn
import Derived.Test.YteiikkpajcggfaaDoorQ3
import Derived.Test.YteiikkpajcggfaaDoorGd
import Derived.Test.YteiikkpajcggfaaDoorTie
import Derived.Test.YteiikkpajcggfaaDoorCards
import Derived.Lay
import Derived.Handed
import Derived.LaidOnce
import Derived.SevenTiedAt
set_option linter.unusedVariables false
namespace Go.Proofs.YteiikkpajcggfaaDoor.cardOrders
open Go.ChangeShapes Go.WideShapes Go.ChangeAt Go.RowKit Go.Ev
open Go.ChangeMaps (open_string shut_string)
theorem own : ownKnob Tryd.prog.godebug = none := by kernel_rfl
theorem laidOut : laidOutB Tryd.prog = true := by kernel_rfl
set_option maxRecDepth 100000 in
theorem lifted (os : Os) (started : os.Started) (H : Type) (enc : TypeId × Value → H) :
    ReturnsInHanded {} Tryd.checked os 5 .any (fun w args => (Rows.cardOrdersSpec.pre enc Tryd.prog Tryd.f5 [] false w args ∧ laidMetH Tryd.prog laidU w) ∧ sizedMet enc Tryd.prog Tryd.f5 (OpenSpec.ofChange Rows.cardOrdersSpec) false w args)
      (Rows.cardOrdersSpec.post enc Tryd.prog Tryd.f5 false true false false) := by
  refine returnsInHanded_of_change_and (C := Tryd.checked) (X := fun w _ => laidMetH Tryd.prog laidU w) (fun _ _ _ hh h => h.of_heap hh) own started (by kernel_rfl) Tryd.func5
    (ChangeSpec.witness_at (enc := enc) (C := Tryd.checked) (os := os) (X := fun w _ => laidMetH Tryd.prog laidU w) false (World.laidAll Tryd.prog os laidU) #[.slice none 0 0, .slice none 0 0, .agg #[.int .i64 0, .string ByteArray.empty, .string ByteArray.empty], .agg #[.int .i64 0, .string ByteArray.empty, .string ByteArray.empty], .agg #[.int .i64 0, .string ByteArray.empty, .string ByteArray.empty]] 8 (World.laidAll_os _ _ _) (by kernel_rfl) (by kernel_rfl) (by kernel_rfl) (by kernel_rfl) (by kernel_rfl)
      (by rw [MakeChecks.laidMetH_plain _ _ _ (by kernel_rfl)]; exact laidMet_laidAll _ (by kernel_rfl) (by kernel_rfl))) ?_
  intro W base args ds gs before hval0 hW hcnd hsz0 hL _
  have hsz : (DataW.weightsEach Tryd.prog (Tryd.f5.params.toList ++ Rows.cardOrdersSpec.plain.varTypes Tryd.prog) (ds ++ gs)).all (· ≤ reachBytes) = true := hsz0
  have hval : ∀ (j : Nat) t v, Tryd.f5.params[j]? = some t → args[j]? = some v → Value.okWide Tryd.prog W .any base t v := hval0
  have hW' := hW
  obtain ⟨p, q, hA0, hV, rfl, hfz, hnd⟩ := hW
  have hA : DataW.TrodAll enc Tryd.prog W 0 (fun _ => true) true Tryd.f5.params.toList args.toList ds p := hA0
  rw [Tryd.params5] at hA hval hsz
  obtain ⟨v0, vs0, d0, ds0, p0, q0, hargs, rfl, rfl, h0, r0⟩ := trodAll_cons hA
  obtain ⟨v1, vs1, d1, ds1, p1, q1, rfl, rfl, rfl, h1, r1⟩ := trodAll_cons r0
  obtain ⟨v2, vs2, d2, ds2, p2, q2, rfl, rfl, rfl, h2, r2⟩ := trodAll_cons r1
  obtain ⟨v3, vs3, d3, ds3, p3, q3, rfl, rfl, rfl, h3, r3⟩ := trodAll_cons r2
  obtain ⟨v4, vs4, d4, ds4, p4, q4, rfl, rfl, rfl, h4, r4⟩ := trodAll_cons r3
  obtain ⟨rfl, rfl, rfl⟩ := trodAll_nil r4
  obtain rfl : args = #[v0, v1, v2, v3, v4] := by cases args; simp_all
  obtain ⟨rfl, rfl⟩ := trodVars_none hV
  have ok0 := (hval 0 22 v0 rfl rfl)
  obtain ⟨a0, len0, cap0, rfl⟩ := okWide_slice Tryd.underlying22 ok0
  have k0 := h0
  have lt0 : ∀ x ∈ p0, x.block < W.heap.size := by obtain ⟨m, hm⟩ := k0; exact DataW.trod_lt m _ _ _ hm
  obtain ⟨l0, b0, x0⟩ := fields_in Tryd.underlying22 Tryd.underlying39 Tryd.underlying3 Tryd.underlying9 Tryd.underlying9 rfl rfl rfl (by kernel_rfl) (by kernel_rfl) (by kernel_rfl) (by kernel_rfl) h0
  have ok1 := (hval 1 52 v1 rfl rfl)
  obtain ⟨a1, len1, cap1, rfl⟩ := okWide_slice Tryd.underlying52 ok1
  have k1 := h1
  have lt1 : ∀ x ∈ p1, x.block < W.heap.size := by obtain ⟨m, hm⟩ := k1; exact DataW.trod_lt m _ _ _ hm
  obtain ⟨l1, b1, x1⟩ := intsI_in Tryd.underlying52 Tryd.underlying5 (by kernel_rfl) h1
  have k2 := h2
  have lt2 : ∀ x ∈ p2, x.block < W.heap.size := by obtain ⟨m, hm⟩ := k2; exact DataW.trod_lt m _ _ _ hm
  obtain ⟨n2_0, n2_1, n2_2, x2⟩ := field_in Tryd.underlying39 Tryd.underlying3 Tryd.underlying9 Tryd.underlying9 rfl rfl rfl (by kernel_rfl) (by kernel_rfl) (by kernel_rfl) (by kernel_rfl) (hval 2 39 v2 rfl rfl) h2
  have k3 := h3
  have lt3 : ∀ x ∈ p3, x.block < W.heap.size := by obtain ⟨m, hm⟩ := k3; exact DataW.trod_lt m _ _ _ hm
  obtain ⟨n3_0, n3_1, n3_2, x3⟩ := field_in Tryd.underlying39 Tryd.underlying3 Tryd.underlying9 Tryd.underlying9 rfl rfl rfl (by kernel_rfl) (by kernel_rfl) (by kernel_rfl) (by kernel_rfl) (hval 3 39 v3 rfl rfl) h3
  have k4 := h4
  have lt4 : ∀ x ∈ p4, x.block < W.heap.size := by obtain ⟨m, hm⟩ := k4; exact DataW.trod_lt m _ _ _ hm
  obtain ⟨n4_0, n4_1, n4_2, x4⟩ := field_in Tryd.underlying39 Tryd.underlying3 Tryd.underlying9 Tryd.underlying9 rfl rfl rfl (by kernel_rfl) (by kernel_rfl) (by kernel_rfl) (by kernel_rfl) (hval 4 39 v4 rfl rfl) h4
  clear hA0 hval0 hsz0 hsz
  have ht : kinfolklaw09_CardOrders 2000 l0 l1 n2_0 n2_1 n2_2 n3_0 n3_1 n3_2 n4_0 n4_1 n4_2 = some true := cardOrders_true (by decide) b0 (fun v hv => bytes_wf b1.2 v hv) n2_0 n2_1 n2_2 n3_0 n3_1 n3_2 n4_0 n4_1 n4_2
  have hruns := kinfolklaw09_CardOrders_runs 2000 l0 l1 n2_0 n2_1 n2_2 n3_0 n3_1 n3_2 n4_0 n4_1 n4_2 true ht
  refine (Runs.top (W := W) (vals := [.slice a0 len0 cap0, .slice a1 len1 cap1, v2, v3, v4]) hruns (gdU hL) ⟨x0, x1, x2, x3, x4, trivial⟩).mono fun e W' ⟨he, bel⟩ => ?_
  subst he
  exact ⟨_, rfl, _, _, _, [], _, [], hW', trodAll_mk1 (shut_bool Tryd.underlying4 _), (trodAll_cons_mk (Below.trod laidOut (by kernel_rfl) (of_decide_eq_true (by kernel_rfl)) k0 bel lt0) (trodAll_cons_mk (Below.trod laidOut (by kernel_rfl) (of_decide_eq_true (by kernel_rfl)) k1 bel lt1) (trodAll_cons_mk (Below.trod laidOut (by kernel_rfl) (of_decide_eq_true (by kernel_rfl)) k2 bel lt2) (trodAll_cons_mk (Below.trod laidOut (by kernel_rfl) (of_decide_eq_true (by kernel_rfl)) k3 bel lt3) (trodAll_cons_mk (Below.trod laidOut (by kernel_rfl) (of_decide_eq_true (by kernel_rfl)) k4 bel lt4) trodAll_mk0))))), rfl, bel.frame _, fun h => by cases h⟩
theorem over : Rows.cardOrdersRow.holds Tryd.pinned (OpenSpec.ofChange Rows.cardOrdersSpec) :=
  OpenClaim.holds_of_wide 5 Tryd.f5 rfl rfl rfl rfl rfl rfl rfl ⟨rfl, rfl, rfl, rfl, rfl⟩ rfl rfl rfl rfl rfl (by kernel_rfl) Tryd.func5 (by kernel_rfl)
    (of_decide_eq_true (by kernel_rfl)) (by unfold Func.isWrapper; first | (rw [if_pos (by decide +kernel)]; kernel_rfl) | (rw [if_neg (by decide +kernel)]; exact ⟨rfl, rfl⟩))
    (fun os started H enc _ => lifted os started H enc)

theorem card : Rows.CardOrdersCardSaid :=
  Claim7.holds_tied_plain_at .later [] [.data, .pinned] true (true, "2a702eaef3a91e87120c58f7e61dae6268f014d6766496c6943f6e423820b207") false over (fun _ h => by cases h) (by kernel_rfl) (fun _ h => by cases h) cardOrders_row_tie rfl ⟨rfl, rfl⟩ (by kernel_rfl) rfl
    (fun f fn hf hfn => by
      obtain rfl : f = 5 := Option.some.inj ((show Tryd.prog.funcNamed "kinfolk/kinfolklaw09.CardOrders" = some 5 by kernel_rfl).symm.trans hf) |>.symm
      obtain rfl : fn = Tryd.f5 := (Option.some.inj (Tryd.func5.symm.trans hfn)).symm
      exact ⟨by kernel_rfl, fun j t ht => by
        rw [Tryd.params5] at ht
        have hm : t ∈ [22, 52, 39, 39, 39] := by simpa using Array.mem_of_getElem? ht
        have hall : ([22, 52, 39, 39, 39].all fun u => !Tryd.prog.wantsStandIn u) = true := by kernel_rfl
        exact (show Tryd.prog.wantsStandIn t = false by simpa using List.all_eq_true.1 hall t hm)⟩)
    (by kernel_rfl)
end Go.Proofs.YteiikkpajcggfaaDoor.cardOrders
namespace Go.Proofs.YteiikkpajcggfaaDoor
/-- The card, under a short name, for the claim. -/
theorem cardOrdersCard_holds : Rows.CardOrdersCardSaid := cardOrders.card
#print axioms cardOrdersCard_holds
end Go.Proofs.YteiikkpajcggfaaDoor
