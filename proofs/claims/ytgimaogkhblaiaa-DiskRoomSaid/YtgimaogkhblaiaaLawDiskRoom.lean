/- For every input, DiskRoom answers true, and its arguments read behind the call as they read before. No condition. -/
import Derived.Test.YtgimaogkhblaiaaRows
import Derived.Test.YtgimaogkhblaiaaP2
import Derived.Test.YtgimaogkhblaiaaDIn
set_option linter.unusedVariables false
namespace Go.Proofs.Ytgimaogkhblaiaa.diskRoom
open Go.ChangeShapes Go.WideShapes Go.ChangeAt Go.RowKit Go.Ev
open Go.ChangeMaps (open_string shut_string)
theorem own : ownKnob Try.prog.godebug = none := by kernel_rfl
theorem laidOut : laidOutB Try.prog = true := by kernel_rfl
set_option maxRecDepth 100000 in
theorem lifted (os : Os) (started : os.Started) (H : Type) (enc : TypeId × Value → H) :
    ReturnsInHanded {} Try.checked os 4 .any (Rows.diskRoomSpec.pre6 enc Try.prog Try.f4 Rows.diskRoomRow.domain false) (Rows.diskRoomSpec.post enc Try.prog Try.f4 false true false false) := by
  refine returnsInHanded_of_change_sized (C := Try.checked) own started (by kernel_rfl) Try.func4
    (ChangeSpec.witness6 (enc := enc) (C := Try.checked) false ⟨#[], #[.int .u16 0, .slice none 0 0], []⟩ 8 (by kernel_rfl) (by kernel_rfl) (by kernel_rfl) (by kernel_rfl)) ?_
  intro W base args ds gs before hval0 hW hcnd hsz0 _
  have hsz : (DataW.weightsEach Try.prog (Try.f4.params.toList ++ Rows.diskRoomSpec.plain.varTypes Try.prog) (ds ++ gs)).all (· ≤ reachBytes) = true := hsz0
  have hval : ∀ (j : Nat) t v, Try.f4.params[j]? = some t → args[j]? = some v → Value.okWide Try.prog W .any base t v := hval0
  have hW' := hW
  obtain ⟨p, q, hA0, hV, rfl, hfz, hnd⟩ := hW
  have hA : DataW.TrodAll enc Try.prog W 0 (fun _ => true) true Try.f4.params.toList args.toList ds p := hA0
  rw [Try.params4] at hA hval hsz
  obtain ⟨v0, vs0, d0, ds0, p0, q0, hargs, rfl, rfl, h0, r0⟩ := trodAll_cons hA
  obtain ⟨v1, vs1, d1, ds1, p1, q1, rfl, rfl, rfl, h1, r1⟩ := trodAll_cons r0
  obtain ⟨rfl, rfl, rfl⟩ := trodAll_nil r1
  obtain rfl : args = #[v0, v1] := by cases args; simp_all
  obtain ⟨rfl, rfl⟩ := trodVars_none hV
  obtain ⟨n0, rfl, rfl, rfl, w0⟩ := open_int Try.underlying37 (hval 0 37 v0 rfl rfl) h0
  have g0 := (Lit.wf_int_iff .u16 n0).1 w0
  simp [IntKind.min, IntKind.max, IntKind.bits, IntKind.signed] at g0
  have ok1 := (hval 1 38 v1 rfl rfl)
  obtain ⟨a1, len1, cap1, rfl⟩ := okWide_slice Try.underlying38 ok1
  have k1 := h1
  have lt1 : ∀ x ∈ p1, x.block < W.heap.size := by obtain ⟨m, hm⟩ := k1; exact DataW.trod_lt m _ _ _ hm
  obtain ⟨l1, b1, x1⟩ := acts_in Try.underlying38 Try.underlying40 Try.underlying5 (by kernel_rfl) Try.underlying5 Try.underlying31 Try.underlying27 Try.underlying3 Try.underlying3 Try.underlying4 (by kernel_rfl) ⟨rfl, rfl, rfl, rfl, rfl, rfl⟩ ⟨by kernel_rfl, by kernel_rfl, by kernel_rfl, by kernel_rfl, by kernel_rfl, by kernel_rfl⟩ h1
  clear hA0 hval0 hsz0 hsz
  have ht : kinfolklaw11_DiskRoom n0 l1 = some true := diskRoom_true _ _ (by omega) (fun z hz => by have := b1 z hz; cases z; exact this.2.1)
  have hruns := kinfolklaw11_DiskRoom_runs n0 l1 true ht
  refine (Runs.top (W := W) (vals := [.int .u16 n0, .slice a1 len1 cap1]) hruns (gd_none (by kernel_rfl) (by kernel_rfl) (by kernel_rfl)) ⟨top_int .u16 n0, x1, trivial⟩).mono fun e W' ⟨he, bel⟩ => ?_
  subst he
  exact ⟨_, rfl, _, _, _, [], _, [], hW', trodAll_mk1 (shut_bool Try.underlying4 _), (trodAll_cons_mk (shut_int Try.underlying37 w0) (trodAll_cons_mk (Below.trod laidOut (by kernel_rfl) (of_decide_eq_true (by kernel_rfl)) k1 bel lt1) trodAll_mk0)), rfl, bel.frame _, fun h => by cases h⟩
theorem over : Rows.diskRoomRow.holds Try.pinned (OpenSpec.ofChange Rows.diskRoomSpec) :=
  OpenClaim.holds_of_wide 4 Try.f4 rfl rfl rfl rfl rfl rfl rfl ⟨rfl, rfl, rfl, rfl, rfl⟩ rfl rfl rfl rfl rfl (by kernel_rfl) Try.func4 (by kernel_rfl)
    (of_decide_eq_true (by kernel_rfl)) (by unfold Func.isWrapper; first | (rw [if_pos (by decide +kernel)]; kernel_rfl) | (rw [if_neg (by decide +kernel)]; exact ⟨rfl, rfl⟩))
    (fun os started H enc _ => lifted os started H enc)
end Go.Proofs.Ytgimaogkhblaiaa.diskRoom
namespace Go.Proofs.Ytgimaogkhblaiaa
/-- The row, under a short name, for the claim. -/
theorem diskRoom_holds : Rows.DiskRoomSaid := diskRoom.over
#print axioms diskRoom_holds
end Go.Proofs.Ytgimaogkhblaiaa
