/- For every input, DeedNil answers true, and its arguments read behind the call as they read before. No condition. -/
import Derived.Test.YtjjcmgdgifcmgaaGreatRows
import Derived.Test.YtjjcmgdgifcmgaaGreatH6
import Derived.Test.YtjjcmgdgifcmgaaGreatQ3
import Derived.Test.YtjjcmgdgifcmgaaGreatDIn
set_option linter.unusedVariables false
namespace Go.Proofs.YtjjcmgdgifcmgaaGreat.deedNil
open Go.ChangeShapes Go.WideShapes Go.ChangeAt Go.RowKit Go.Ev
open Go.ChangeMaps (open_string shut_string)
theorem own : ownKnob Tryz.prog.godebug = none := by kernel_rfl
theorem zp9 : laidOutB Tryz.prog = true := by kernel_rfl
set_option maxRecDepth 100000 in
theorem zvc (os : Os) (started : os.Started) (H : Type) (enc : TypeId × Value → H) :
  ReturnsInHanded {} Tryz.checked os 4 .any (Rows.deedNilSpec.pre6 enc Tryz.prog Tryz.f4 Rows.deedNilRow.domain false) (Rows.deedNilSpec.post enc Tryz.prog Tryz.f4 false true false false) := by
 refine returnsInHanded_of_change_sized (C := Tryz.checked) own started (by kernel_rfl) Tryz.func4
  (ChangeSpec.witness6 (enc := enc) (C := Tryz.checked) false ⟨#[], #[.int .i64 0, .slice none 0 0, .slice none 0 0, .slice none 0 0], []⟩ 8 (by kernel_rfl) (by kernel_rfl) (by kernel_rfl) (by kernel_rfl)) ?_
 intro W base args ds gs before hval0 hW hcnd hsz0 _
 have hsz : (DataW.weightsEach Tryz.prog (Tryz.f4.params.toList ++ Rows.deedNilSpec.plain.varTypes Tryz.prog) (ds ++ gs)).all (· ≤ reachBytes) = true := hsz0
 have hval : ∀ (j : Nat) t v, Tryz.f4.params[j]? = some t → args[j]? = some v → Value.okWide Tryz.prog W .any base t v := hval0
 have hW' := hW
 obtain ⟨p, q, hA0, hV, rfl, hfz, hnd⟩ := hW
 have hA : DataW.TrodAll enc Tryz.prog W 0 (fun _ => true) true Tryz.f4.params.toList args.toList ds p := hA0
 rw [Tryz.params4] at hA hval hsz
 obtain ⟨v0, vs0, d0, ds0, p0, q0, hargs, rfl, rfl, h0, r0⟩ := trodAll_cons hA
 obtain ⟨v1, vs1, d1, ds1, p1, q1, rfl, rfl, rfl, h1, r1⟩ := trodAll_cons r0
 obtain ⟨v2, vs2, d2, ds2, p2, q2, rfl, rfl, rfl, h2, r2⟩ := trodAll_cons r1
 obtain ⟨v3, vs3, d3, ds3, p3, q3, rfl, rfl, rfl, h3, r3⟩ := trodAll_cons r2
 obtain ⟨rfl, rfl, rfl⟩ := trodAll_nil r3
 obtain rfl : args = #[v0, v1, v2, v3] := by cases args; simp_all
 obtain ⟨rfl, rfl⟩ := trodVars_none hV
 obtain ⟨n0, rfl, rfl, rfl, w0⟩ := open_int Tryz.underlying3 (hval 0 3 v0 rfl rfl) h0
 have g0 := (Lit.wf_int_iff .i64 n0).1 w0
 simp [IntKind.min, IntKind.max, IntKind.bits, IntKind.signed] at g0
 have ok1 := (hval 1 22 v1 rfl rfl)
 obtain ⟨a1, len1, cap1, rfl⟩ := okWide_slice Tryz.underlying22 ok1
 have k1 := h1
 have lt1 : ∀ x ∈ p1, x.block < W.heap.size := by obtain ⟨m, hm⟩ := k1; exact DataW.trod_lt m _ _ _ hm
 obtain ⟨l1, b1, x1⟩ := zqE Tryz.underlying22 Tryz.underlying35 Tryz.underlying5 (by kernel_rfl) Tryz.underlying5 Tryz.underlying3 Tryz.underlying3 Tryz.underlying27 Tryz.underlying33 (by kernel_rfl) ⟨rfl, rfl, rfl, rfl, rfl⟩ ⟨by kernel_rfl, by kernel_rfl, by kernel_rfl, by kernel_rfl, by kernel_rfl⟩ h1
 have ok2 := (hval 2 22 v2 rfl rfl)
 obtain ⟨a2, len2, cap2, rfl⟩ := okWide_slice Tryz.underlying22 ok2
 have k2 := h2
 have lt2 : ∀ x ∈ p2, x.block < W.heap.size := by obtain ⟨m, hm⟩ := k2; exact DataW.trod_lt m _ _ _ hm
 obtain ⟨l2, b2, x2⟩ := zqE Tryz.underlying22 Tryz.underlying35 Tryz.underlying5 (by kernel_rfl) Tryz.underlying5 Tryz.underlying3 Tryz.underlying3 Tryz.underlying27 Tryz.underlying33 (by kernel_rfl) ⟨rfl, rfl, rfl, rfl, rfl⟩ ⟨by kernel_rfl, by kernel_rfl, by kernel_rfl, by kernel_rfl, by kernel_rfl⟩ h2
 have ok3 := (hval 3 33 v3 rfl rfl)
 obtain ⟨a3, len3, cap3, rfl⟩ := okWide_slice Tryz.underlying33 ok3
 have k3 := h3
 have lt3 : ∀ x ∈ p3, x.block < W.heap.size := by obtain ⟨m, hm⟩ := k3; exact DataW.trod_lt m _ _ _ hm
 obtain ⟨l3, b3, x3⟩ : ∃ l, Bytes l ∧ RepA (ziP W) (.one (.pv (.ints .u8 l false))) (.slice a3 len3 cap3) := ztr Tryz.underlying33 Tryz.underlying5 (by kernel_rfl) h3
 clear hA0 hval0 hsz0 hsz
 have ht : zeu 100 n0 l1 l2 l3 = some true := zvB (by decide) _ b1.2 b1.1 b2.2 b2.1 b3
 have hruns := zjG 100 n0 l1 l2 l3 true ht
 refine (Runs.top (W := W) (vals := [.int .i64 n0, .slice a1 len1 cap1, .slice a2 len2 cap2, .slice a3 len3 cap3]) hruns (zux (by kernel_rfl) (by kernel_rfl) (by kernel_rfl)) ⟨zuT .i64 n0, x1, x2, x3, trivial⟩).mono fun e W' ⟨he, bel⟩ => ?_
 subst he
 exact ⟨_, rfl, _, _, _, [], _, [], hW', trodAll_mk1 (shut_bool Tryz.underlying4 _), (trodAll_cons_mk (shut_int Tryz.underlying3 w0) (trodAll_cons_mk (Below.trod zp9 (by kernel_rfl) (of_decide_eq_true (by kernel_rfl)) k1 bel lt1) (trodAll_cons_mk (Below.trod zp9 (by kernel_rfl) (of_decide_eq_true (by kernel_rfl)) k2 bel lt2) (trodAll_cons_mk (Below.trod zp9 (by kernel_rfl) (of_decide_eq_true (by kernel_rfl)) k3 bel lt3) trodAll_mk0)))), rfl, bel.frame _, fun h => by cases h⟩
theorem over : Rows.deedNilRow.holds Tryz.pinned (OpenSpec.ofChange Rows.deedNilSpec) :=
 OpenClaim.holds_of_wide 4 Tryz.f4 rfl rfl rfl rfl rfl rfl rfl ⟨rfl, rfl, rfl, rfl, rfl⟩ rfl rfl rfl rfl rfl (by kernel_rfl) Tryz.func4 (by kernel_rfl)
  (of_decide_eq_true (by kernel_rfl)) (by unfold Func.isWrapper; first | (rw [if_pos (by decide +kernel)]; kernel_rfl) | (rw [if_neg (by decide +kernel)]; exact ⟨rfl, rfl⟩))
  (fun os started H enc _ => zvc os started H enc)
end Go.Proofs.YtjjcmgdgifcmgaaGreat.deedNil
namespace Go.Proofs.YtjjcmgdgifcmgaaGreat
theorem deedNil_holds : Rows.DeedNilSaid := deedNil.over
#print axioms deedNil_holds
end Go.Proofs.YtjjcmgdgifcmgaaGreat
