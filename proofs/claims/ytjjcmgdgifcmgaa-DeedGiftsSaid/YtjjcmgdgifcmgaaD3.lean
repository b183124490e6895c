/- Chapter 15: the program answers at all (awake). Plain. -/
import Derived.Test.YtjjcmgdgifcmgaaA6
set_option linter.unusedVariables false
set_option linter.unusedSimpArgs false
namespace Go.Proofs.Ytjjcmgdgifcmgaa
open Go.Ev

theorem to_none (to n n2 : Int) (m : List (Int × Int)) : deed_Deeds_To to n n2 m = some (0, 0, 0, false, T_id_halves.nil, false) := by
  have h : runL (deed_Deeds_To_L0_step to (((List.map E_deed_Gift.pv [])).length : Int) n n2 m) 0 = some (.inr ()) := runL_done (by simp [deed_Deeds_To_L0_step])
  unfold deed_Deeds_To
  rw [h]
  rfl
theorem give2 : deed_Deeds_Give 2 true T_id_halves.nil 0 0 [] = some (.inr (1, 1, [.mk 1 0 2 true .nil], [(2, 1)])) := by
  unfold deed_Deeds_Give
  simp only [to_none]
  rfl
theorem index2 : slices_IndexFunc_deed_Gift [.mk 1 0 2 true .nil] 1 = some 0 := by
  have h : runL (slices_IndexFunc_deed_Gift_L0_step [.mk 1 0 2 true .nil] 1 1) 0 = some (.inl 0) := runL_done (by rfl)
  unfold slices_IndexFunc_deed_Gift
  exact (congrArg (fun z => Option.bind z _) h).trans rfl
theorem done2 : deed_Deeds_Done 1 0 1 [.mk 1 0 2 true .nil] [(2, 1)] = some (0, []) := by
  unfold deed_Deeds_Done
  simp only [List.map_cons, List.map_nil, List.length_cons, List.length_nil, Nat.zero_add, List.take_succ_cons, List.take_zero, index2]
  rfl
theorem awake15 : kinfolklaw15_awake = some true := by
  simp only [kinfolklaw15_awake, deed_New, id_One, give2, Option.bind_some, decide_true, cond_true, done2]
  rfl
end Go.Proofs.Ytjjcmgdgifcmgaa
