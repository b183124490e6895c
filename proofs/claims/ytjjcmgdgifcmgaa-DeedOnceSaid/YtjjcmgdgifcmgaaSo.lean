/- Marks in their order; what slices.SortedFunc makes of a map's keys. -/
import Derived.Test.YtjjcmgdgifcmgaaA1
import Derived.Test.YtjjcmgdgifcmgaaShelf
import Derived.Test.YtjjcmgdgifcmgaaQ4
set_option linter.unusedVariables false
set_option linter.unusedSimpArgs false
namespace Go.Proofs.Ytjjcmgdgifcmgaa
open Go.Ev Go.RowKit Go.Shelf Go.Sort Go.Proofs

def cI (x y : Int) : Int := if x < y then -1 else if y < x then 1 else 0
theorem nan_int (x : Int) : cmp_isNaN_int x = some false := by simp [cmp_isNaN_int]
theorem nan_u64 (x : Int) : cmp_isNaN_uint64 x = some false := by simp [cmp_isNaN_uint64]
theorem compare_int (x y : Int) : cmp_Compare_int x y = some (cI x y) := by
  unfold cmp_Compare_int cI
  rw [nan_int, nan_int]
  by_cases h : x < y
  · simp [h]
  · by_cases h2 : y < x
    · simp [h, h2]
    · simp [h, h2]
theorem compare_u64 (x y : Int) : cmp_Compare_uint64 x y = some (cI x y) := by
  unfold cmp_Compare_uint64 cI
  rw [nan_u64, nan_u64]
  by_cases h : x < y
  · simp [h]
  · by_cases h2 : y < x
    · simp [h, h2]
    · simp [h, h2]
theorem iadd1 (n : Int) (h0 : 0 ≤ n) (h : n < 1000) : iadd .i64 n 1 = n + 1 := by
  unfold iadd
  simp [IntKind.wrap, IntKind.bits, IntKind.signed]
  omega
theorem or2 (a b : Int) : cmp_Or_int [a, b] = some (if a = 0 then b else a) := by
  unfold cmp_Or_int
  have s0 : cmp_Or_int_L0_step [a, b] (([a, b] : List Int).length : Int) 0 = if a = 0 then some (.inl 1) else some (.inr (.inl a)) := by
    by_cases h : a = 0 <;> simp [cmp_Or_int_L0_step, h, iadd1 0 (by omega) (by omega)]
  have s1 : cmp_Or_int_L0_step [a, b] (([a, b] : List Int).length : Int) 1 = if b = 0 then some (.inl 2) else some (.inr (.inl b)) := by
    by_cases h : b = 0 <;> simp [cmp_Or_int_L0_step, h, iadd1 1 (by omega) (by omega)]
  have s2 : cmp_Or_int_L0_step [a, b] (([a, b] : List Int).length : Int) 2 = some (.inr (.inr ())) := by
    simp [cmp_Or_int_L0_step]
  by_cases ha : a = 0
  · rw [if_pos ha] at s0
    rw [runL_next s0, if_pos ha]
    by_cases hb : b = 0
    · rw [if_pos hb] at s1
      rw [runL_next s1, runL_done s2]
      simp [hb]
    · rw [if_neg hb] at s1
      rw [runL_done s1]
      simp
  · rw [if_neg ha] at s0
    rw [runL_done s0, if_neg ha]
    simp
/-- Of two marks. -/
def cM (x y : Mk) : Int := if cI x.fr y.fr = 0 then cI x.no y.no else cI x.fr y.fr
theorem order_eq (a b c d : Int) : deed_order a b c d = some (cM ⟨a, b⟩ ⟨c, d⟩) := by
  unfold deed_order
  rw [compare_int, compare_u64]
  simp only [Option.bind_some, or2]
  rfl
theorem cI_lt (x y : Int) : (cI x y < 0 ↔ x < y) ∧ (cI x y = 0 ↔ x = y) := by
  unfold cI
  by_cases h : x < y
  · simp [h]; omega
  · by_cases h2 : y < x
    · simp [h, h2]; omega
    · simp [h, h2]; omega
theorem cM_lt (x y : Mk) : ltOf cM x y = true ↔ x.fr < y.fr ∨ x.fr = y.fr ∧ x.no < y.no := by
  have h1 := cI_lt x.fr y.fr
  have h2 := cI_lt x.no y.no
  unfold ltOf cM
  rw [decide_eq_true_eq]
  by_cases h : x.fr = y.fr
  · rw [if_pos (h1.2.2 h)]
    rw [h2.1]
    constructor
    · intro h3; exact .inr ⟨h, h3⟩
    · rintro (h3 | h3)
      · omega
      · exact h3.2
  · rw [if_neg (fun hn => h (h1.2.1 hn)), h1.1]
    constructor
    · intro h3; exact .inl h3
    · rintro (h3 | h3)
      · exact h3
      · exact absurd h3.1 h
theorem cM_nlt (x y : Mk) : ltOf cM x y = false ↔ ¬ (x.fr < y.fr ∨ x.fr = y.fr ∧ x.no < y.no) := by
  rw [← cM_lt]; simp
theorem swoM : SWO (ltOf cM) where
  irrefl x := by rw [cM_nlt]; omega
  trans x y z h1 h2 := by rw [cM_lt] at *; omega
  ntrans x y z h1 h2 := by rw [cM_nlt] at *; omega
theorem totM (x y : Mk) (h1 : ltOf cM x y = false) (h2 : ltOf cM y x = false) : x = y := by
  rw [cM_nlt] at h1 h2
  have e1 : x.fr = y.fr := by omega
  have e2 : x.no = y.no := by omega
  cases x; cases y
  simp only at e1 e2
  rw [e1, e2]

noncomputable def marksF1 : Field := (Try.prog.fieldsOf 61)[0]!
noncomputable def marksF2 : Field := (Try.prog.fieldsOf 61)[1]!
noncomputable def marksRen : Go.Shelf.Ren := ⟨fun | 59 => 59 | 60 => 60 | 80 => 80 | 78 => 78 | 93 => 93 | 79 => 79 | n => n, fun | 0 => 0 | 3 => 3 | 4 => 4 | 61 => 61 | 64 => 64 | 99 => 99 | 59 => 59 | 110 => 110 | 111 => 111 | 113 => 113 | n => n, fun n => n⟩
theorem marksLay : LayM Try.prog marksRen #[marksF1, marksF2] := {
  mixed := by kernel_rfl
  f59 := ⟨Try.f59.name, by decide, Try.func59.trans (congrArg some (by kernel_rfl))⟩
  f60 := ⟨Try.f60.name, by decide, Try.func60.trans (congrArg some (by kernel_rfl))⟩
  f78 := ⟨Try.f78.name, by decide, Try.func78.trans (congrArg some (by kernel_rfl))⟩
  f80 := ⟨Try.f80.name, by decide, Try.func80.trans (congrArg some (by kernel_rfl))⟩
  f93 := ⟨Try.f93.name, by decide, Try.func93.trans (congrArg some (by kernel_rfl))⟩
  t0 := by kernel_rfl
  a0 := Try.isAgg0
  z0 := Try.sizeOf0
  v0 := Try.zeroValue0
  t3 := by kernel_rfl
  a3 := Try.isAgg3
  z3 := Try.sizeOf3
  v3 := Try.zeroValue3
  t4 := by kernel_rfl
  a4 := Try.isAgg4
  z4 := Try.sizeOf4
  v4 := Try.zeroValue4
  t61 := by kernel_rfl
  a61 := Try.isAgg61
  z61 := Try.sizeOf61
  v61 := Try.zeroValue61
  t64 := by kernel_rfl
  a64 := Try.isAgg64
  z64 := Try.sizeOf64
  v64 := Try.zeroValue64
  t99 := by kernel_rfl
  a99 := Try.isAgg99
  z99 := Try.sizeOf99
  v99 := Try.zeroValue99
  t59 := by kernel_rfl
  a59 := Try.isAgg59
  z59 := Try.sizeOf59
  v59 := Try.zeroValue59
  t110 := by kernel_rfl
  a110 := Try.isAgg110
  z110 := Try.sizeOf110
  v110 := Try.zeroValue110
  t111 := by kernel_rfl
  a111 := Try.isAgg111
  z111 := Try.sizeOf111
  v111 := Try.zeroValue111
  t113 := by kernel_rfl
  a113 := Try.isAgg113
  z113 := Try.sizeOf113
  v113 := Try.zeroValue113
  i61 := by kernel_rfl }
theorem marksT : MarkT Try.prog 61 marksF1 marksF2 := ⟨by kernel_rfl, by kernel_rfl, by kernel_rfl, by kernel_rfl, by kernel_rfl, by kernel_rfl, by kernel_rfl, by kernel_rfl, by decide +kernel, by decide +kernel, by kernel_rfl, by decide +kernel⟩
theorem marksK : Maps.Keyed Try.prog (marksRen.t 61) := Maps.Keyed.of_law (deep_law (m := 2) (by decide) (by kernel_rfl) (by kernel_rfl) (by kernel_rfl))
def toE (a : Mk) : E_deed_Mark := .mk a.fr a.no
def keysOf (m : List ((Int × Int) × Int)) : List Mk := m.map fun e => ⟨e.1.1, e.1.2⟩
/-- Keys of their own, of their kinds, not too many. -/
def okM (m : List ((Int × Int) × Int)) : Prop := (m.map (·.1)).Nodup ∧ (∀ e ∈ m, (Lit.int .i64 e.1.1).wf = true ∧ (Lit.int .u64 e.1.2).wf = true) ∧ m.length ≤ 536870912
open Classical in
noncomputable def slices_SortedFunc_marks (m : List ((Int × Int) × Int)) : Option (List E_deed_Mark) := if okM m then some ((sortM cM (keysOf m)).map toE) else none
def slices_SortedFunc_marks_out (m : List ((Int × Int) × Int)) : List E_deed_Mark → Res
  | l2 => ([(.one (.own 0 0 ((List.map E_deed_Mark.pv l2)).length false))], [[(.mp 1)], [(.maph (.st [.i64, .u64]) false (List.map M_deed_Mark_int.pv m) [])]], [(.recs 2 (List.map E_deed_Mark.pv l2))])
theorem slices_SortedFunc_marks_runs (m : List ((Int × Int) × Int)) (r_ : List E_deed_Mark) (h : slices_SortedFunc_marks m = some r_) : Runs Try.prog 59 [(.one (.fn 80 [(.ref 0 0)])), (.one (.fn 61 []))] [[(.mp 1)], [(.maph (.st [.i64, .u64]) false (List.map M_deed_Mark_int.pv m) [])]] [] (slices_SortedFunc_marks_out m r_) := by
  unfold slices_SortedFunc_marks at h
  split at h
  · rename_i hm
    cases h
    obtain ⟨h1, h2, h3⟩ := hm
    have hg : ∀ x y : Mk, @Runs dl1 Try.prog 61 [.agg ((pvM x).map .pv), .agg ((pvM y).map .pv)] [] [] ([.one (.pv (.int .i64 (cM x y)))], [], []) := fun x y => @deed_order_runs dl1 x.fr x.no y.fr y.no _ (order_eq _ _ _ _)
    have hks : (List.map M_deed_Mark_int.pv m).map (·.1) = (keysOf m).map pvM := by simp [keysOf, Function.comp_def, M_deed_Mark_int.pv, pvM]
    have hnd : (keysOf m).Nodup := by
      have : (keysOf m) = (m.map (·.1)).map fun k => (⟨k.1, k.2⟩ : Mk) := by simp [keysOf, Function.comp_def]
      rw [this]
      exact List.pairwise_map.2 (List.Pairwise.imp (fun {a b} hne he => hne (by obtain ⟨a1, a2⟩ := a; obtain ⟨b1, b2⟩ := b; simpa using he)) h1)
    have hkl : ∀ a ∈ keysOf m, ∃ l, keyOf Try.prog (marksRen.t 61) (encM a) = some l := by
      intro a ha
      obtain ⟨e, he, rfl⟩ := List.mem_map.1 ha
      exact marksT.lit _ (h2 e he).1 (h2 e he).2
    have hlen : (keysOf m).length = m.length := by simp [keysOf]
    have h0 := Runs.sortedMarks marksLay marksK (fun h => marksT.enc h) (by kernel_rfl) (List.map M_deed_Mark_int.pv m) false (keysOf m) hks hnd hkl (by rw [hlen]; exact h3) cM swoM totM 61 (fun l hl =>
      RunsI.sortFunc Try.sortF (by kernel_rfl) 2 (by decide) Try.isAgg61 Try.sizeOf61 pvM (fun x => rfl) (fun x p hp => by simp only [pvM, List.mem_cons, List.not_mem_nil, or_false] at hp; rcases hp with rfl | rfl <;> rfl) cM swoM totM 61 hg (enters_of Try.func61 (by kernel_rfl) rfl) l false (by rw [hl, hlen]; omega))
    have e1 : (List.map E_deed_Mark.pv ((sortM cM (keysOf m)).map toE)) = (sortM cM (keysOf m)).map pvM := by simp [Function.comp_def, toE, E_deed_Mark.pv, pvM]
    simp only [slices_SortedFunc_marks_out]
    rw [e1, List.length_map, sortM_len]
    exact h0
  · cases h
end Go.Proofs.Ytjjcmgdgifcmgaa
