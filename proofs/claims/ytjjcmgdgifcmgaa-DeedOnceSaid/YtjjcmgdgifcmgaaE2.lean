/- Chapter 15: a gift between two is pending till it is done, and is taken once. Plain. -/
import Derived.Test.YtjjcmgdgifcmgaaE1
set_option linter.unusedVariables false
set_option linter.unusedSimpArgs false
namespace Go.Proofs.Ytjjcmgdgifcmgaa
open Go.Ev Go.Lib

section
variable {K V : Type} [DecidableEq K]
theorem mget_not {k : K} : ∀ {m : List (K × V)}, k ∉ m.map (·.1) → mget k m = none
  | [], _ => rfl
  | e :: m, h => by
    simp only [List.map_cons, List.mem_cons, not_or] at h
    simp only [mget, df h.1, cond_false]
    exact mget_not h.2
theorem mset_not {k : K} {v : V} : ∀ {m : List (K × V)}, k ∉ m.map (·.1) → mset k v m = m ++ [(k, v)]
  | [], _ => rfl
  | e :: m, h => by
    simp only [List.map_cons, List.mem_cons, not_or] at h
    simp only [mset, df h.1, cond_false, List.cons_append]
    rw [mset_not h.2]
theorem mset_last {k : K} {v w : V} : ∀ {m : List (K × V)}, k ∉ m.map (·.1) → mset k v (m ++ [(k, w)]) = m ++ [(k, v)]
  | [], _ => by simp [mset]
  | e :: m, h => by
    simp only [List.map_cons, List.mem_cons, not_or] at h
    simp only [mset, df h.1, cond_false, List.cons_append]
    rw [mset_last h.2]
theorem mget_last {k : K} {w : V} : ∀ {m : List (K × V)}, k ∉ m.map (·.1) → mget k (m ++ [(k, w)]) = some w
  | [], _ => by simp [mget]
  | e :: m, h => by
    simp only [List.map_cons, List.mem_cons, not_or] at h
    simp only [mget, df h.1, cond_false, List.cons_append]
    exact mget_last h.2
end
/-- What was taken: of one, the first k. -/
def tk (f : Int) (k : Nat) : List ((Int × Int) × Int) := (List.range k).map fun j : Nat => ((f, (j : Int) + 1), 1)
theorem tk_succ (f : Int) (k : Nat) : tk f (k + 1) = tk f k ++ [((f, (k : Int) + 1), 1)] := by simp [tk, List.range_succ]
theorem tk_len (f : Int) (k : Nat) : (tk f k).length = k := by simp [tk]
theorem tk_mem {f : Int} {k : Nat} {x : Int × Int} (h : x ∈ (tk f k).map (·.1)) : x.1 = f ∧ 1 ≤ x.2 ∧ x.2 ≤ k := by
  simp only [tk, List.map_map, List.mem_map, List.mem_range, Function.comp_def] at h
  obtain ⟨j, hj, rfl⟩ := h
  exact ⟨rfl, by simp only; omega, by simp only; omega⟩
theorem tk_not (f : Int) (k : Nat) : (f, (k : Int) + 1) ∉ (tk f k).map (·.1) := fun h => by have := (tk_mem h).2.2; simp only at this; omega
theorem tk_nodup (f : Int) : ∀ k, ((tk f k).map (·.1)).Nodup
  | 0 => by simp [tk]
  | k + 1 => by
    rw [tk_succ, List.map_append, List.nodup_append]
    refine ⟨tk_nodup f k, by simp, fun a ha b hb => ?_⟩
    simp only [List.map_cons, List.map_nil, List.mem_singleton] at hb
    subst hb
    exact fun e => tk_not f k (e ▸ ha)
theorem wf64 {x : Int} (h0 : 0 ≤ x) (h : x < 100000) : (Lit.int .i64 x).wf = true ∧ (Lit.int .u64 x).wf = true := by
  constructor <;> simp [Lit.wf, IntKind.min, IntKind.max, IntKind.bits, IntKind.signed] <;> omega
theorem tk_ok {f : Int} {k : Nat} (h0 : 0 ≤ f) (h : f < 12) (hk : k ≤ 1000) : okM (tk f k) := by
  refine ⟨tk_nodup f k, fun e he => ?_, by rw [tk_len]; omega⟩
  have := tk_mem (List.mem_map.2 ⟨e, he, rfl⟩)
  exact ⟨(wf64 (by omega) (by omega)).1, (wf64 (by omega) (by omega)).2⟩
theorem marks_len {f : Int} {k : Nat} (h0 : 0 ≤ f) (h : f < 12) (hk : k ≤ 1000) (n n2 : Int) (m : List (Int × Int)) : ∃ r, deed_Deeds_Marks n n2 m (tk f k) = some r ∧ r.length = k := by
  refine ⟨(sortM cM (keysOf (tk f k))).map toE, ?_, ?_⟩
  · unfold deed_Deeds_Marks maps_Keys_int slices_SortedFunc_marks
    rw [if_pos (tk_ok h0 h hk)]
    rfl
  · simp [sortM_len, keysOf, tk_len]
theorem irem12 {a : Int} (h : 0 ≤ a) : IntKind.i64.wrap (irem .u8 a 12) = a % 12 := by
  have := irem8 (b := a) (c := 12) h
  rw [show irem .u8 a 12 = a % 12 from this]
  simp [IntKind.wrap, IntKind.bits, IntKind.signed]
  omega
theorem iaddU (n : Int) (h0 : 0 ≤ n) (h : n < 1000) : iadd .u64 n 1 = n + 1 := by
  unfold iadd
  simp [IntKind.wrap, IntKind.bits, IntKind.signed]
  omega
theorem node15 {n : Int} (h0 : 0 ≤ n) (h : n < 12) : deed_node n = some true := by simp [deed_node, h0, h]
theorem right15 {no f to : Int} {i : Bool} {t : Idt} (h1 : 1 ≤ no) (h2 : no < 4611686018427387904) (f0 : 0 ≤ f) (f1 : f < 12) (t0 : 0 ≤ to) (t1 : to < 12) (hne : f ≠ to) (hz : zeroI i t = false) : deed_Gift_Right no f to i t = some true := by
  unfold deed_Gift_Right
  simp only [dt h1, dt h2, cond_true, node15 f0 f1, node15 t0 t1, Option.bind_some, df hne, cond_false, idZero, hz]
  rfl
theorem clone0 : slices_Clone_deed_Gift [] = some () := by simp [slices_Clone_deed_Gift, fits]
theorem fits_small {n : Nat} (h : n ≤ 100) : fits n = true := by simp [fits]; omega
theorem clone1 (g : E_deed_Gift) : slices_Clone_deed_Gift [g] = some () := by simp [slices_Clone_deed_Gift, fits]
theorem pend0 (n n2 : Int) (m : List (Int × Int)) (m2 : List ((Int × Int) × Int)) : deed_Deeds_Pending n n2 m m2 = some () := by simp [deed_Deeds_Pending, clone0]
theorem pend20 (n n2 : Int) (m : List (Int × Int)) (m2 : List ((Int × Int) × Int)) : deed_Deeds_Pending_2 n n2 [] m m2 = some () := by simp [deed_Deeds_Pending_2, clone0]
theorem pend21 (n n2 : Int) (g : E_deed_Gift) (m : List (Int × Int)) (m2 : List ((Int × Int) × Int)) : deed_Deeds_Pending_2 n n2 [g] m m2 = some () := by simp [deed_Deeds_Pending_2, clone1]
theorem to_none (to n n2 : Int) (m : List (Int × Int)) (m2 : List ((Int × Int) × Int)) : deed_Deeds_To to n n2 m m2 = some (0, 0, 0, false, T_id_halves.nil, false) := by
  have h : runL (deed_Deeds_To_L0_step to (((List.map E_deed_Gift.pv [])).length : Int) n n2 m m2) 0 = some (.inr ()) := runL_done (by simp [deed_Deeds_To_L0_step])
  unfold deed_Deeds_To
  rw [h, pend0]
  rfl
theorem to_none2 (to n n2 : Int) (m : List (Int × Int)) (m2 : List ((Int × Int) × Int)) : deed_Deeds_To_2 to n n2 [] m m2 = some (0, 0, 0, false, T_id_halves.nil, false) := by
  have h : runL (deed_Deeds_To_L0_2_step to (((List.map E_deed_Gift.pv [])).length : Int) n n2 [] m m2 []) 0 = some (.inr ()) := runL_done (by simp [deed_Deeds_To_L0_2_step])
  unfold deed_Deeds_To_2
  rw [h, pend20]
  rfl
theorem to_one (to n n2 no f : Int) (i : Bool) (t : Idt) (m : List (Int × Int)) (m2 : List ((Int × Int) × Int)) : deed_Deeds_To_2 to n n2 [.mk no f to i t] m m2 = some (no, f, to, i, t, true) := by
  have h : runL (deed_Deeds_To_L0_2_step to (((List.map E_deed_Gift.pv [.mk no f to i t])).length : Int) n n2 [.mk no f to i t] m m2 [.mk no f to i t]) 0 = some (.inl (no, f, to, i, t)) := runL_done (by simp [deed_Deeds_To_L0_2_step])
  unfold deed_Deeds_To_2
  rw [h, pend21]
  rfl
theorem give1 {n to : Int} {i : Bool} {t : Idt} (f0 : 0 ≤ n) (f1 : n < 12) (t0 : 0 ≤ to) (t1 : to < 12) (hne : n ≠ to) (hz : zeroI i t = false) :
    deed_Deeds_Give to i t n 0 [] [] = some (.inr (1, 1, [.mk 1 n to i t], [(to, 1)])) := by
  unfold deed_Deeds_Give
  have h1 : iadd .u64 0 1 = 1 := rfl
  simp only [deed_Deeds_Last, deed_Deeds_Self, Option.bind_some, to_none, h1, right15 (i := i) (t := t) (by omega : (1 : Int) ≤ 1) (by omega) f0 f1 t0 t1 hne hz, cond_true, cond_false, pend0]
  rfl
theorem give2 {n to : Int} {i : Bool} {t : Idt} {k : Nat} (hk : k ≤ 100) (f0 : 0 ≤ n) (f1 : n < 12) (t0 : 0 ≤ to) (t1 : to < 12) (hne : n ≠ to) (hz : zeroI i t = false) :
    deed_Deeds_Give_2 to i t n k [] [(to, (k : Int))] [] = some ((k : Int) + 1, n, to, i, t, 0, (k : Int) + 1, [.mk ((k : Int) + 1) n to i t], [(to, (k : Int) + 1)]) := by
  unfold deed_Deeds_Give_2
  have h1 : iadd .u64 (k : Int) 1 = (k : Int) + 1 := iaddU _ (by omega) (by omega)
  have h2 : iadd .i64 (k : Int) 1 = (k : Int) + 1 := iadd1 _ (by omega) (by omega)
  have h3 : mget to [(to, (k : Int))] = some (k : Int) := by simp [mget]
  have h4 : ∀ v : Int, mset to v [(to, (k : Int))] = [(to, v)] := by intro v; simp [mset]
  simp only [deed_Deeds_Last_2, deed_Deeds_Self_2, Option.bind_some, to_none2, h1, right15 (i := i) (t := t) (by omega : (1 : Int) ≤ (k : Int) + 1) (by omega) f0 f1 t0 t1 hne hz, cond_true, cond_false, pend20, h3, h2, h4]
  rfl
theorem give3 {n to no : Int} {i : Bool} {t : Idt} (n0 : 1 ≤ no) (n1 : no < 500) (f0 : 0 ≤ n) (f1 : n < 12) (t0 : 0 ≤ to) (t1 : to < 12) (hne : n ≠ to) (hz : zeroI i t = false) (m : List (Int × Int)) :
    deed_Deeds_Give_2 to i t n no [.mk no n to i t] m [] = some (0, 0, 0, false, .nil, 14, no, [.mk no n to i t], m) := by
  unfold deed_Deeds_Give_2
  have h1 : iadd .u64 no 1 = no + 1 := iaddU _ (by omega) (by omega)
  simp only [deed_Deeds_Last_2, deed_Deeds_Self_2, Option.bind_some, to_one, h1, right15 (i := i) (t := t) (by omega : (1 : Int) ≤ no + 1) (by omega) f0 f1 t0 t1 hne hz, cond_true]
theorem index1 (no f to : Int) (i : Bool) (t : Idt) : slices_IndexFunc_deed_Gift [.mk no f to i t] no = some 0 := by
  have h : runL (slices_IndexFunc_deed_Gift_L0_step [.mk no f to i t] (((List.map E_deed_Gift.pv [.mk no f to i t])).length : Int) no) 0 = some (.inl 0) := runL_done (by simp [slices_IndexFunc_deed_Gift_L0_step, deed_Deeds_Done_1])
  unfold slices_IndexFunc_deed_Gift
  rw [h]
  rfl
theorem index0 (no : Int) : slices_IndexFunc_deed_Gift [] no = some (-1) := by
  have h : runL (slices_IndexFunc_deed_Gift_L0_step [] (((List.map E_deed_Gift.pv [])).length : Int) no) 0 = some (.inr ()) := runL_done (by simp [slices_IndexFunc_deed_Gift_L0_step])
  unfold slices_IndexFunc_deed_Gift
  rw [h]
  rfl
theorem done1 (no f to n n2 : Int) (i : Bool) (t : Idt) (m : List (Int × Int)) (m2 : List ((Int × Int) × Int)) : deed_Deeds_Done no n n2 [.mk no f to i t] m m2 = some (0, []) := by
  unfold deed_Deeds_Done
  have h1 : List.take ((List.map E_deed_Gift.pv [.mk no f to i t])).length [E_deed_Gift.mk no f to i t] = [.mk no f to i t] := rfl
  rw [pend21, h1, index1]
  rfl
theorem done0 (no n n2 : Int) (m : List (Int × Int)) (m2 : List ((Int × Int) × Int)) : deed_Deeds_Done no n n2 [] m m2 = some (2, []) := by
  unfold deed_Deeds_Done
  have h1 : List.take ((List.map E_deed_Gift.pv [])).length ([] : List E_deed_Gift) = [] := rfl
  rw [pend20, h1, index0]
  rfl
theorem gave1 {to k : Int} (hk : 0 < k) (n n2 : Int) (m2 : List ((Int × Int) × Int)) : deed_Deeds_Gave to n n2 [] [(to, k)] m2 = some true := by
  unfold deed_Deeds_Gave
  simp [mget, hk]
theorem took1 (f : Int) (k : Nat) (n n2 : Int) (m : List (Int × Int)) : deed_Deeds_Took f ((k : Int) + 1) n n2 m (tk f (k + 1)) = some true := by
  unfold deed_Deeds_Took
  rw [tk_succ, mget_last (tk_not f k)]
  rfl
theorem took0 (f : Int) (k : Nat) (n n2 : Int) (m : List (Int × Int)) : deed_Deeds_Took f ((k : Int) + 1) n n2 m (tk f k) = some false := by
  unfold deed_Deeds_Took
  rw [mget_not (tk_not f k)]
theorem take0 {f to : Int} {i : Bool} {t : Idt} {k : Nat} (hk : k ≤ 100) (f0 : 0 ≤ f) (f1 : f < 12) (t0 : 0 ≤ to) (t1 : to < 12) (hne : f ≠ to) (hz : zeroI i t = false) (n2 : Int) (m : List (Int × Int)) :
    deed_Deeds_Take ((k : Int) + 1) f to i t to n2 m (tk f k) = some (0, tk f (k + 1)) := by
  unfold deed_Deeds_Take
  simp only [right15 (i := i) (t := t) (by omega : (1 : Int) ≤ (k : Int) + 1) (by omega) f0 f1 t0 t1 hne hz, Option.bind_some, cond_true, decide_true, took0, cond_false, mget_not (tk_not f k), mset_not (tk_not f k), mset_last (tk_not f k)]
  rw [tk_succ]
theorem take1 {f to : Int} {i : Bool} {t : Idt} {k : Nat} (hk : k ≤ 100) (f0 : 0 ≤ f) (f1 : f < 12) (t0 : 0 ≤ to) (t1 : to < 12) (hne : f ≠ to) (hz : zeroI i t = false) (n2 : Int) (m : List (Int × Int)) :
    deed_Deeds_Take ((k : Int) + 1) f to i t to n2 m (tk f (k + 1)) = some (14, tk f (k + 1)) := by
  unfold deed_Deeds_Take
  simp only [right15 (i := i) (t := t) (by omega : (1 : Int) ≤ (k : Int) + 1) (by omega) f0 f1 t0 t1 hne hz, Option.bind_some, cond_true, decide_true, took1]
theorem times_lt {x : Int} (h : 0 ≤ x) : 1 ≤ iadd .i64 1 (IntKind.i64.wrap (irem .u8 x 4)) ∧ iadd .i64 1 (IntKind.i64.wrap (irem .u8 x 4)) ≤ 4 := by
  rw [show irem .u8 x 4 = x % 4 from irem8 (b := x) (c := 4) h]
  have h1 : IntKind.i64.wrap (x % 4) = x % 4 := by simp [IntKind.wrap, IntKind.bits, IntKind.signed]; omega
  rw [h1]
  have h2 : iadd .i64 1 (x % 4) = 1 + x % 4 := by unfold iadd; simp [IntKind.wrap, IntKind.bits, IntKind.signed]; omega
  rw [h2]
  omega
section
variable {f to : Int} {i : Bool} {t : Idt} (f0 : 0 ≤ f) (f1 : f < 12) (t0 : 0 ≤ to) (t1 : to < 12) (hne : f ≠ to) (hz : zeroI i t = false)
include f0 f1 t0 t1 hne hz
theorem loopA (l : List Int) (n : Int) (b : Bool) (t2 : Idt) (a1 a2 : Int) (r : List E_deed_Gift) (m : List (Int × Int)) {B : Int} (hB1 : 1 ≤ B) (hB : B ≤ 4) :
    runL (kinfolklaw15_DeedOnce_L1_step f to l n B b t2 a1 a2 r m to ((0 : Nat) + 1 : Int) f to i t) (0, []) = some (.inr (tk f 1)) := by
  have rest : ∀ (d : Nat) (j : Int), 1 ≤ j → j + d = B → runL (kinfolklaw15_DeedOnce_L1_step f to l n B b t2 a1 a2 r m to ((0 : Nat) + 1 : Int) f to i t) (j, tk f 1) = some (.inr (tk f 1)) := by
    intro d
    induction d with
    | zero =>
      intro j h1 h2
      refine runL_done ?_
      simp only [kinfolklaw15_DeedOnce_L1_step, df (show ¬ j < B by omega), cond_false]
    | succ d ih =>
      intro j h1 h2
      have hs : kinfolklaw15_DeedOnce_L1_step f to l n B b t2 a1 a2 r m to ((0 : Nat) + 1 : Int) f to i t (j, tk f 1) = some (.inl (j + 1, tk f 1)) := by
        have e1 := take1 (k := 0) (by omega) f0 f1 t0 t1 hne hz 0 []
        have e2 := took1 f 0 to 0 []
        simp only [Nat.zero_add] at e1 e2
        simp only [kinfolklaw15_DeedOnce_L1_step, dt (show j < B by omega), dt (show 0 < j by omega), cond_true, e1, e2, Option.bind_some, decide_true, iadd1 j (by omega) (by omega)]
      rw [runL_next hs]
      exact ih (j + 1) (by omega) (by omega)
  have hs : kinfolklaw15_DeedOnce_L1_step f to l n B b t2 a1 a2 r m to ((0 : Nat) + 1 : Int) f to i t (0, []) = some (.inl (1, tk f 1)) := by
    have e1 := take0 (k := 0) (by omega) f0 f1 t0 t1 hne hz 0 []
    have e2 := took1 f 0 to 0 []
    simp only [Nat.zero_add] at e1 e2
    have e1 : deed_Deeds_Take ((0 : Nat) + 1 : Int) f to i t to 0 [] [] = some (0, tk f 1) := e1
    simp only [kinfolklaw15_DeedOnce_L1_step, dt (show (0 : Int) < B by omega), df (show ¬ (0 : Int) < 0 by omega), cond_true, cond_false, e1, e2, Option.bind_some, decide_true, iadd1 0 (by omega) (by omega)]
    rfl
  rw [runL_next hs]
  exact rest (B - 1).toNat 1 (by omega) (by omega)
theorem loopB (l : List Int) (n : Int) (b : Bool) (t2 : Idt) (a1 a2 a3 a4 : Int) (r : List E_deed_Gift) (m : List (Int × Int)) {k : Nat} (hk : k ≤ 100) {B : Int} (hB1 : 1 ≤ B) (hB : B ≤ 4) :
    runL (kinfolklaw15_DeedOnce_L1_3_step f to n l a1 a2 B b t2 a3 a4 r m to ((k : Int) + 1) f to i t) (0, tk f k) = some (.inr (tk f (k + 1))) := by
  have rest : ∀ (d : Nat) (j : Int), 1 ≤ j → j + d = B → runL (kinfolklaw15_DeedOnce_L1_3_step f to n l a1 a2 B b t2 a3 a4 r m to ((k : Int) + 1) f to i t) (j, tk f (k + 1)) = some (.inr (tk f (k + 1))) := by
    intro d
    induction d with
    | zero =>
      intro j h1 h2
      refine runL_done ?_
      simp only [kinfolklaw15_DeedOnce_L1_3_step, df (show ¬ j < B by omega), cond_false]
    | succ d ih =>
      intro j h1 h2
      have hs : kinfolklaw15_DeedOnce_L1_3_step f to n l a1 a2 B b t2 a3 a4 r m to ((k : Int) + 1) f to i t (j, tk f (k + 1)) = some (.inl (j + 1, tk f (k + 1))) := by
        simp only [kinfolklaw15_DeedOnce_L1_3_step, dt (show j < B by omega), dt (show 0 < j by omega), cond_true, take1 hk f0 f1 t0 t1 hne hz, took1, Option.bind_some, decide_true, iadd1 j (by omega) (by omega)]
      rw [runL_next hs]
      exact ih (j + 1) (by omega) (by omega)
  have hs : kinfolklaw15_DeedOnce_L1_3_step f to n l a1 a2 B b t2 a3 a4 r m to ((k : Int) + 1) f to i t (0, tk f k) = some (.inl (1, tk f (k + 1))) := by
    simp only [kinfolklaw15_DeedOnce_L1_3_step, dt (show (0 : Int) < B by omega), df (show ¬ (0 : Int) < 0 by omega), cond_true, cond_false, take0 hk f0 f1 t0 t1 hne hz, took1, Option.bind_some, decide_true, iadd1 0 (by omega) (by omega)]
    rfl
  rw [runL_next hs]
  exact rest (B - 1).toNat 1 (by omega) (by omega)
theorem roundB {l : List Int} (hl : ∀ x ∈ l, 0 ≤ x) {k : Nat} (h1 : 1 ≤ k) (h8 : k < 8) (hkl : k < l.length) :
    kinfolklaw15_DeedOnce_L0_step f to l (l.length : Int) i t f to (.inr ((k : Int), (k : Int), [], [(to, (k : Int))], tk f k)) = some (.inl (.inr ((k : Int) + 1, (k : Int) + 1, [], [(to, (k : Int) + 1)], tk f (k + 1)))) := by
  obtain ⟨r6, hr, hrl⟩ := marks_len (k := k + 1) f0 f1 (by omega) to 0 []
  obtain ⟨b1, b2⟩ := times_lt (x := l.getD k 0) (by rw [List.getD_eq_getElem?_getD, List.getElem?_eq_getElem hkl]; exact hl _ (List.getElem_mem _))
  have w1 : IntKind.u64.wrap (iadd .i64 (k : Int) 1) = (k : Int) + 1 := by
    rw [iadd1 (k : Int) (by omega) (by omega)]
    simp [IntKind.wrap, IntKind.bits, IntKind.signed]; omega
  simp only [kinfolklaw15_DeedOnce_L0_step, dt (show (k : Int) < (l.length : Int) by omega), cond_true, dt (show (0 : Int) ≤ k by omega), Bool.and_self, df (show ¬ (8 : Int) ≤ k by omega), cond_false, give2 (k := k) (by omega) f0 f1 t0 t1 hne hz, Option.bind_some, decide_true, w1, pend21,
    give3 (no := (k : Int) + 1) (by omega) (by omega) f0 f1 t0 t1 hne hz, Int.toNat_natCast]
  rw [loopB f0 f1 t0 t1 hne hz l (k : Int) i t (l.length : Int) (k : Int) f ((k : Int) + 1) [.mk ((k : Int) + 1) f to i t] [(to, (k : Int) + 1)] (k := k) (by omega) b1 b2]
  simp only [Option.bind_some, done1, done0, decide_true, cond_true, gave1 (show (0 : Int) < (k : Int) + 1 by omega), hr, List.length_map, hrl, iadd1 (k : Int) (by omega) (by omega), List.length_cons, List.length_nil]
  simp
theorem roundA {l : List Int} (hl : ∀ x ∈ l, 0 ≤ x) (hkl : 0 < l.length) :
    kinfolklaw15_DeedOnce_L0_step f to l (l.length : Int) i t f to (.inl ()) = some (.inl (.inr (1, 1, [], [(to, 1)], tk f 1))) := by
  obtain ⟨r6, hr, hrl⟩ := marks_len (k := 1) f0 f1 (by omega) to 0 []
  obtain ⟨b1, b2⟩ := times_lt (x := l.getD 0 0) (by rw [List.getD_eq_getElem?_getD, List.getElem?_eq_getElem hkl]; exact hl _ (List.getElem_mem _))
  have hA := loopA f0 f1 t0 t1 hne hz l (l.length : Int) i t f 1 [.mk 1 f to i t] [(to, 1)] b1 b2
  have hA : runL (kinfolklaw15_DeedOnce_L1_step f to l (l.length : Int) (iadd .i64 1 (IntKind.i64.wrap (irem .u8 (l.getD 0 0) 4))) i t f 1 [.mk 1 f to i t] [(to, 1)] to 1 f to i t) (0, []) = some (.inr (tk f 1)) := hA
  simp only [kinfolklaw15_DeedOnce_L0_step, dt (show (0 : Int) < (l.length : Int) by omega), cond_true, dt (show (0 : Int) ≤ 0 by omega), Bool.and_self, give1 f0 f1 t0 t1 hne hz, Option.bind_some, decide_true, pend21,
    give3 (no := 1) (by omega) (by omega) f0 f1 t0 t1 hne hz]
  rw [hA]
  simp only [Option.bind_some, done1, done0, decide_true, cond_true, gave1 (show (0 : Int) < 1 by omega), hr, List.length_map, hrl, List.length_cons, List.length_nil]
  simp
theorem runB {l : List Int} (hl : ∀ x ∈ l, 0 ≤ x) : ∀ (d k : Nat), 1 ≤ k → k + d = min 8 l.length → ∃ (n4 : Int) (m : List (Int × Int)) (m2 : List ((Int × Int) × Int)), runL (kinfolklaw15_DeedOnce_L0_step f to l (l.length : Int) i t f to) (.inr ((k : Int), (k : Int), [], [(to, (k : Int))], tk f k)) = some (.inr (.inr (n4, [], m, m2)))
  | 0, k, h1, h2 => by
    refine ⟨(k : Int), [(to, (k : Int))], tk f k, runL_done ?_⟩
    by_cases h : k < l.length
    · have h8 : k = 8 := by omega
      simp only [kinfolklaw15_DeedOnce_L0_step, dt (show (k : Int) < (l.length : Int) by omega), cond_true, dt (show (0 : Int) ≤ k by omega), Bool.and_self, dt (show (8 : Int) ≤ k by omega)]
    · simp only [kinfolklaw15_DeedOnce_L0_step, df (show ¬ (k : Int) < (l.length : Int) by omega), cond_false]
  | d + 1, k, h1, h2 => by
    rw [runL_next (roundB f0 f1 t0 t1 hne hz hl h1 (by omega) (by omega))]
    have := runB hl d (k + 1) (by omega) (by omega)
    simpa using this
end
theorem awake15 : kinfolklaw15_awake = some true := by
  have g := give1 (n := 0) (to := 2) (i := true) (t := .nil) (by omega) (by omega) (by omega) (by omega) (by omega) rfl
  have d := done1 1 0 2 0 1 true .nil [(2, 1)] []
  have v := gave1 (to := 2) (k := 1) (by omega) 0 1 []
  simp only [kinfolklaw15_awake, deed_New, id_One, g, Option.bind_some, decide_true, cond_true, d, v, pend20]
  rfl
theorem made15 {N : Nat} (hN : 100 ≤ N) {p : List Int} (hb : Bytes p) : ∃ i t, kinfolklaw15_made N p = some (i, t, fromI i t) ∧ nfI i t ∧ depthI t ≤ 16 := by
  have key : ∀ q : List Int, Bytes q → ∃ i t, ((kinfolkref01_Make N q 5).bind fun (t, l_) => (kinfolklaw15_own N t).bind fun (b, t2) => some (b, t2, t)) = some (i, t, fromI i t) ∧ nfI i t ∧ depthI t ≤ 16 := by
    intro q hq
    obtain ⟨i, t, rest, h1, h2, h3, _⟩ := rmakeID (N := N) (most := 5) (p := q) (by omega) (by omega) hq
    have h1 : kinfolkref01_Make N q 5 = _ := h1
    have h4 := ownI_eq (N := N) h2 (by omega) (by omega)
    exact ⟨i, t, by rw [h1]; simp only [Option.bind_some, h4], h2, by omega⟩
  obtain ⟨i, t, h1, h2, h3⟩ := key (List.take ((if (30 : Int) < ((p).length : Int) then 30 else ((p).length : Int)) - 0).toNat p) (fun x hx => hb x (List.mem_of_mem_take hx))
  refine ⟨i, t, ?_, h2, h3⟩
  unfold kinfolklaw15_made
  have hc : ∀ {a b c d : Bool}, a = true → b = true → c = true → d = true → (a && b && c && d) = true := by intro a b c d h1 h2 h3 h4; rw [h1, h2, h3, h4]; rfl
  rw [hc (by simp) (by split <;> simp <;> omega) (by split <;> simp <;> omega) (by simp)]
  exact h1
/-- A gift between two is pending till it is done, and is taken once, however often it comes; the next one has the next number. -/
theorem once15 {N : Nat} (hN : 100 ≤ N) {a b : Int} (ha : 0 ≤ a) (hb : 0 ≤ b) {times share : List Int} (ht : Bytes times) (hs : Bytes share) : kinfolklaw15_DeedOnce N a b times share = some true := by
  obtain ⟨i, t, hm, _, _⟩ := made15 hN hs
  have ea := irem12 ha
  have eb := irem12 hb
  unfold kinfolklaw15_DeedOnce
  rw [awake15, hm, ea, eb]
  simp only [Option.bind_some, cond_true]
  by_cases hne : a % 12 = b % 12
  · simp only [dt hne, cond_true]
  · simp only [df hne, cond_false, idZero, Option.bind_some, deed_New]
    cases hz : zeroI i t with
    | true => rfl
    | false =>
      simp only [cond_false]
      have f0 : 0 ≤ a % 12 := by omega
      have f1 : a % 12 < 12 := by omega
      have t0 : 0 ≤ b % 12 := by omega
      have t1 : b % 12 < 12 := by omega
      have hl : ∀ x ∈ times, 0 ≤ x := fun x hx => (ht x hx).1
      cases times with
      | nil =>
        have h0 : runL (kinfolklaw15_DeedOnce_L0_step (a % 12) (b % 12) [] (([] : List Int).length : Int) i t (a % 12) (b % 12)) (.inl ()) = some (.inr (.inl ())) := runL_done (by simp [kinfolklaw15_DeedOnce_L0_step])
        rw [h0]
        simp only [Option.bind_some, pend0]
        rfl
      | cons x l =>
        have hA := roundA f0 f1 t0 t1 hne hz (l := x :: l) hl (by simp)
        rw [runL_next hA]
        obtain ⟨n4, m, m2, hr⟩ := runB f0 f1 t0 t1 hne hz (l := x :: l) hl (min 8 (x :: l).length - 1) 1 (by omega) (by simp only [List.length_cons]; omega)
        have hr : runL (kinfolklaw15_DeedOnce_L0_step (a % 12) (b % 12) (x :: l) ((x :: l).length : Int) i t (a % 12) (b % 12)) (.inr (1, 1, [], [(b % 12, 1)], tk (a % 12) 1)) = _ := hr
        rw [hr]
        simp only [Option.bind_some, pend20]
        rfl
end Go.Proofs.Ytjjcmgdgifcmgaa
