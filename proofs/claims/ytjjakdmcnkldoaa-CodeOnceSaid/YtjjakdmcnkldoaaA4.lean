/- What functions compute, and that they do. -/
import Derived.Test.YtjjakdmcnkldoaaA3
set_option linter.unusedVariables false
set_option linter.unusedSimpArgs false
namespace Go.Proofs.Ytjjakdmcnkldoaa
open Go.Ev

/-! ### code_Stamp -/
theorem code_Stamp_p0 (s : Bool) (s2 : T_id_halves) (s3 : Int) (s4 : T_event_halves) (n : Int) (l_ : List Int) (n2 : Int) (l_2 : List Int) : evFn Try.prog cfg (Runs Try.prog) (LRuns Try.prog (lEnv Try.prog cfg 9 0).nt 0) 9 [(.agg [(.pv (.bool s)), (.pv (T_id_halves.pv s2)), (.pv (.int .u64 s3)), (.pv (T_event_halves.pv s4))])] [] []
    [.res ([(.one (.ref 0 0))], [[(.pv .nils), (.pv (.int .i64 0))]], []), .res ([], [[(.own 0 0 (l_).length false), (.pv (.int .i64 n))]], [(.ints .u8 l_)]), .res ([], [[(.own 0 0 (l_2).length false), (.pv (.int .i64 n2))]], [(.ints .u8 l_2)]), .res ([(.one (.pv (.ints .u8 l_2 false)))], [[(.pv (.ints .u8 l_2 false)), (.pv (.int .i64 n2))]], [])] =
  some (([(.one (.pv (.ints .u8 l_2 false)))], [], []), obs [
    Runs Try.prog 15 [] [] [] ([(.one (.ref 0 0))], [[(.pv .nils), (.pv (.int .i64 0))]], []),
    Runs Try.prog 17 [(.one (.ref 0 0)), (.agg [(.pv (.bool s)), (.pv (T_id_halves.pv s2))])] [[(.pv .nils), (.pv (.int .i64 0))]] [] ([], [[(.own 0 0 (l_).length false), (.pv (.int .i64 n))]], [(.ints .u8 l_)]),
    Runs Try.prog 16 [(.one (.ref 0 0)), (.agg [(.pv (.int .u64 s3)), (.pv (T_event_halves.pv s4))])] [[(.own 0 0 (l_).length false), (.pv (.int .i64 n))]] [(.ints .u8 l_)] ([], [[(.own 0 0 (l_2).length false), (.pv (.int .i64 n2))]], [(.ints .u8 l_2)]),
    Runs Try.prog 20 [(.one (.ref 0 0))] [[(.own 0 0 (l_2).length false), (.pv (.int .i64 n2))]] [(.ints .u8 l_2)] ([(.one (.pv (.ints .u8 l_2 false)))], [[(.pv (.ints .u8 l_2 false)), (.pv (.int .i64 n2))]], [])]) := by kernel_rfl
noncomputable def code_Stamp (N : Nat) (s : Bool) (s2 : T_id_halves) (s3 : Int) (s4 : T_event_halves) : Option (List Int) :=
  (bits_NewWriter).bind fun _ =>
  (code_PutID N s s2 0).bind fun (n, l_) =>
  (code_PutEvent N s3 s4 n l_).bind fun (n2, l_2) =>
  (bits_Writer_Bytes n2 l_2).bind fun _ =>
  some l_2
theorem code_Stamp_runs (N : Nat) (s : Bool) (s2 : T_id_halves) (s3 : Int) (s4 : T_event_halves) (r_ : List Int) (h : code_Stamp N s s2 s3 s4 = some r_) : Runs Try.prog 9 [(.agg [(.pv (.bool s)), (.pv (T_id_halves.pv s2)), (.pv (.int .u64 s3)), (.pv (T_event_halves.pv s4))])] [] [] (code_Stamp_out s s2 s3 s4 r_) := by
  unfold code_Stamp at h
  obtain ⟨_, h1, h⟩ := bind_of h
  obtain ⟨⟨n, l_⟩, h2, h⟩ := bind_of h
  obtain ⟨⟨n2, l_2⟩, h3, h⟩ := bind_of h
  obtain ⟨_, h4, h⟩ := bind_of h
  have h := some_of h
  subst h
  have e_ := code_Stamp_p0 s s2 s3 s4 n l_ n2 l_2
  have e_ := runs_of (objs := []) (Says.of e_ ⟨(bits_NewWriter_runs _ h1), (code_PutID_runs N s s2 0 _ h2), (code_PutEvent_runs N s3 s4 n l_ _ h3), (bits_Writer_Bytes_runs n2 l_2 _ h4), trivial⟩)
  exact e_
/-! ### bytes_Equal_out -/
def bytes_Equal_out (a : List Int) (b : List Int) : Bool → Res
  | r1 => ([(.one (.pv (.bool r1)))], [], [])
/-! ### bytes_Equal -/
theorem bytes_Equal_p0 (a : List Int) (b : List Int) : evFn Try.prog cfg (Runs Try.prog) (LRuns Try.prog (lEnv Try.prog cfg 8 0).nt 0) 8 [(.one (.pv (.ints .u8 a false))), (.one (.pv (.ints .u8 b false)))] [] []
    [] =
  some (([(.one (.pv (.bool (decide ((strOf a) = (strOf b))))))], [], []), obs [
    ]) := by kernel_rfl
noncomputable def bytes_Equal (a : List Int) (b : List Int) : Option (Bool) :=
  some (decide ((strOf a) = (strOf b)))
theorem bytes_Equal_runs (a : List Int) (b : List Int) (r_ : Bool) (h : bytes_Equal a b = some r_) : Runs Try.prog 8 [(.one (.pv (.ints .u8 a false))), (.one (.pv (.ints .u8 b false)))] [] [] (bytes_Equal_out a b r_) := by
  unfold bytes_Equal at h
  have h := some_of h
  subst h
  have e_ := bytes_Equal_p0 a b
  have e_ := runs_of (objs := []) (Says.of e_ trivial)
  exact e_
/-! ### kinfolklaw07_awake -/
theorem kinfolklaw07_awake_p0 (l_ : List Int) (b : Bool) : evFn Try.prog cfg (Runs Try.prog) (LRuns Try.prog (lEnv Try.prog cfg 6 0).nt 0) 6 [] [] []
    [.res ([(.agg [(.pv (.bool true)), (.pv (T_id_halves.pv T_id_halves.nil)), (.pv (.int .u64 0)), (.pv (T_event_halves.pv T_event_halves.nil))])], [], []), .res ([(.one (.pv (.ints .u8 l_ false)))], [], []), .res ([(.one (.pv (.bool b)))], [], [])] =
  some (([(.one (.pv (.bool b)))], [], []), obs [
    Runs Try.prog 32 [] [] [] ([(.agg [(.pv (.bool true)), (.pv (T_id_halves.pv T_id_halves.nil)), (.pv (.int .u64 0)), (.pv (T_event_halves.pv T_event_halves.nil))])], [], []),
    Runs Try.prog 9 [(.agg [(.pv (.bool true)), (.pv (T_id_halves.pv T_id_halves.nil)), (.pv (.int .u64 0)), (.pv (T_event_halves.pv T_event_halves.nil))])] [] [] ([(.one (.pv (.ints .u8 l_ false)))], [], []),
    Runs Try.prog 8 [(.one (.pv (.ints .u8 l_ false))), (.one (.pv (.ints .u8 [48] true)))] [] [] ([(.one (.pv (.bool b)))], [], [])]) := by kernel_rfl
noncomputable def kinfolklaw07_awake (N : Nat) : Option (Bool) :=
  (stamp_Seed).bind fun _ =>
  (code_Stamp N true T_id_halves.nil 0 T_event_halves.nil).bind fun l_ =>
  (bytes_Equal l_ [48]).bind fun b =>
  some b
theorem kinfolklaw07_awake_runs (N : Nat) (r_ : Bool) (h : kinfolklaw07_awake N = some r_) : Runs Try.prog 6 [] [] [] (kinfolklaw07_awake_out r_) := by
  unfold kinfolklaw07_awake at h
  obtain ⟨_, h1, h⟩ := bind_of h
  obtain ⟨l_, h2, h⟩ := bind_of h
  obtain ⟨b, h3, h⟩ := bind_of h
  have h := some_of h
  subst h
  have e_ := kinfolklaw07_awake_p0 l_ b
  have e_ := runs_of (objs := []) (Says.of e_ ⟨(stamp_Seed_runs _ h1), (code_Stamp_runs N true T_id_halves.nil 0 T_event_halves.nil _ h2), ((bytes_Equal_runs l_ [48] _ h3).coe ⟨.eq rfl, .pv (.ints rfl), trivial⟩ trivial trivial), trivial⟩)
  exact e_
/-! ### kinfolklaw07_made_out -/
def kinfolklaw07_made_out (p : List Int) (q : List Int) : Bool × T_id_halves × Int × T_event_halves × T_kinfolkref01_ID × T_kinfolkref02_Event → Res
  | (r1, r2, r3, r4, r5, r6) => ([(.agg [(.pv (.bool r1)), (.pv (T_id_halves.pv r2)), (.pv (.int .u64 r3)), (.pv (T_event_halves.pv r4))]), (.agg [(.pv (T_kinfolkref01_ID.pv r5)), (.pv (T_kinfolkref02_Event.pv r6))])], [], [])
/-! ### kinfolkref01_Make_out -/
def kinfolkref01_Make_out (p : List Int) (most : Int) : T_kinfolkref01_ID × List Int → Res
  | (r1, r2) => ([(.one (.pv (T_kinfolkref01_ID.pv r1))), (.one (.pv (.ints .u8 r2 false)))], [], [])
/-! ### kinfolkref01_Zero_out -/
def kinfolkref01_Zero_out : T_kinfolkref01_ID → Res
  | r1 => ([(.one (.pv (T_kinfolkref01_ID.pv r1)))], [], [])
/-! ### kinfolkref01_Zero -/
theorem kinfolkref01_Zero_p0 : evFn Try.prog cfg (Runs Try.prog) (LRuns Try.prog (lEnv Try.prog cfg 64 0).nt 0) 64 [] [] []
    [] =
  some (([(.one (.pv (.imm [(.int .i64 0), .nilp, .nilp] 0)))], [], []), obs [
    ]) := by kernel_rfl
noncomputable def kinfolkref01_Zero : Option (T_kinfolkref01_ID) :=
  some (T_kinfolkref01_ID.mk 0 T_kinfolkref01_ID.nil T_kinfolkref01_ID.nil)
theorem kinfolkref01_Zero_runs (r_ : T_kinfolkref01_ID) (h : kinfolkref01_Zero = some r_) : Runs Try.prog 64 [] [] [] (kinfolkref01_Zero_out r_) := by
  unfold kinfolkref01_Zero at h
  have h := some_of h
  subst h
  have e_ := kinfolkref01_Zero_p0
  have e_ := runs_of (objs := []) (Says.of e_ trivial)
  exact e_.out ⟨.eq rfl, trivial⟩ trivial trivial rfl
/-! ### kinfolkref01_Pair_out -/
def kinfolkref01_Pair_out (l : T_kinfolkref01_ID) (r : T_kinfolkref01_ID) : T_kinfolkref01_ID → Res
  | r1 => ([(.one (.pv (T_kinfolkref01_ID.pv r1)))], [], [])
/-! ### kinfolkref01_Pair -/
theorem kinfolkref01_Pair_p2 (n : Int) (t : T_kinfolkref01_ID) (t2 : T_kinfolkref01_ID) (n2 : Int) (t3 : T_kinfolkref01_ID) (t4 : T_kinfolkref01_ID) : evFn Try.prog cfg (Runs Try.prog) (LRuns Try.prog (lEnv Try.prog cfg 65 0).nt 0) 65 [(.one (.pv (T_kinfolkref01_ID.pv (T_kinfolkref01_ID.mk n t t2)))), (.one (.pv (T_kinfolkref01_ID.pv (T_kinfolkref01_ID.mk n2 t3 t4))))] [] []
    [.br true, .br true] =
  some (([(.one (.pv (T_kinfolkref01_ID.pv (T_kinfolkref01_ID.mk n t t2))))], [], []), obs [
    (decide ((n : Int) = n2)) = true,
    (decide ((n : Int) < 2)) = true]) := by kernel_rfl
theorem kinfolkref01_Pair_p3 (n : Int) (t : T_kinfolkref01_ID) (t2 : T_kinfolkref01_ID) (n2 : Int) (t3 : T_kinfolkref01_ID) (t4 : T_kinfolkref01_ID) : evFn Try.prog cfg (Runs Try.prog) (LRuns Try.prog (lEnv Try.prog cfg 65 0).nt 0) 65 [(.one (.pv (T_kinfolkref01_ID.pv (T_kinfolkref01_ID.mk n t t2)))), (.one (.pv (T_kinfolkref01_ID.pv (T_kinfolkref01_ID.mk n2 t3 t4))))] [] []
    [.br true, .br false] =
  some (([(.one (.pv (.imm [(.int .i64 2), (T_kinfolkref01_ID.pv (T_kinfolkref01_ID.mk n t t2)), (T_kinfolkref01_ID.pv (T_kinfolkref01_ID.mk n2 t3 t4))] 0)))], [], []), obs [
    (decide ((n : Int) = n2)) = true,
    (decide ((n : Int) < 2)) = false]) := by kernel_rfl
theorem kinfolkref01_Pair_p4 (n : Int) (t : T_kinfolkref01_ID) (t2 : T_kinfolkref01_ID) (n2 : Int) (t3 : T_kinfolkref01_ID) (t4 : T_kinfolkref01_ID) : evFn Try.prog cfg (Runs Try.prog) (LRuns Try.prog (lEnv Try.prog cfg 65 0).nt 0) 65 [(.one (.pv (T_kinfolkref01_ID.pv (T_kinfolkref01_ID.mk n t t2)))), (.one (.pv (T_kinfolkref01_ID.pv (T_kinfolkref01_ID.mk n2 t3 t4))))] [] []
    [.br false, .br false] =
  some (([(.one (.pv (.imm [(.int .i64 2), (T_kinfolkref01_ID.pv (T_kinfolkref01_ID.mk n t t2)), (T_kinfolkref01_ID.pv (T_kinfolkref01_ID.mk n2 t3 t4))] 0)))], [], []), obs [
    (decide ((n : Int) = n2)) = false,
    false = false]) := by kernel_rfl
noncomputable def kinfolkref01_Pair (l : T_kinfolkref01_ID) (r : T_kinfolkref01_ID) : Option (T_kinfolkref01_ID) :=
  match l with
  | .nil =>
    none
  | .mk n t t2 =>
    match r with
    | .nil =>
      none
    | .mk n2 t3 t4 =>
      bif (decide ((n : Int) = n2)) then
        bif (decide ((n : Int) < 2)) then
          some l
        else
          some (T_kinfolkref01_ID.mk 2 l r)
      else
        some (T_kinfolkref01_ID.mk 2 l r)
theorem kinfolkref01_Pair_runs (l : T_kinfolkref01_ID) (r : T_kinfolkref01_ID) (r_ : T_kinfolkref01_ID) (h : kinfolkref01_Pair l r = some r_) : Runs Try.prog 65 [(.one (.pv (T_kinfolkref01_ID.pv l))), (.one (.pv (T_kinfolkref01_ID.pv r)))] [] [] (kinfolkref01_Pair_out l r r_) := by
  unfold kinfolkref01_Pair at h
  cases l with
  | nil =>
    cases h
  | mk n t t2 =>
    cases r with
    | nil =>
      cases h
    | mk n2 t3 t4 =>
      rcases cond_of h with ⟨h1, h⟩ | ⟨h1, h⟩
      · rcases cond_of h with ⟨h2, h⟩ | ⟨h2, h⟩
        · have h := some_of h
          subst h
          have e_ := kinfolkref01_Pair_p2 n t t2 n2 t3 t4
          have e_ := runs_of (objs := []) (Says.of e_ ⟨h1, h2, trivial⟩)
          exact e_
        · have h := some_of h
          subst h
          have e_ := kinfolkref01_Pair_p3 n t t2 n2 t3 t4
          have e_ := runs_of (objs := []) (Says.of e_ ⟨h1, h2, trivial⟩)
          exact e_.out ⟨.eq rfl, trivial⟩ trivial trivial rfl
      · have h := some_of h
        subst h
        have e_ := kinfolkref01_Pair_p4 n t t2 n2 t3 t4
        have e_ := runs_of (objs := []) (Says.of e_ ⟨h1, rfl, trivial⟩)
        exact e_.out ⟨.eq rfl, trivial⟩ trivial trivial rfl
/-! ### kinfolkref01_Make -/
theorem kinfolkref01_Make_p0 (p : List Int) (most : Int) (t : T_kinfolkref01_ID) : evFn Try.prog cfg (Runs Try.prog) (LRuns Try.prog (lEnv Try.prog cfg 33 0).nt 0) 33 [(.one (.pv (.ints .u8 p false))), (.one (.pv (.int .i64 most)))] [] []
    [.br true, .res ([(.one (.pv (T_kinfolkref01_ID.pv t)))], [], [])] =
  some (([(.one (.pv (T_kinfolkref01_ID.pv t))), (.one (.pv .nils))], [], []), obs [
    (decide ((((p).length : Int) : Int) = 0)) = true,
    Runs Try.prog 64 [] [] [] ([(.one (.pv (T_kinfolkref01_ID.pv t)))], [], [])]) := by kernel_rfl
theorem kinfolkref01_Make_p1 (p : List Int) (most : Int) : evFn Try.prog cfg (Runs Try.prog) (LRuns Try.prog (lEnv Try.prog cfg 33 0).nt 0) 33 [(.one (.pv (.ints .u8 p false))), (.one (.pv (.int .i64 most)))] [] []
    [.br false, .br true, .br true] =
  some (([(.one (.pv (.imm [(.int .i64 (IntKind.i64.wrap (irem .u8 (p.getD 0 0) 2))), .nilp, .nilp] 0))), (.one (.pv (.ints .u8 (List.take (((p).length : Int) - 1).toNat (List.drop 1 p)) false)))], [], []), obs [
    (decide ((((p).length : Int) : Int) = 0)) = false,
    (decide ((0 : Int) ≤ 0) && decide ((0 : Int) < ((p).length : Int))) = true,
    (decide ((0 : Int) ≤ 1) && decide ((1 : Int) ≤ ((p).length : Int)) && decide ((((p).length : Int) : Int) ≤ ((p).length : Int)) && decide ((((p).length : Int) : Int) = ((p).length : Int))) = true,
    (decide ((most : Int) = 0)) = true,
    true = true,
    true = true]) := by kernel_rfl
theorem kinfolkref01_Make_p2 (p : List Int) (most : Int) : evFn Try.prog cfg (Runs Try.prog) (LRuns Try.prog (lEnv Try.prog cfg 33 0).nt 0) 33 [(.one (.pv (.ints .u8 p false))), (.one (.pv (.int .i64 most)))] [] []
    [.br false, .br false, .br true] =
  some (([(.one (.pv (.imm [(.int .i64 (IntKind.i64.wrap (irem .u8 (p.getD 0 0) 2))), .nilp, .nilp] 0))), (.one (.pv (.ints .u8 (List.take (((p).length : Int) - 1).toNat (List.drop 1 p)) false)))], [], []), obs [
    (decide ((((p).length : Int) : Int) = 0)) = false,
    (decide ((0 : Int) ≤ 0) && decide ((0 : Int) < ((p).length : Int))) = true,
    (decide ((0 : Int) ≤ 1) && decide ((1 : Int) ≤ ((p).length : Int)) && decide ((((p).length : Int) : Int) ≤ ((p).length : Int)) && decide ((((p).length : Int) : Int) = ((p).length : Int))) = true,
    (decide ((most : Int) = 0)) = false,
    true = true,
    (decide (((irem .u8 (p.getD 0 0) 4) : Int) < 2)) = true,
    true = true]) := by kernel_rfl
theorem kinfolkref01_Make_p3 (p : List Int) (most : Int) (t : T_kinfolkref01_ID) (l_ : List Int) (t2 : T_kinfolkref01_ID) (l_2 : List Int) (t3 : T_kinfolkref01_ID) : evFn Try.prog cfg (Runs Try.prog) (LRuns Try.prog (lEnv Try.prog cfg 33 0).nt 0) 33 [(.one (.pv (.ints .u8 p false))), (.one (.pv (.int .i64 most)))] [] []
    [.br false, .br false, .br false, .res ([(.one (.pv (T_kinfolkref01_ID.pv t))), (.one (.pv (.ints .u8 l_ false)))], [], []), .res ([(.one (.pv (T_kinfolkref01_ID.pv t2))), (.one (.pv (.ints .u8 l_2 false)))], [], []), .res ([(.one (.pv (T_kinfolkref01_ID.pv t3)))], [], [])] =
  some (([(.one (.pv (T_kinfolkref01_ID.pv t3))), (.one (.pv (.ints .u8 l_2 false)))], [], []), obs [
    (decide ((((p).length : Int) : Int) = 0)) = false,
    (decide ((0 : Int) ≤ 0) && decide ((0 : Int) < ((p).length : Int))) = true,
    (decide ((0 : Int) ≤ 1) && decide ((1 : Int) ≤ ((p).length : Int)) && decide ((((p).length : Int) : Int) ≤ ((p).length : Int)) && decide ((((p).length : Int) : Int) = ((p).length : Int))) = true,
    (decide ((most : Int) = 0)) = false,
    true = true,
    (decide (((irem .u8 (p.getD 0 0) 4) : Int) < 2)) = false,
    Runs Try.prog 33 [(.one (.pv (.ints .u8 (List.take (((p).length : Int) - 1).toNat (List.drop 1 p)) false))), (.one (.pv (.int .i64 (isub .i64 most 1))))] [] [] ([(.one (.pv (T_kinfolkref01_ID.pv t))), (.one (.pv (.ints .u8 l_ false)))], [], []),
    Runs Try.prog 33 [(.one (.pv (.ints .u8 l_ false))), (.one (.pv (.int .i64 (isub .i64 most 1))))] [] [] ([(.one (.pv (T_kinfolkref01_ID.pv t2))), (.one (.pv (.ints .u8 l_2 false)))], [], []),
    Runs Try.prog 65 [(.one (.pv (T_kinfolkref01_ID.pv t))), (.one (.pv (T_kinfolkref01_ID.pv t2)))] [] [] ([(.one (.pv (T_kinfolkref01_ID.pv t3)))], [], [])]) := by kernel_rfl
noncomputable def kinfolkref01_Make_b (rec_kinfolkref01_Make : List Int → Int → Option (T_kinfolkref01_ID × List Int)) (p : List Int) (most : Int) : Option (T_kinfolkref01_ID × List Int) :=
  bif (decide ((((p).length : Int) : Int) = 0)) then
    (kinfolkref01_Zero).bind fun t =>
    some (t, [])
  else
    bif decide ((0 : Int) ≤ 0) && decide ((0 : Int) < ((p).length : Int)) then
    bif decide ((0 : Int) ≤ 1) && decide ((1 : Int) ≤ ((p).length : Int)) && decide ((((p).length : Int) : Int) ≤ ((p).length : Int)) && decide ((((p).length : Int) : Int) = ((p).length : Int)) then
    bif (decide ((most : Int) = 0)) then
      some ((T_kinfolkref01_ID.mk (IntKind.i64.wrap (irem .u8 (p.getD 0 0) 2)) T_kinfolkref01_ID.nil T_kinfolkref01_ID.nil), (List.take (((p).length : Int) - 1).toNat (List.drop 1 p)))
    else
      bif (decide (((irem .u8 (p.getD 0 0) 4) : Int) < 2)) then
        some ((T_kinfolkref01_ID.mk (IntKind.i64.wrap (irem .u8 (p.getD 0 0) 2)) T_kinfolkref01_ID.nil T_kinfolkref01_ID.nil), (List.take (((p).length : Int) - 1).toNat (List.drop 1 p)))
      else
        (rec_kinfolkref01_Make (List.take (((p).length : Int) - 1).toNat (List.drop 1 p)) (isub .i64 most 1)).bind fun (t, l_) =>
        (rec_kinfolkref01_Make l_ (isub .i64 most 1)).bind fun (t2, l_2) =>
        (kinfolkref01_Pair t t2).bind fun t3 =>
        some (t3, l_2)
    else none
    else none
theorem kinfolkref01_Make_b_runs (rec_kinfolkref01_Make : List Int → Int → Option (T_kinfolkref01_ID × List Int)) (hrec_kinfolkref01_Make : ∀ p most r_, rec_kinfolkref01_Make p most = some r_ → Runs Try.prog 33 [(.one (.pv (.ints .u8 p false))), (.one (.pv (.int .i64 most)))] [] [] (kinfolkref01_Make_out p most r_)) (p : List Int) (most : Int) (r_ : T_kinfolkref01_ID × List Int) (h : kinfolkref01_Make_b rec_kinfolkref01_Make p most = some r_) : Runs Try.prog 33 [(.one (.pv (.ints .u8 p false))), (.one (.pv (.int .i64 most)))] [] [] (kinfolkref01_Make_out p most r_) := by
  unfold kinfolkref01_Make_b at h
  rcases cond_of h with ⟨h1, h⟩ | ⟨h1, h⟩
  · obtain ⟨t, h2, h⟩ := bind_of h
    have h := some_of h
    subst h
    have e_ := kinfolkref01_Make_p0 p most t
    have e_ := runs_of (objs := []) (Says.of e_ ⟨h1, (kinfolkref01_Zero_runs _ h2), trivial⟩)
    exact e_.out ⟨.eq rfl, .pv (.nilsI), trivial⟩ trivial trivial rfl
  · obtain ⟨h2, h⟩ := need_of h
    obtain ⟨h3, h⟩ := need_of h
    rcases cond_of h with ⟨h4, h⟩ | ⟨h4, h⟩
    · have h := some_of h
      subst h
      have e_ := kinfolkref01_Make_p1 p most
      have e_ := runs_of (objs := []) (Says.of e_ ⟨h1, h2, h3, h4, rfl, rfl, trivial⟩)
      exact e_.out ⟨.eq rfl, .eq rfl, trivial⟩ trivial trivial rfl
    · rcases cond_of h with ⟨h5, h⟩ | ⟨h5, h⟩
      · have h := some_of h
        subst h
        have e_ := kinfolkref01_Make_p2 p most
        have e_ := runs_of (objs := []) (Says.of e_ ⟨h1, h2, h3, h4, rfl, h5, rfl, trivial⟩)
        exact e_.out ⟨.eq rfl, .eq rfl, trivial⟩ trivial trivial rfl
      · obtain ⟨⟨t, l_⟩, h6, h⟩ := bind_of h
        obtain ⟨⟨t2, l_2⟩, h7, h⟩ := bind_of h
        obtain ⟨t3, h8, h⟩ := bind_of h
        have h := some_of h
        subst h
        have e_ := kinfolkref01_Make_p3 p most t l_ t2 l_2 t3
        have e_ := runs_of (objs := []) (Says.of e_ ⟨h1, h2, h3, h4, rfl, h5, (hrec_kinfolkref01_Make (List.take (((p).length : Int) - 1).toNat (List.drop 1 p)) (isub .i64 most 1) _ h6), (hrec_kinfolkref01_Make l_ (isub .i64 most 1) _ h7), (kinfolkref01_Pair_runs t t2 _ h8), trivial⟩)
        exact e_
noncomputable def kinfolkref01_Make : Nat → List Int → Int → Option (T_kinfolkref01_ID × List Int)
  | 0, _, _ => none
  | N + 1, p, most => kinfolkref01_Make_b (kinfolkref01_Make N) p most
theorem kinfolkref01_Make_runs : ∀ (N : Nat) (p : List Int) (most : Int) (r_ : T_kinfolkref01_ID × List Int), kinfolkref01_Make N p most = some r_ → Runs Try.prog 33 [(.one (.pv (.ints .u8 p false))), (.one (.pv (.int .i64 most)))] [] [] (kinfolkref01_Make_out p most r_)
  | 0, _, _, _, h => by cases h
  | N + 1, p, most, r_, h => kinfolkref01_Make_b_runs (kinfolkref01_Make N) (kinfolkref01_Make_runs N) p most r_ h
/-! ### kinfolkref02_Make_out -/
def kinfolkref02_Make_out (p : List Int) (most : Int) : T_kinfolkref02_Event × List Int → Res
  | (r1, r2) => ([(.one (.pv (T_kinfolkref02_Event.pv r1))), (.one (.pv (.ints .u8 r2 false)))], [], [])
/-! ### kinfolkref02_Leaf_out -/
def kinfolkref02_Leaf_out (n : Int) : T_kinfolkref02_Event → Res
  | r1 => ([(.one (.pv (T_kinfolkref02_Event.pv r1)))], [], [])
/-! ### kinfolkref02_Leaf -/
theorem kinfolkref02_Leaf_p0 (n : Int) : evFn Try.prog cfg (Runs Try.prog) (LRuns Try.prog (lEnv Try.prog cfg 66 0).nt 0) 66 [(.one (.pv (.int .u64 n)))] [] []
    [] =
  some (([(.one (.pv (.imm [(.int .u64 n), .nilp, .nilp] 0)))], [], []), obs [
    ]) := by kernel_rfl
noncomputable def kinfolkref02_Leaf (n : Int) : Option (T_kinfolkref02_Event) :=
  some (T_kinfolkref02_Event.mk n T_kinfolkref02_Event.nil T_kinfolkref02_Event.nil)
theorem kinfolkref02_Leaf_runs (n : Int) (r_ : T_kinfolkref02_Event) (h : kinfolkref02_Leaf n = some r_) : Runs Try.prog 66 [(.one (.pv (.int .u64 n)))] [] [] (kinfolkref02_Leaf_out n r_) := by
  unfold kinfolkref02_Leaf at h
  have h := some_of h
  subst h
  have e_ := kinfolkref02_Leaf_p0 n
  have e_ := runs_of (objs := []) (Says.of e_ trivial)
  exact e_.out ⟨.eq rfl, trivial⟩ trivial trivial rfl
/-! ### kinfolkref02_Node_out -/
def kinfolkref02_Node_out (n : Int) (l : T_kinfolkref02_Event) (r : T_kinfolkref02_Event) : T_kinfolkref02_Event → Res
  | r1 => ([(.one (.pv (T_kinfolkref02_Event.pv r1)))], [], [])
/-! ### kinfolkref02_Min_out -/
def kinfolkref02_Min_out (e : T_kinfolkref02_Event) : Int → Res
  | r1 => ([(.one (.pv (.int .u64 r1)))], [], [])
/-! ### kinfolkref02_Min -/
theorem kinfolkref02_Min_p1 (n : Int) (t2 : T_kinfolkref02_Event) : evFn Try.prog cfg (Runs Try.prog) (LRuns Try.prog (lEnv Try.prog cfg 80 0).nt 0) 80 [(.one (.pv (T_kinfolkref02_Event.pv (T_kinfolkref02_Event.mk n T_kinfolkref02_Event.nil t2))))] [] []
    [.br true] =
  some (([(.one (.pv (.int .u64 n)))], [], []), obs [
    true = true]) := by kernel_rfl
theorem kinfolkref02_Min_p2 (n : Int) (t2 : T_kinfolkref02_Event) (n2 : Int) (t3 : T_kinfolkref02_Event) (t4 : T_kinfolkref02_Event) (n3 : Int) (n4 : Int) : evFn Try.prog cfg (Runs Try.prog) (LRuns Try.prog (lEnv Try.prog cfg 80 0).nt 0) 80 [(.one (.pv (T_kinfolkref02_Event.pv (T_kinfolkref02_Event.mk n (T_kinfolkref02_Event.mk n2 t3 t4) t2))))] [] []
    [.br false, .res ([(.one (.pv (.int .u64 n3)))], [], []), .res ([(.one (.pv (.int .u64 n4)))], [], []), .br true] =
  some (([(.one (.pv (.int .u64 (iadd .u64 n n3))))], [], []), obs [
    false = false,
    Runs Try.prog 80 [(.one (.pv (T_kinfolkref02_Event.pv (T_kinfolkref02_Event.mk n2 t3 t4))))] [] [] ([(.one (.pv (.int .u64 n3)))], [], []),
    Runs Try.prog 80 [(.one (.pv (T_kinfolkref02_Event.pv t2)))] [] [] ([(.one (.pv (.int .u64 n4)))], [], []),
    (decide ((n3 : Int) < n4)) = true]) := by kernel_rfl
theorem kinfolkref02_Min_p3 (n : Int) (t2 : T_kinfolkref02_Event) (n2 : Int) (t3 : T_kinfolkref02_Event) (t4 : T_kinfolkref02_Event) (n3 : Int) (n4 : Int) : evFn Try.prog cfg (Runs Try.prog) (LRuns Try.prog (lEnv Try.prog cfg 80 0).nt 0) 80 [(.one (.pv (T_kinfolkref02_Event.pv (T_kinfolkref02_Event.mk n (T_kinfolkref02_Event.mk n2 t3 t4) t2))))] [] []
    [.br false, .res ([(.one (.pv (.int .u64 n3)))], [], []), .res ([(.one (.pv (.int .u64 n4)))], [], []), .br false] =
  some (([(.one (.pv (.int .u64 (iadd .u64 n n4))))], [], []), obs [
    false = false,
    Runs Try.prog 80 [(.one (.pv (T_kinfolkref02_Event.pv (T_kinfolkref02_Event.mk n2 t3 t4))))] [] [] ([(.one (.pv (.int .u64 n3)))], [], []),
    Runs Try.prog 80 [(.one (.pv (T_kinfolkref02_Event.pv t2)))] [] [] ([(.one (.pv (.int .u64 n4)))], [], []),
    (decide ((n3 : Int) < n4)) = false]) := by kernel_rfl
noncomputable def kinfolkref02_Min_b (rec_kinfolkref02_Min : T_kinfolkref02_Event → Option (Int)) (e : T_kinfolkref02_Event) : Option (Int) :=
  match e with
  | .nil =>
    none
  | .mk n t t2 =>
    match t with
    | .nil =>
      some n
    | .mk n2 t3 t4 =>
      (rec_kinfolkref02_Min t).bind fun n3 =>
      (rec_kinfolkref02_Min t2).bind fun n4 =>
      bif (decide ((n3 : Int) < n4)) then
        some (iadd .u64 n n3)
      else
        some (iadd .u64 n n4)
theorem kinfolkref02_Min_b_runs (rec_kinfolkref02_Min : T_kinfolkref02_Event → Option (Int)) (hrec_kinfolkref02_Min : ∀ e r_, rec_kinfolkref02_Min e = some r_ → Runs Try.prog 80 [(.one (.pv (T_kinfolkref02_Event.pv e)))] [] [] (kinfolkref02_Min_out e r_)) (e : T_kinfolkref02_Event) (r_ : Int) (h : kinfolkref02_Min_b rec_kinfolkref02_Min e = some r_) : Runs Try.prog 80 [(.one (.pv (T_kinfolkref02_Event.pv e)))] [] [] (kinfolkref02_Min_out e r_) := by
  unfold kinfolkref02_Min_b at h
  cases e with
  | nil =>
    cases h
  | mk n t t2 =>
    cases t with
    | nil =>
      have h := some_of h
      subst h
      have e_ := kinfolkref02_Min_p1 n t2
      have e_ := runs_of (objs := []) (Says.of e_ ⟨rfl, trivial⟩)
      exact e_
    | mk n2 t3 t4 =>
      obtain ⟨n3, h1, h⟩ := bind_of h
      obtain ⟨n4, h2, h⟩ := bind_of h
      rcases cond_of h with ⟨h3, h⟩ | ⟨h3, h⟩
      · have h := some_of h
        subst h
        have e_ := kinfolkref02_Min_p2 n t2 n2 t3 t4 n3 n4
        have e_ := runs_of (objs := []) (Says.of e_ ⟨rfl, (hrec_kinfolkref02_Min (T_kinfolkref02_Event.mk n2 t3 t4) _ h1), (hrec_kinfolkref02_Min t2 _ h2), h3, trivial⟩)
        exact e_
      · have h := some_of h
        subst h
        have e_ := kinfolkref02_Min_p3 n t2 n2 t3 t4 n3 n4
        have e_ := runs_of (objs := []) (Says.of e_ ⟨rfl, (hrec_kinfolkref02_Min (T_kinfolkref02_Event.mk n2 t3 t4) _ h1), (hrec_kinfolkref02_Min t2 _ h2), h3, trivial⟩)
        exact e_
noncomputable def kinfolkref02_Min : Nat → T_kinfolkref02_Event → Option (Int)
  | 0, _ => none
  | N + 1, e => kinfolkref02_Min_b (kinfolkref02_Min N) e
theorem kinfolkref02_Min_runs : ∀ (N : Nat) (e : T_kinfolkref02_Event) (r_ : Int), kinfolkref02_Min N e = some r_ → Runs Try.prog 80 [(.one (.pv (T_kinfolkref02_Event.pv e)))] [] [] (kinfolkref02_Min_out e r_)
  | 0, _, _, h => by cases h
  | N + 1, e, r_, h => kinfolkref02_Min_b_runs (kinfolkref02_Min N) (kinfolkref02_Min_runs N) e r_ h
/-! ### kinfolkref02_Node -/
theorem kinfolkref02_Node_p2 (n : Int) (n2 : Int) (t2 : T_kinfolkref02_Event) (n3 : Int) (t4 : T_kinfolkref02_Event) (t5 : T_kinfolkref02_Event) : evFn Try.prog cfg (Runs Try.prog) (LRuns Try.prog (lEnv Try.prog cfg 67 0).nt 0) 67 [(.one (.pv (.int .u64 n))), (.one (.pv (T_kinfolkref02_Event.pv (T_kinfolkref02_Event.mk n2 T_kinfolkref02_Event.nil t2)))), (.one (.pv (T_kinfolkref02_Event.pv (T_kinfolkref02_Event.mk n3 T_kinfolkref02_Event.nil t4))))] [] []
    [.br true, .br true, .br true, .res ([(.one (.pv (T_kinfolkref02_Event.pv t5)))], [], [])] =
  some (([(.one (.pv (T_kinfolkref02_Event.pv t5)))], [], []), obs [
    true = true,
    true = true,
    (decide ((n2 : Int) = n3)) = true,
    Runs Try.prog 66 [(.one (.pv (.int .u64 (iadd .u64 n n2))))] [] [] ([(.one (.pv (T_kinfolkref02_Event.pv t5)))], [], [])]) := by kernel_rfl
theorem kinfolkref02_Node_p3 (n : Int) (n2 : Int) (t2 : T_kinfolkref02_Event) (n3 : Int) (t4 : T_kinfolkref02_Event) (n4 : Int) (n5 : Int) : both (evFn Try.prog cfg (Runs Try.prog) (LRuns Try.prog (lEnv Try.prog cfg 67 0).nt 0) 67 [(.one (.pv (.int .u64 n))), (.one (.pv (T_kinfolkref02_Event.pv (T_kinfolkref02_Event.mk n2 T_kinfolkref02_Event.nil t2)))), (.one (.pv (T_kinfolkref02_Event.pv (T_kinfolkref02_Event.mk n3 T_kinfolkref02_Event.nil t4))))] [] []
    [.br true, .br true, .br false, .res ([(.one (.pv (.int .u64 n4)))], [], []), .res ([(.one (.pv (.int .u64 n5)))], [], []), .br true, .res ([(.one (.pv (.int .u64 n5)))], [], [])]) (([(.one (.pv (.imm [(.int .u64 (iadd .u64 n n5)), (.imm [(.int .u64 (isub .u64 n2 n5)), (T_kinfolkref02_Event.pv T_kinfolkref02_Event.nil), (T_kinfolkref02_Event.pv t2)] 0), (.imm [(.int .u64 (isub .u64 n3 n5)), (T_kinfolkref02_Event.pv T_kinfolkref02_Event.nil), (T_kinfolkref02_Event.pv t4)] 0)] 0)))], [], [])) [
    true = true,
    true = true,
    (decide ((n2 : Int) = n3)) = false,
    Runs Try.prog 80 [(.one (.pv (T_kinfolkref02_Event.pv (T_kinfolkref02_Event.mk n2 T_kinfolkref02_Event.nil t2))))] [] [] ([(.one (.pv (.int .u64 n4)))], [], []),
    Runs Try.prog 80 [(.one (.pv (T_kinfolkref02_Event.pv (T_kinfolkref02_Event.mk n3 T_kinfolkref02_Event.nil t4))))] [] [] ([(.one (.pv (.int .u64 n5)))], [], []),
    (decide ((n5 : Int) < n4)) = true,
    Runs Try.prog 80 [(.one (.pv (T_kinfolkref02_Event.pv (T_kinfolkref02_Event.mk n3 T_kinfolkref02_Event.nil t4))))] [] [] ([(.one (.pv (.int .u64 n5)))], [], [])] := ⟨by kernel_rfl, by kernel_rfl⟩
theorem kinfolkref02_Node_p4 (n : Int) (n2 : Int) (t2 : T_kinfolkref02_Event) (n3 : Int) (t4 : T_kinfolkref02_Event) (n4 : Int) (n5 : Int) : both (evFn Try.prog cfg (Runs Try.prog) (LRuns Try.prog (lEnv Try.prog cfg 67 0).nt 0) 67 [(.one (.pv (.int .u64 n))), (.one (.pv (T_kinfolkref02_Event.pv (T_kinfolkref02_Event.mk n2 T_kinfolkref02_Event.nil t2)))), (.one (.pv (T_kinfolkref02_Event.pv (T_kinfolkref02_Event.mk n3 T_kinfolkref02_Event.nil t4))))] [] []
    [.br true, .br true, .br false, .res ([(.one (.pv (.int .u64 n4)))], [], []), .res ([(.one (.pv (.int .u64 n5)))], [], []), .br false]) (([(.one (.pv (.imm [(.int .u64 (iadd .u64 n n4)), (.imm [(.int .u64 (isub .u64 n2 n4)), (T_kinfolkref02_Event.pv T_kinfolkref02_Event.nil), (T_kinfolkref02_Event.pv t2)] 0), (.imm [(.int .u64 (isub .u64 n3 n4)), (T_kinfolkref02_Event.pv T_kinfolkref02_Event.nil), (T_kinfolkref02_Event.pv t4)] 0)] 0)))], [], [])) [
    true = true,
    true = true,
    (decide ((n2 : Int) = n3)) = false,
    Runs Try.prog 80 [(.one (.pv (T_kinfolkref02_Event.pv (T_kinfolkref02_Event.mk n2 T_kinfolkref02_Event.nil t2))))] [] [] ([(.one (.pv (.int .u64 n4)))], [], []),
    Runs Try.prog 80 [(.one (.pv (T_kinfolkref02_Event.pv (T_kinfolkref02_Event.mk n3 T_kinfolkref02_Event.nil t4))))] [] [] ([(.one (.pv (.int .u64 n5)))], [], []),
    (decide ((n5 : Int) < n4)) = false] := ⟨by kernel_rfl, by kernel_rfl⟩
theorem kinfolkref02_Node_p5 (n : Int) (n2 : Int) (t2 : T_kinfolkref02_Event) (n3 : Int) (t4 : T_kinfolkref02_Event) (n4 : Int) (t5 : T_kinfolkref02_Event) (t6 : T_kinfolkref02_Event) (n5 : Int) (n6 : Int) : both (evFn Try.prog cfg (Runs Try.prog) (LRuns Try.prog (lEnv Try.prog cfg 67 0).nt 0) 67 [(.one (.pv (.int .u64 n))), (.one (.pv (T_kinfolkref02_Event.pv (T_kinfolkref02_Event.mk n2 T_kinfolkref02_Event.nil t2)))), (.one (.pv (T_kinfolkref02_Event.pv (T_kinfolkref02_Event.mk n3 (T_kinfolkref02_Event.mk n4 t5 t6) t4))))] [] []
    [.br true, .br false, .br false, .res ([(.one (.pv (.int .u64 n5)))], [], []), .res ([(.one (.pv (.int .u64 n6)))], [], []), .br true, .res ([(.one (.pv (.int .u64 n6)))], [], [])]) (([(.one (.pv (.imm [(.int .u64 (iadd .u64 n n6)), (.imm [(.int .u64 (isub .u64 n2 n6)), (T_kinfolkref02_Event.pv T_kinfolkref02_Event.nil), (T_kinfolkref02_Event.pv t2)] 0), (.imm [(.int .u64 (isub .u64 n3 n6)), (T_kinfolkref02_Event.pv (T_kinfolkref02_Event.mk n4 t5 t6)), (T_kinfolkref02_Event.pv t4)] 0)] 0)))], [], [])) [
    true = true,
    false = false,
    false = false,
    Runs Try.prog 80 [(.one (.pv (T_kinfolkref02_Event.pv (T_kinfolkref02_Event.mk n2 T_kinfolkref02_Event.nil t2))))] [] [] ([(.one (.pv (.int .u64 n5)))], [], []),
    Runs Try.prog 80 [(.one (.pv (T_kinfolkref02_Event.pv (T_kinfolkref02_Event.mk n3 (T_kinfolkref02_Event.mk n4 t5 t6) t4))))] [] [] ([(.one (.pv (.int .u64 n6)))], [], []),
    (decide ((n6 : Int) < n5)) = true,
    Runs Try.prog 80 [(.one (.pv (T_kinfolkref02_Event.pv (T_kinfolkref02_Event.mk n3 (T_kinfolkref02_Event.mk n4 t5 t6) t4))))] [] [] ([(.one (.pv (.int .u64 n6)))], [], [])] := ⟨by kernel_rfl, by kernel_rfl⟩
theorem kinfolkref02_Node_p6 (n : Int) (n2 : Int) (t2 : T_kinfolkref02_Event) (n3 : Int) (t4 : T_kinfolkref02_Event) (n4 : Int) (t5 : T_kinfolkref02_Event) (t6 : T_kinfolkref02_Event) (n5 : Int) (n6 : Int) : both (evFn Try.prog cfg (Runs Try.prog) (LRuns Try.prog (lEnv Try.prog cfg 67 0).nt 0) 67 [(.one (.pv (.int .u64 n))), (.one (.pv (T_kinfolkref02_Event.pv (T_kinfolkref02_Event.mk n2 T_kinfolkref02_Event.nil t2)))), (.one (.pv (T_kinfolkref02_Event.pv (T_kinfolkref02_Event.mk n3 (T_kinfolkref02_Event.mk n4 t5 t6) t4))))] [] []
    [.br true, .br false, .br false, .res ([(.one (.pv (.int .u64 n5)))], [], []), .res ([(.one (.pv (.int .u64 n6)))], [], []), .br false]) (([(.one (.pv (.imm [(.int .u64 (iadd .u64 n n5)), (.imm [(.int .u64 (isub .u64 n2 n5)), (T_kinfolkref02_Event.pv T_kinfolkref02_Event.nil), (T_kinfolkref02_Event.pv t2)] 0), (.imm [(.int .u64 (isub .u64 n3 n5)), (T_kinfolkref02_Event.pv (T_kinfolkref02_Event.mk n4 t5 t6)), (T_kinfolkref02_Event.pv t4)] 0)] 0)))], [], [])) [
    true = true,
    false = false,
    false = false,
    Runs Try.prog 80 [(.one (.pv (T_kinfolkref02_Event.pv (T_kinfolkref02_Event.mk n2 T_kinfolkref02_Event.nil t2))))] [] [] ([(.one (.pv (.int .u64 n5)))], [], []),
    Runs Try.prog 80 [(.one (.pv (T_kinfolkref02_Event.pv (T_kinfolkref02_Event.mk n3 (T_kinfolkref02_Event.mk n4 t5 t6) t4))))] [] [] ([(.one (.pv (.int .u64 n6)))], [], []),
    (decide ((n6 : Int) < n5)) = false] := ⟨by kernel_rfl, by kernel_rfl⟩
theorem kinfolkref02_Node_p8 (n : Int) (n2 : Int) (t2 : T_kinfolkref02_Event) (n3 : Int) (t3 : T_kinfolkref02_Event) (t4 : T_kinfolkref02_Event) (n4 : Int) (n5 : Int) (n6 : Int) (t5 : T_kinfolkref02_Event) (t6 : T_kinfolkref02_Event) : both (evFn Try.prog cfg (Runs Try.prog) (LRuns Try.prog (lEnv Try.prog cfg 67 0).nt 0) 67 [(.one (.pv (.int .u64 n))), (.one (.pv (T_kinfolkref02_Event.pv (T_kinfolkref02_Event.mk n2 (T_kinfolkref02_Event.mk n3 t3 t4) t2)))), (.one (.pv (T_kinfolkref02_Event.pv (T_kinfolkref02_Event.mk n6 t5 t6))))] [] []
    [.br false, .br false, .br false, .res ([(.one (.pv (.int .u64 n4)))], [], []), .res ([(.one (.pv (.int .u64 n5)))], [], []), .br true, .res ([(.one (.pv (.int .u64 n5)))], [], [])]) (([(.one (.pv (.imm [(.int .u64 (iadd .u64 n n5)), (.imm [(.int .u64 (isub .u64 n2 n5)), (T_kinfolkref02_Event.pv (T_kinfolkref02_Event.mk n3 t3 t4)), (T_kinfolkref02_Event.pv t2)] 0), (.imm [(.int .u64 (isub .u64 n6 n5)), (T_kinfolkref02_Event.pv t5), (T_kinfolkref02_Event.pv t6)] 0)] 0)))], [], [])) [
    false = false,
    false = false,
    false = false,
    Runs Try.prog 80 [(.one (.pv (T_kinfolkref02_Event.pv (T_kinfolkref02_Event.mk n2 (T_kinfolkref02_Event.mk n3 t3 t4) t2))))] [] [] ([(.one (.pv (.int .u64 n4)))], [], []),
    Runs Try.prog 80 [(.one (.pv (T_kinfolkref02_Event.pv (T_kinfolkref02_Event.mk n6 t5 t6))))] [] [] ([(.one (.pv (.int .u64 n5)))], [], []),
    (decide ((n5 : Int) < n4)) = true,
    Runs Try.prog 80 [(.one (.pv (T_kinfolkref02_Event.pv (T_kinfolkref02_Event.mk n6 t5 t6))))] [] [] ([(.one (.pv (.int .u64 n5)))], [], [])] := ⟨by kernel_rfl, by kernel_rfl⟩
theorem kinfolkref02_Node_p10 (n : Int) (n2 : Int) (t2 : T_kinfolkref02_Event) (n3 : Int) (t3 : T_kinfolkref02_Event) (t4 : T_kinfolkref02_Event) (n4 : Int) (n5 : Int) (n6 : Int) (t5 : T_kinfolkref02_Event) (t6 : T_kinfolkref02_Event) : both (evFn Try.prog cfg (Runs Try.prog) (LRuns Try.prog (lEnv Try.prog cfg 67 0).nt 0) 67 [(.one (.pv (.int .u64 n))), (.one (.pv (T_kinfolkref02_Event.pv (T_kinfolkref02_Event.mk n2 (T_kinfolkref02_Event.mk n3 t3 t4) t2)))), (.one (.pv (T_kinfolkref02_Event.pv (T_kinfolkref02_Event.mk n6 t5 t6))))] [] []
    [.br false, .br false, .br false, .res ([(.one (.pv (.int .u64 n4)))], [], []), .res ([(.one (.pv (.int .u64 n5)))], [], []), .br false]) (([(.one (.pv (.imm [(.int .u64 (iadd .u64 n n4)), (.imm [(.int .u64 (isub .u64 n2 n4)), (T_kinfolkref02_Event.pv (T_kinfolkref02_Event.mk n3 t3 t4)), (T_kinfolkref02_Event.pv t2)] 0), (.imm [(.int .u64 (isub .u64 n6 n4)), (T_kinfolkref02_Event.pv t5), (T_kinfolkref02_Event.pv t6)] 0)] 0)))], [], [])) [
    false = false,
    false = false,
    false = false,
    Runs Try.prog 80 [(.one (.pv (T_kinfolkref02_Event.pv (T_kinfolkref02_Event.mk n2 (T_kinfolkref02_Event.mk n3 t3 t4) t2))))] [] [] ([(.one (.pv (.int .u64 n4)))], [], []),
    Runs Try.prog 80 [(.one (.pv (T_kinfolkref02_Event.pv (T_kinfolkref02_Event.mk n6 t5 t6))))] [] [] ([(.one (.pv (.int .u64 n5)))], [], []),
    (decide ((n5 : Int) < n4)) = false] := ⟨by kernel_rfl, by kernel_rfl⟩
noncomputable def kinfolkref02_Node (N : Nat) (n : Int) (l : T_kinfolkref02_Event) (r : T_kinfolkref02_Event) : Option (T_kinfolkref02_Event) :=
  match l with
  | .nil =>
    none
  | .mk n2 t t2 =>
    match t with
    | .nil =>
      match r with
      | .nil =>
        none
      | .mk n3 t3 t4 =>
        match t3 with
        | .nil =>
          bif (decide ((n2 : Int) = n3)) then
            (kinfolkref02_Leaf (iadd .u64 n n2)).bind fun t5 =>
            some t5
          else
            (kinfolkref02_Min N l).bind fun n4 =>
            (kinfolkref02_Min N r).bind fun n5 =>
            bif (decide ((n5 : Int) < n4)) then
              some (T_kinfolkref02_Event.mk (iadd .u64 n n5) (T_kinfolkref02_Event.mk (isub .u64 n2 n5) t t2) (T_kinfolkref02_Event.mk (isub .u64 n3 n5) t3 t4))
            else
              some (T_kinfolkref02_Event.mk (iadd .u64 n n4) (T_kinfolkref02_Event.mk (isub .u64 n2 n4) t t2) (T_kinfolkref02_Event.mk (isub .u64 n3 n4) t3 t4))
        | .mk n4 t5 t6 =>
          (kinfolkref02_Min N l).bind fun n5 =>
          (kinfolkref02_Min N r).bind fun n6 =>
          bif (decide ((n6 : Int) < n5)) then
            some (T_kinfolkref02_Event.mk (iadd .u64 n n6) (T_kinfolkref02_Event.mk (isub .u64 n2 n6) t t2) (T_kinfolkref02_Event.mk (isub .u64 n3 n6) t3 t4))
          else
            some (T_kinfolkref02_Event.mk (iadd .u64 n n5) (T_kinfolkref02_Event.mk (isub .u64 n2 n5) t t2) (T_kinfolkref02_Event.mk (isub .u64 n3 n5) t3 t4))
    | .mk n3 t3 t4 =>
      (kinfolkref02_Min N l).bind fun n4 =>
      (kinfolkref02_Min N r).bind fun n5 =>
      bif (decide ((n5 : Int) < n4)) then
        match r with
        | .nil =>
          none
        | .mk n6 t5 t6 =>
          some (T_kinfolkref02_Event.mk (iadd .u64 n n5) (T_kinfolkref02_Event.mk (isub .u64 n2 n5) t t2) (T_kinfolkref02_Event.mk (isub .u64 n6 n5) t5 t6))
      else
        match r with
        | .nil =>
          none
        | .mk n6 t5 t6 =>
          some (T_kinfolkref02_Event.mk (iadd .u64 n n4) (T_kinfolkref02_Event.mk (isub .u64 n2 n4) t t2) (T_kinfolkref02_Event.mk (isub .u64 n6 n4) t5 t6))
theorem kinfolkref02_Node_runs (N : Nat) (n : Int) (l : T_kinfolkref02_Event) (r : T_kinfolkref02_Event) (r_ : T_kinfolkref02_Event) (h : kinfolkref02_Node N n l r = some r_) : Runs Try.prog 67 [(.one (.pv (.int .u64 n))), (.one (.pv (T_kinfolkref02_Event.pv l))), (.one (.pv (T_kinfolkref02_Event.pv r)))] [] [] (kinfolkref02_Node_out n l r r_) := by
  unfold kinfolkref02_Node at h
  cases l with
  | nil =>
    cases h
  | mk n2 t t2 =>
    cases t with
    | nil =>
      cases r with
      | nil =>
        cases h
      | mk n3 t3 t4 =>
        cases t3 with
        | nil =>
          rcases cond_of h with ⟨h1, h⟩ | ⟨h1, h⟩
          · obtain ⟨t5, h2, h⟩ := bind_of h
            have h := some_of h
            subst h
            have e_ := kinfolkref02_Node_p2 n n2 t2 n3 t4 t5
            have e_ := runs_of (objs := []) (Says.of e_ ⟨rfl, rfl, h1, (kinfolkref02_Leaf_runs (iadd .u64 n n2) _ h2), trivial⟩)
            exact e_
          · obtain ⟨n4, h2, h⟩ := bind_of h
            obtain ⟨n5, h3, h⟩ := bind_of h
            rcases cond_of h with ⟨h4, h⟩ | ⟨h4, h⟩
            · have h := some_of h
              subst h
              have e_ := kinfolkref02_Node_p3 n n2 t2 n3 t4 n4 n5
              have e_ := runs_of (objs := []) (Says.of2 e_ ⟨rfl, rfl, h1, (kinfolkref02_Min_runs N (T_kinfolkref02_Event.mk n2 T_kinfolkref02_Event.nil t2) _ h2), (kinfolkref02_Min_runs N (T_kinfolkref02_Event.mk n3 T_kinfolkref02_Event.nil t4) _ h3), h4, (kinfolkref02_Min_runs N (T_kinfolkref02_Event.mk n3 T_kinfolkref02_Event.nil t4) _ h3), trivial⟩)
              exact e_.out ⟨.eq rfl, trivial⟩ trivial trivial rfl
            · have h := some_of h
              subst h
              have e_ := kinfolkref02_Node_p4 n n2 t2 n3 t4 n4 n5
              have e_ := runs_of (objs := []) (Says.of2 e_ ⟨rfl, rfl, h1, (kinfolkref02_Min_runs N (T_kinfolkref02_Event.mk n2 T_kinfolkref02_Event.nil t2) _ h2), (kinfolkref02_Min_runs N (T_kinfolkref02_Event.mk n3 T_kinfolkref02_Event.nil t4) _ h3), h4, trivial⟩)
              exact e_.out ⟨.eq rfl, trivial⟩ trivial trivial rfl
        | mk n4 t5 t6 =>
          obtain ⟨n5, h1, h⟩ := bind_of h
          obtain ⟨n6, h2, h⟩ := bind_of h
          rcases cond_of h with ⟨h3, h⟩ | ⟨h3, h⟩
          · have h := some_of h
            subst h
            have e_ := kinfolkref02_Node_p5 n n2 t2 n3 t4 n4 t5 t6 n5 n6
            have e_ := runs_of (objs := []) (Says.of2 e_ ⟨rfl, rfl, rfl, (kinfolkref02_Min_runs N (T_kinfolkref02_Event.mk n2 T_kinfolkref02_Event.nil t2) _ h1), (kinfolkref02_Min_runs N (T_kinfolkref02_Event.mk n3 (T_kinfolkref02_Event.mk n4 t5 t6) t4) _ h2), h3, (kinfolkref02_Min_runs N (T_kinfolkref02_Event.mk n3 (T_kinfolkref02_Event.mk n4 t5 t6) t4) _ h2), trivial⟩)
            exact e_.out ⟨.eq rfl, trivial⟩ trivial trivial rfl
          · have h := some_of h
            subst h
            have e_ := kinfolkref02_Node_p6 n n2 t2 n3 t4 n4 t5 t6 n5 n6
            have e_ := runs_of (objs := []) (Says.of2 e_ ⟨rfl, rfl, rfl, (kinfolkref02_Min_runs N (T_kinfolkref02_Event.mk n2 T_kinfolkref02_Event.nil t2) _ h1), (kinfolkref02_Min_runs N (T_kinfolkref02_Event.mk n3 (T_kinfolkref02_Event.mk n4 t5 t6) t4) _ h2), h3, trivial⟩)
            exact e_.out ⟨.eq rfl, trivial⟩ trivial trivial rfl
    | mk n3 t3 t4 =>
      obtain ⟨n4, h1, h⟩ := bind_of h
      obtain ⟨n5, h2, h⟩ := bind_of h
      rcases cond_of h with ⟨h3, h⟩ | ⟨h3, h⟩
      · cases r with
        | nil =>
          cases h
        | mk n6 t5 t6 =>
          have h := some_of h
          subst h
          have e_ := kinfolkref02_Node_p8 n n2 t2 n3 t3 t4 n4 n5 n6 t5 t6
          have e_ := runs_of (objs := []) (Says.of2 e_ ⟨rfl, rfl, rfl, (kinfolkref02_Min_runs N (T_kinfolkref02_Event.mk n2 (T_kinfolkref02_Event.mk n3 t3 t4) t2) _ h1), (kinfolkref02_Min_runs N (T_kinfolkref02_Event.mk n6 t5 t6) _ h2), h3, (kinfolkref02_Min_runs N (T_kinfolkref02_Event.mk n6 t5 t6) _ h2), trivial⟩)
          exact e_.out ⟨.eq rfl, trivial⟩ trivial trivial rfl
      · cases r with
        | nil =>
          cases h
        | mk n6 t5 t6 =>
          have h := some_of h
          subst h
          have e_ := kinfolkref02_Node_p10 n n2 t2 n3 t3 t4 n4 n5 n6 t5 t6
          have e_ := runs_of (objs := []) (Says.of2 e_ ⟨rfl, rfl, rfl, (kinfolkref02_Min_runs N (T_kinfolkref02_Event.mk n2 (T_kinfolkref02_Event.mk n3 t3 t4) t2) _ h1), (kinfolkref02_Min_runs N (T_kinfolkref02_Event.mk n6 t5 t6) _ h2), h3, trivial⟩)
          exact e_.out ⟨.eq rfl, trivial⟩ trivial trivial rfl
/-! ### kinfolkref02_Make -/
theorem kinfolkref02_Make_p0 (p : List Int) (most : Int) (t : T_kinfolkref02_Event) : evFn Try.prog cfg (Runs Try.prog) (LRuns Try.prog (lEnv Try.prog cfg 34 0).nt 0) 34 [(.one (.pv (.ints .u8 p false))), (.one (.pv (.int .i64 most)))] [] []
    [.br true, .res ([(.one (.pv (T_kinfolkref02_Event.pv t)))], [], [])] =
  some (([(.one (.pv (T_kinfolkref02_Event.pv t))), (.one (.pv .nils))], [], []), obs [
    (decide ((((p).length : Int) : Int) = 0)) = true,
    Runs Try.prog 66 [(.one (.pv (.int .u64 0)))] [] [] ([(.one (.pv (T_kinfolkref02_Event.pv t)))], [], [])]) := by kernel_rfl
theorem kinfolkref02_Make_p1 (p : List Int) (most : Int) (t : T_kinfolkref02_Event) : evFn Try.prog cfg (Runs Try.prog) (LRuns Try.prog (lEnv Try.prog cfg 34 0).nt 0) 34 [(.one (.pv (.ints .u8 p false))), (.one (.pv (.int .i64 most)))] [] []
    [.br false, .br true, .br true, .res ([(.one (.pv (T_kinfolkref02_Event.pv t)))], [], [])] =
  some (([(.one (.pv (T_kinfolkref02_Event.pv t))), (.one (.pv (.ints .u8 (List.take (((p).length : Int) - 1).toNat (List.drop 1 p)) false)))], [], []), obs [
    (decide ((((p).length : Int) : Int) = 0)) = false,
    (decide ((0 : Int) ≤ 0) && decide ((0 : Int) < ((p).length : Int))) = true,
    (decide ((0 : Int) ≤ 1) && decide ((1 : Int) ≤ ((p).length : Int)) && decide ((((p).length : Int) : Int) ≤ ((p).length : Int)) && decide ((((p).length : Int) : Int) = ((p).length : Int))) = true,
    (decide ((most : Int) = 0)) = true,
    true = true,
    true = true,
    true = true,
    Runs Try.prog 66 [(.one (.pv (.int .u64 (IntKind.u64.wrap (irem .u8 (iquo .u8 (p.getD 0 0) 4) 8)))))] [] [] ([(.one (.pv (T_kinfolkref02_Event.pv t)))], [], [])]) := by kernel_rfl
theorem kinfolkref02_Make_p2 (p : List Int) (most : Int) (t : T_kinfolkref02_Event) : evFn Try.prog cfg (Runs Try.prog) (LRuns Try.prog (lEnv Try.prog cfg 34 0).nt 0) 34 [(.one (.pv (.ints .u8 p false))), (.one (.pv (.int .i64 most)))] [] []
    [.br false, .br false, .br true, .res ([(.one (.pv (T_kinfolkref02_Event.pv t)))], [], [])] =
  some (([(.one (.pv (T_kinfolkref02_Event.pv t))), (.one (.pv (.ints .u8 (List.take (((p).length : Int) - 1).toNat (List.drop 1 p)) false)))], [], []), obs [
    (decide ((((p).length : Int) : Int) = 0)) = false,
    (decide ((0 : Int) ≤ 0) && decide ((0 : Int) < ((p).length : Int))) = true,
    (decide ((0 : Int) ≤ 1) && decide ((1 : Int) ≤ ((p).length : Int)) && decide ((((p).length : Int) : Int) ≤ ((p).length : Int)) && decide ((((p).length : Int) : Int) = ((p).length : Int))) = true,
    (decide ((most : Int) = 0)) = false,
    true = true,
    (decide (((irem .u8 (p.getD 0 0) 4) : Int) < 2)) = true,
    true = true,
    true = true,
    Runs Try.prog 66 [(.one (.pv (.int .u64 (IntKind.u64.wrap (irem .u8 (iquo .u8 (p.getD 0 0) 4) 8)))))] [] [] ([(.one (.pv (T_kinfolkref02_Event.pv t)))], [], [])]) := by kernel_rfl
theorem kinfolkref02_Make_p3 (p : List Int) (most : Int) (t : T_kinfolkref02_Event) (l_ : List Int) (t2 : T_kinfolkref02_Event) (l_2 : List Int) (t3 : T_kinfolkref02_Event) : evFn Try.prog cfg (Runs Try.prog) (LRuns Try.prog (lEnv Try.prog cfg 34 0).nt 0) 34 [(.one (.pv (.ints .u8 p false))), (.one (.pv (.int .i64 most)))] [] []
    [.br false, .br false, .br false, .res ([(.one (.pv (T_kinfolkref02_Event.pv t))), (.one (.pv (.ints .u8 l_ false)))], [], []), .res ([(.one (.pv (T_kinfolkref02_Event.pv t2))), (.one (.pv (.ints .u8 l_2 false)))], [], []), .res ([(.one (.pv (T_kinfolkref02_Event.pv t3)))], [], [])] =
  some (([(.one (.pv (T_kinfolkref02_Event.pv t3))), (.one (.pv (.ints .u8 l_2 false)))], [], []), obs [
    (decide ((((p).length : Int) : Int) = 0)) = false,
    (decide ((0 : Int) ≤ 0) && decide ((0 : Int) < ((p).length : Int))) = true,
    (decide ((0 : Int) ≤ 1) && decide ((1 : Int) ≤ ((p).length : Int)) && decide ((((p).length : Int) : Int) ≤ ((p).length : Int)) && decide ((((p).length : Int) : Int) = ((p).length : Int))) = true,
    (decide ((most : Int) = 0)) = false,
    true = true,
    (decide (((irem .u8 (p.getD 0 0) 4) : Int) < 2)) = false,
    Runs Try.prog 34 [(.one (.pv (.ints .u8 (List.take (((p).length : Int) - 1).toNat (List.drop 1 p)) false))), (.one (.pv (.int .i64 (isub .i64 most 1))))] [] [] ([(.one (.pv (T_kinfolkref02_Event.pv t))), (.one (.pv (.ints .u8 l_ false)))], [], []),
    Runs Try.prog 34 [(.one (.pv (.ints .u8 l_ false))), (.one (.pv (.int .i64 (isub .i64 most 1))))] [] [] ([(.one (.pv (T_kinfolkref02_Event.pv t2))), (.one (.pv (.ints .u8 l_2 false)))], [], []),
    true = true,
    true = true,
    Runs Try.prog 67 [(.one (.pv (.int .u64 (IntKind.u64.wrap (irem .u8 (iquo .u8 (p.getD 0 0) 4) 4))))), (.one (.pv (T_kinfolkref02_Event.pv t))), (.one (.pv (T_kinfolkref02_Event.pv t2)))] [] [] ([(.one (.pv (T_kinfolkref02_Event.pv t3)))], [], [])]) := by kernel_rfl
noncomputable def kinfolkref02_Make_b (N : Nat) (rec_kinfolkref02_Make : List Int → Int → Option (T_kinfolkref02_Event × List Int)) (p : List Int) (most : Int) : Option (T_kinfolkref02_Event × List Int) :=
  bif (decide ((((p).length : Int) : Int) = 0)) then
    (kinfolkref02_Leaf 0).bind fun t =>
    some (t, [])
  else
    bif decide ((0 : Int) ≤ 0) && decide ((0 : Int) < ((p).length : Int)) then
    bif decide ((0 : Int) ≤ 1) && decide ((1 : Int) ≤ ((p).length : Int)) && decide ((((p).length : Int) : Int) ≤ ((p).length : Int)) && decide ((((p).length : Int) : Int) = ((p).length : Int)) then
    bif (decide ((most : Int) = 0)) then
      (kinfolkref02_Leaf (IntKind.u64.wrap (irem .u8 (iquo .u8 (p.getD 0 0) 4) 8))).bind fun t =>
      some (t, (List.take (((p).length : Int) - 1).toNat (List.drop 1 p)))
    else
      bif (decide (((irem .u8 (p.getD 0 0) 4) : Int) < 2)) then
        (kinfolkref02_Leaf (IntKind.u64.wrap (irem .u8 (iquo .u8 (p.getD 0 0) 4) 8))).bind fun t =>
        some (t, (List.take (((p).length : Int) - 1).toNat (List.drop 1 p)))
      else
        (rec_kinfolkref02_Make (List.take (((p).length : Int) - 1).toNat (List.drop 1 p)) (isub .i64 most 1)).bind fun (t, l_) =>
        (rec_kinfolkref02_Make l_ (isub .i64 most 1)).bind fun (t2, l_2) =>
        (kinfolkref02_Node N (IntKind.u64.wrap (irem .u8 (iquo .u8 (p.getD 0 0) 4) 4)) t t2).bind fun t3 =>
        some (t3, l_2)
    else none
    else none
theorem kinfolkref02_Make_b_runs (N : Nat) (rec_kinfolkref02_Make : List Int → Int → Option (T_kinfolkref02_Event × List Int)) (hrec_kinfolkref02_Make : ∀ p most r_, rec_kinfolkref02_Make p most = some r_ → Runs Try.prog 34 [(.one (.pv (.ints .u8 p false))), (.one (.pv (.int .i64 most)))] [] [] (kinfolkref02_Make_out p most r_)) (p : List Int) (most : Int) (r_ : T_kinfolkref02_Event × List Int) (h : kinfolkref02_Make_b N rec_kinfolkref02_Make p most = some r_) : Runs Try.prog 34 [(.one (.pv (.ints .u8 p false))), (.one (.pv (.int .i64 most)))] [] [] (kinfolkref02_Make_out p most r_) := by
  unfold kinfolkref02_Make_b at h
  rcases cond_of h with ⟨h1, h⟩ | ⟨h1, h⟩
  · obtain ⟨t, h2, h⟩ := bind_of h
    have h := some_of h
    subst h
    have e_ := kinfolkref02_Make_p0 p most t
    have e_ := runs_of (objs := []) (Says.of e_ ⟨h1, (kinfolkref02_Leaf_runs 0 _ h2), trivial⟩)
    exact e_.out ⟨.eq rfl, .pv (.nilsI), trivial⟩ trivial trivial rfl
  · obtain ⟨h2, h⟩ := need_of h
    obtain ⟨h3, h⟩ := need_of h
    rcases cond_of h with ⟨h4, h⟩ | ⟨h4, h⟩
    · obtain ⟨t, h5, h⟩ := bind_of h
      have h := some_of h
      subst h
      have e_ := kinfolkref02_Make_p1 p most t
      have e_ := runs_of (objs := []) (Says.of e_ ⟨h1, h2, h3, h4, rfl, rfl, rfl, (kinfolkref02_Leaf_runs (IntKind.u64.wrap (irem .u8 (iquo .u8 (p.getD 0 0) 4) 8)) _ h5), trivial⟩)
      exact e_
    · rcases cond_of h with ⟨h5, h⟩ | ⟨h5, h⟩
      · obtain ⟨t, h6, h⟩ := bind_of h
        have h := some_of h
        subst h
        have e_ := kinfolkref02_Make_p2 p most t
        have e_ := runs_of (objs := []) (Says.of e_ ⟨h1, h2, h3, h4, rfl, h5, rfl, rfl, (kinfolkref02_Leaf_runs (IntKind.u64.wrap (irem .u8 (iquo .u8 (p.getD 0 0) 4) 8)) _ h6), trivial⟩)
        exact e_
      · obtain ⟨⟨t, l_⟩, h6, h⟩ := bind_of h
        obtain ⟨⟨t2, l_2⟩, h7, h⟩ := bind_of h
        obtain ⟨t3, h8, h⟩ := bind_of h
        have h := some_of h
        subst h
        have e_ := kinfolkref02_Make_p3 p most t l_ t2 l_2 t3
        have e_ := runs_of (objs := []) (Says.of e_ ⟨h1, h2, h3, h4, rfl, h5, (hrec_kinfolkref02_Make (List.take (((p).length : Int) - 1).toNat (List.drop 1 p)) (isub .i64 most 1) _ h6), (hrec_kinfolkref02_Make l_ (isub .i64 most 1) _ h7), rfl, rfl, (kinfolkref02_Node_runs N (IntKind.u64.wrap (irem .u8 (iquo .u8 (p.getD 0 0) 4) 4)) t t2 _ h8), trivial⟩)
        exact e_
noncomputable def kinfolkref02_Make : Nat → List Int → Int → Option (T_kinfolkref02_Event × List Int)
  | 0, _, _ => none
  | N + 1, p, most => kinfolkref02_Make_b N (kinfolkref02_Make N) p most
theorem kinfolkref02_Make_runs : ∀ (N : Nat) (p : List Int) (most : Int) (r_ : T_kinfolkref02_Event × List Int), kinfolkref02_Make N p most = some r_ → Runs Try.prog 34 [(.one (.pv (.ints .u8 p false))), (.one (.pv (.int .i64 most)))] [] [] (kinfolkref02_Make_out p most r_)
  | 0, _, _, _, h => by cases h
  | N + 1, p, most, r_, h => kinfolkref02_Make_b_runs N (kinfolkref02_Make N) (kinfolkref02_Make_runs N) p most r_ h
/-! ### kinfolklaw07_own_out -/
def kinfolklaw07_own_out (x : T_kinfolkref01_ID) : Bool × T_id_halves → Res
  | (r1, r2) => ([(.agg [(.pv (.bool r1)), (.pv (T_id_halves.pv r2))])], [], [])
/-! ### id_Zero_out -/
def id_Zero_out : Unit → Res
  | _ => ([(.agg [(.pv (.bool false)), (.pv (T_id_halves.pv T_id_halves.nil))])], [], [])
/-! ### id_Zero -/
theorem id_Zero_p0 : evFn Try.prog cfg (Runs Try.prog) (LRuns Try.prog (lEnv Try.prog cfg 53 0).nt 0) 53 [] [] []
    [] =
  some (([(.agg [(.pv (.bool false)), (.pv .nilp)])], [], []), obs [
    ]) := by kernel_rfl
noncomputable def id_Zero : Option (Unit) :=
  some ()
theorem id_Zero_runs (r_ : Unit) (h : id_Zero = some r_) : Runs Try.prog 53 [] [] [] (id_Zero_out r_) := by
  unfold id_Zero at h
  have h := some_of h
  subst h
  have e_ := id_Zero_p0
  have e_ := runs_of (objs := []) (Says.of e_ trivial)
  exact e_.out ⟨⟨.eq rfl, .eq rfl, trivial⟩, trivial⟩ trivial trivial rfl
/-! ### id_Pair_out -/
def id_Pair_out (l : Bool) (l2 : T_id_halves) (r : Bool) (r2 : T_id_halves) : Bool × T_id_halves × Int → Res
  | (r1, r2, r3) => ([(.agg [(.pv (.bool r1)), (.pv (T_id_halves.pv r2))]), (.one (.pv (.int .i64 r3)))], [], [])
/-! ### id_pair_out -/
def id_pair_out (l : Bool) (l2 : T_id_halves) (r : Bool) (r2 : T_id_halves) : Bool × T_id_halves → Res
  | (r1, r2) => ([(.agg [(.pv (.bool r1)), (.pv (T_id_halves.pv r2))])], [], [])
/-! ### id_pair -/
theorem id_pair_p0 (l : Bool) (l2 : T_id_halves) (r : Bool) (r2 : T_id_halves) (b : Bool) (b2 : Bool) : evFn Try.prog cfg (Runs Try.prog) (LRuns Try.prog (lEnv Try.prog cfg 81 0).nt 0) 81 [(.agg [(.pv (.bool l)), (.pv (T_id_halves.pv l2))]), (.agg [(.pv (.bool r)), (.pv (T_id_halves.pv r2))])] [] []
    [.res ([(.one (.pv (.bool b)))], [], []), .br true, .res ([(.one (.pv (.bool b2)))], [], []), .br true, .res ([(.agg [(.pv (.bool false)), (.pv (T_id_halves.pv T_id_halves.nil))])], [], [])] =
  some (([(.agg [(.pv (.bool false)), (.pv (T_id_halves.pv T_id_halves.nil))])], [], []), obs [
    Runs Try.prog 47 [(.agg [(.pv (.bool l)), (.pv (T_id_halves.pv l2))])] [] [] ([(.one (.pv (.bool b)))], [], []),
    b = true,
    Runs Try.prog 47 [(.agg [(.pv (.bool r)), (.pv (T_id_halves.pv r2))])] [] [] ([(.one (.pv (.bool b2)))], [], []),
    b2 = true,
    Runs Try.prog 53 [] [] [] ([(.agg [(.pv (.bool false)), (.pv (T_id_halves.pv T_id_halves.nil))])], [], [])]) := by kernel_rfl
theorem id_pair_p1 (l : Bool) (l2 : T_id_halves) (r : Bool) (r2 : T_id_halves) (b : Bool) (b2 : Bool) : evFn Try.prog cfg (Runs Try.prog) (LRuns Try.prog (lEnv Try.prog cfg 81 0).nt 0) 81 [(.agg [(.pv (.bool l)), (.pv (T_id_halves.pv l2))]), (.agg [(.pv (.bool r)), (.pv (T_id_halves.pv r2))])] [] []
    [.res ([(.one (.pv (.bool b)))], [], []), .br true, .res ([(.one (.pv (.bool b2)))], [], []), .br false, .res ([(.one (.pv (.bool l)))], [], []), .br true, .res ([(.one (.pv (.bool r)))], [], []), .br true, .res ([(.agg [(.pv (.bool true)), (.pv (T_id_halves.pv T_id_halves.nil))])], [], [])] =
  some (([(.agg [(.pv (.bool true)), (.pv (T_id_halves.pv T_id_halves.nil))])], [], []), obs [
    Runs Try.prog 47 [(.agg [(.pv (.bool l)), (.pv (T_id_halves.pv l2))])] [] [] ([(.one (.pv (.bool b)))], [], []),
    b = true,
    Runs Try.prog 47 [(.agg [(.pv (.bool r)), (.pv (T_id_halves.pv r2))])] [] [] ([(.one (.pv (.bool b2)))], [], []),
    b2 = false,
    Runs Try.prog 48 [(.agg [(.pv (.bool l)), (.pv (T_id_halves.pv l2))])] [] [] ([(.one (.pv (.bool l)))], [], []),
    l = true,
    Runs Try.prog 48 [(.agg [(.pv (.bool r)), (.pv (T_id_halves.pv r2))])] [] [] ([(.one (.pv (.bool r)))], [], []),
    r = true,
    Runs Try.prog 63 [] [] [] ([(.agg [(.pv (.bool true)), (.pv (T_id_halves.pv T_id_halves.nil))])], [], [])]) := by kernel_rfl
theorem id_pair_p2 (l : Bool) (l2 : T_id_halves) (r : Bool) (r2 : T_id_halves) (b : Bool) (b2 : Bool) : evFn Try.prog cfg (Runs Try.prog) (LRuns Try.prog (lEnv Try.prog cfg 81 0).nt 0) 81 [(.agg [(.pv (.bool l)), (.pv (T_id_halves.pv l2))]), (.agg [(.pv (.bool r)), (.pv (T_id_halves.pv r2))])] [] []
    [.res ([(.one (.pv (.bool b)))], [], []), .br true, .res ([(.one (.pv (.bool b2)))], [], []), .br false, .res ([(.one (.pv (.bool l)))], [], []), .br true, .res ([(.one (.pv (.bool r)))], [], []), .br false] =
  some (([(.agg [(.pv (.bool false)), (.pv (.imm [(.bool l), (T_id_halves.pv l2), (.bool r), (T_id_halves.pv r2)] 0))])], [], []), obs [
    Runs Try.prog 47 [(.agg [(.pv (.bool l)), (.pv (T_id_halves.pv l2))])] [] [] ([(.one (.pv (.bool b)))], [], []),
    b = true,
    Runs Try.prog 47 [(.agg [(.pv (.bool r)), (.pv (T_id_halves.pv r2))])] [] [] ([(.one (.pv (.bool b2)))], [], []),
    b2 = false,
    Runs Try.prog 48 [(.agg [(.pv (.bool l)), (.pv (T_id_halves.pv l2))])] [] [] ([(.one (.pv (.bool l)))], [], []),
    l = true,
    Runs Try.prog 48 [(.agg [(.pv (.bool r)), (.pv (T_id_halves.pv r2))])] [] [] ([(.one (.pv (.bool r)))], [], []),
    r = false]) := by kernel_rfl
theorem id_pair_p3 (l : Bool) (l2 : T_id_halves) (r : Bool) (r2 : T_id_halves) (b : Bool) (b2 : Bool) : evFn Try.prog cfg (Runs Try.prog) (LRuns Try.prog (lEnv Try.prog cfg 81 0).nt 0) 81 [(.agg [(.pv (.bool l)), (.pv (T_id_halves.pv l2))]), (.agg [(.pv (.bool r)), (.pv (T_id_halves.pv r2))])] [] []
    [.res ([(.one (.pv (.bool b)))], [], []), .br true, .res ([(.one (.pv (.bool b2)))], [], []), .br false, .res ([(.one (.pv (.bool l)))], [], []), .br false, .br false] =
  some (([(.agg [(.pv (.bool false)), (.pv (.imm [(.bool l), (T_id_halves.pv l2), (.bool r), (T_id_halves.pv r2)] 0))])], [], []), obs [
    Runs Try.prog 47 [(.agg [(.pv (.bool l)), (.pv (T_id_halves.pv l2))])] [] [] ([(.one (.pv (.bool b)))], [], []),
    b = true,
    Runs Try.prog 47 [(.agg [(.pv (.bool r)), (.pv (T_id_halves.pv r2))])] [] [] ([(.one (.pv (.bool b2)))], [], []),
    b2 = false,
    Runs Try.prog 48 [(.agg [(.pv (.bool l)), (.pv (T_id_halves.pv l2))])] [] [] ([(.one (.pv (.bool l)))], [], []),
    l = false,
    false = false]) := by kernel_rfl
theorem id_pair_p4 (l : Bool) (l2 : T_id_halves) (r : Bool) (r2 : T_id_halves) (b : Bool) : evFn Try.prog cfg (Runs Try.prog) (LRuns Try.prog (lEnv Try.prog cfg 81 0).nt 0) 81 [(.agg [(.pv (.bool l)), (.pv (T_id_halves.pv l2))]), (.agg [(.pv (.bool r)), (.pv (T_id_halves.pv r2))])] [] []
    [.res ([(.one (.pv (.bool b)))], [], []), .br false, .br false, .res ([(.one (.pv (.bool l)))], [], []), .br true, .res ([(.one (.pv (.bool r)))], [], []), .br true, .res ([(.agg [(.pv (.bool true)), (.pv (T_id_halves.pv T_id_halves.nil))])], [], [])] =
  some (([(.agg [(.pv (.bool true)), (.pv (T_id_halves.pv T_id_halves.nil))])], [], []), obs [
    Runs Try.prog 47 [(.agg [(.pv (.bool l)), (.pv (T_id_halves.pv l2))])] [] [] ([(.one (.pv (.bool b)))], [], []),
    b = false,
    false = false,
    Runs Try.prog 48 [(.agg [(.pv (.bool l)), (.pv (T_id_halves.pv l2))])] [] [] ([(.one (.pv (.bool l)))], [], []),
    l = true,
    Runs Try.prog 48 [(.agg [(.pv (.bool r)), (.pv (T_id_halves.pv r2))])] [] [] ([(.one (.pv (.bool r)))], [], []),
    r = true,
    Runs Try.prog 63 [] [] [] ([(.agg [(.pv (.bool true)), (.pv (T_id_halves.pv T_id_halves.nil))])], [], [])]) := by kernel_rfl
theorem id_pair_p5 (l : Bool) (l2 : T_id_halves) (r : Bool) (r2 : T_id_halves) (b : Bool) : evFn Try.prog cfg (Runs Try.prog) (LRuns Try.prog (lEnv Try.prog cfg 81 0).nt 0) 81 [(.agg [(.pv (.bool l)), (.pv (T_id_halves.pv l2))]), (.agg [(.pv (.bool r)), (.pv (T_id_halves.pv r2))])] [] []
    [.res ([(.one (.pv (.bool b)))], [], []), .br false, .br false, .res ([(.one (.pv (.bool l)))], [], []), .br true, .res ([(.one (.pv (.bool r)))], [], []), .br false] =
  some (([(.agg [(.pv (.bool false)), (.pv (.imm [(.bool l), (T_id_halves.pv l2), (.bool r), (T_id_halves.pv r2)] 0))])], [], []), obs [
    Runs Try.prog 47 [(.agg [(.pv (.bool l)), (.pv (T_id_halves.pv l2))])] [] [] ([(.one (.pv (.bool b)))], [], []),
    b = false,
    false = false,
    Runs Try.prog 48 [(.agg [(.pv (.bool l)), (.pv (T_id_halves.pv l2))])] [] [] ([(.one (.pv (.bool l)))], [], []),
    l = true,
    Runs Try.prog 48 [(.agg [(.pv (.bool r)), (.pv (T_id_halves.pv r2))])] [] [] ([(.one (.pv (.bool r)))], [], []),
    r = false]) := by kernel_rfl
theorem id_pair_p6 (l : Bool) (l2 : T_id_halves) (r : Bool) (r2 : T_id_halves) (b : Bool) : evFn Try.prog cfg (Runs Try.prog) (LRuns Try.prog (lEnv Try.prog cfg 81 0).nt 0) 81 [(.agg [(.pv (.bool l)), (.pv (T_id_halves.pv l2))]), (.agg [(.pv (.bool r)), (.pv (T_id_halves.pv r2))])] [] []
    [.res ([(.one (.pv (.bool b)))], [], []), .br false, .br false, .res ([(.one (.pv (.bool l)))], [], []), .br false, .br false] =
  some (([(.agg [(.pv (.bool false)), (.pv (.imm [(.bool l), (T_id_halves.pv l2), (.bool r), (T_id_halves.pv r2)] 0))])], [], []), obs [
    Runs Try.prog 47 [(.agg [(.pv (.bool l)), (.pv (T_id_halves.pv l2))])] [] [] ([(.one (.pv (.bool b)))], [], []),
    b = false,
    false = false,
    Runs Try.prog 48 [(.agg [(.pv (.bool l)), (.pv (T_id_halves.pv l2))])] [] [] ([(.one (.pv (.bool l)))], [], []),
    l = false,
    false = false]) := by kernel_rfl
noncomputable def id_pair (l : Bool) (l2 : T_id_halves) (r : Bool) (r2 : T_id_halves) : Option (Bool × T_id_halves) :=
  (id_ID_IsZero l l2).bind fun b =>
  bif b then
    (id_ID_IsZero r r2).bind fun b2 =>
    bif b2 then
      (id_Zero).bind fun _ =>
      some (false, T_id_halves.nil)
    else
      (id_ID_IsOne l l2).bind fun _ =>
      bif l then
        (id_ID_IsOne r r2).bind fun _ =>
        bif r then
          (id_One).bind fun _ =>
          some (true, T_id_halves.nil)
        else
          some (false, (T_id_halves.mk l l2 r r2))
      else
        some (false, (T_id_halves.mk l l2 r r2))
  else
    (id_ID_IsOne l l2).bind fun _ =>
    bif l then
      (id_ID_IsOne r r2).bind fun _ =>
      bif r then
        (id_One).bind fun _ =>
        some (true, T_id_halves.nil)
      else
        some (false, (T_id_halves.mk l l2 r r2))
    else
      some (false, (T_id_halves.mk l l2 r r2))
theorem id_pair_runs (l : Bool) (l2 : T_id_halves) (r : Bool) (r2 : T_id_halves) (r_ : Bool × T_id_halves) (h : id_pair l l2 r r2 = some r_) : Runs Try.prog 81 [(.agg [(.pv (.bool l)), (.pv (T_id_halves.pv l2))]), (.agg [(.pv (.bool r)), (.pv (T_id_halves.pv r2))])] [] [] (id_pair_out l l2 r r2 r_) := by
  unfold id_pair at h
  obtain ⟨b, h1, h⟩ := bind_of h
  rcases cond_of h with ⟨h2, h⟩ | ⟨h2, h⟩
  · obtain ⟨b2, h3, h⟩ := bind_of h
    rcases cond_of h with ⟨h4, h⟩ | ⟨h4, h⟩
    · obtain ⟨_, h5, h⟩ := bind_of h
      have h := some_of h
      subst h
      have e_ := id_pair_p0 l l2 r r2 b b2
      have e_ := runs_of (objs := []) (Says.of e_ ⟨(id_ID_IsZero_runs l l2 _ h1), h2, (id_ID_IsZero_runs r r2 _ h3), h4, (id_Zero_runs _ h5), trivial⟩)
      exact e_
    · obtain ⟨_, h5, h⟩ := bind_of h
      rcases cond_of h with ⟨h6, h⟩ | ⟨h6, h⟩
      · obtain ⟨_, h7, h⟩ := bind_of h
        rcases cond_of h with ⟨h8, h⟩ | ⟨h8, h⟩
        · obtain ⟨_, h9, h⟩ := bind_of h
          have h := some_of h
          subst h
          have e_ := id_pair_p1 l l2 r r2 b b2
          have e_ := runs_of (objs := []) (Says.of e_ ⟨(id_ID_IsZero_runs l l2 _ h1), h2, (id_ID_IsZero_runs r r2 _ h3), h4, (id_ID_IsOne_runs l l2 _ h5), h6, (id_ID_IsOne_runs r r2 _ h7), h8, (id_One_runs _ h9), trivial⟩)
          exact e_
        · have h := some_of h
          subst h
          have e_ := id_pair_p2 l l2 r r2 b b2
          have e_ := runs_of (objs := []) (Says.of e_ ⟨(id_ID_IsZero_runs l l2 _ h1), h2, (id_ID_IsZero_runs r r2 _ h3), h4, (id_ID_IsOne_runs l l2 _ h5), h6, (id_ID_IsOne_runs r r2 _ h7), h8, trivial⟩)
          exact e_.out ⟨⟨.eq rfl, .eq rfl, trivial⟩, trivial⟩ trivial trivial rfl
      · have h := some_of h
        subst h
        have e_ := id_pair_p3 l l2 r r2 b b2
        have e_ := runs_of (objs := []) (Says.of e_ ⟨(id_ID_IsZero_runs l l2 _ h1), h2, (id_ID_IsZero_runs r r2 _ h3), h4, (id_ID_IsOne_runs l l2 _ h5), h6, rfl, trivial⟩)
        exact e_.out ⟨⟨.eq rfl, .eq rfl, trivial⟩, trivial⟩ trivial trivial rfl
  · obtain ⟨_, h3, h⟩ := bind_of h
    rcases cond_of h with ⟨h4, h⟩ | ⟨h4, h⟩
    · obtain ⟨_, h5, h⟩ := bind_of h
      rcases cond_of h with ⟨h6, h⟩ | ⟨h6, h⟩
      · obtain ⟨_, h7, h⟩ := bind_of h
        have h := some_of h
        subst h
        have e_ := id_pair_p4 l l2 r r2 b
        have e_ := runs_of (objs := []) (Says.of e_ ⟨(id_ID_IsZero_runs l l2 _ h1), h2, rfl, (id_ID_IsOne_runs l l2 _ h3), h4, (id_ID_IsOne_runs r r2 _ h5), h6, (id_One_runs _ h7), trivial⟩)
        exact e_
      · have h := some_of h
        subst h
        have e_ := id_pair_p5 l l2 r r2 b
        have e_ := runs_of (objs := []) (Says.of e_ ⟨(id_ID_IsZero_runs l l2 _ h1), h2, rfl, (id_ID_IsOne_runs l l2 _ h3), h4, (id_ID_IsOne_runs r r2 _ h5), h6, trivial⟩)
        exact e_.out ⟨⟨.eq rfl, .eq rfl, trivial⟩, trivial⟩ trivial trivial rfl
    · have h := some_of h
      subst h
      have e_ := id_pair_p6 l l2 r r2 b
      have e_ := runs_of (objs := []) (Says.of e_ ⟨(id_ID_IsZero_runs l l2 _ h1), h2, rfl, (id_ID_IsOne_runs l l2 _ h3), h4, rfl, trivial⟩)
      exact e_.out ⟨⟨.eq rfl, .eq rfl, trivial⟩, trivial⟩ trivial trivial rfl
/-! ### id_ID_Depth_out -/
def id_ID_Depth_out (i : Bool) (i2 : T_id_halves) : Int → Res
  | r1 => ([(.one (.pv (.int .i64 r1)))], [], [])
/-! ### id_ID_Depth -/
theorem id_ID_Depth_p0 (i : Bool) : evFn Try.prog cfg (Runs Try.prog) (LRuns Try.prog (lEnv Try.prog cfg 82 0).nt 0) 82 [(.agg [(.pv (.bool i)), (.pv (T_id_halves.pv T_id_halves.nil))])] [] []
    [.br true] =
  some (([(.one (.pv (.int .i64 0)))], [], []), obs [
    true = true]) := by kernel_rfl
theorem id_ID_Depth_p1 (i : Bool) (b : Bool) (t : T_id_halves) (b2 : Bool) (t2 : T_id_halves) (n : Int) (n2 : Int) : both (evFn Try.prog cfg (Runs Try.prog) (LRuns Try.prog (lEnv Try.prog cfg 82 0).nt 0) 82 [(.agg [(.pv (.bool i)), (.pv (T_id_halves.pv (T_id_halves.mk b t b2 t2)))])] [] []
    [.br false, .res ([(.one (.pv (.int .i64 n)))], [], []), .res ([(.one (.pv (.int .i64 n)))], [], []), .res ([(.one (.pv (.int .i64 n2)))], [], [])]) (([(.one (.pv (.int .i64 (iadd .i64 1 (if (n : Int) < n2 then n2 else n)))))], [], [])) [
    false = false,
    Runs Try.prog 82 [(.agg [(.pv (.bool b)), (.pv (T_id_halves.pv t))])] [] [] ([(.one (.pv (.int .i64 n)))], [], []),
    Runs Try.prog 82 [(.agg [(.pv (.bool b)), (.pv (T_id_halves.pv t))])] [] [] ([(.one (.pv (.int .i64 n)))], [], []),
    Runs Try.prog 82 [(.agg [(.pv (.bool b2)), (.pv (T_id_halves.pv t2))])] [] [] ([(.one (.pv (.int .i64 n2)))], [], [])] := ⟨by kernel_rfl, by kernel_rfl⟩
noncomputable def id_ID_Depth_b (rec_id_ID_Depth : Bool → T_id_halves → Option (Int)) (i : Bool) (i2 : T_id_halves) : Option (Int) :=
  match i2 with
  | .nil =>
    some 0
  | .mk b t b2 t2 =>
    (rec_id_ID_Depth b t).bind fun n =>
    (rec_id_ID_Depth b2 t2).bind fun n2 =>
    some (iadd .i64 1 (if (n : Int) < n2 then n2 else n))
theorem id_ID_Depth_b_runs (rec_id_ID_Depth : Bool → T_id_halves → Option (Int)) (hrec_id_ID_Depth : ∀ i i2 r_, rec_id_ID_Depth i i2 = some r_ → Runs Try.prog 82 [(.agg [(.pv (.bool i)), (.pv (T_id_halves.pv i2))])] [] [] (id_ID_Depth_out i i2 r_)) (i : Bool) (i2 : T_id_halves) (r_ : Int) (h : id_ID_Depth_b rec_id_ID_Depth i i2 = some r_) : Runs Try.prog 82 [(.agg [(.pv (.bool i)), (.pv (T_id_halves.pv i2))])] [] [] (id_ID_Depth_out i i2 r_) := by
  unfold id_ID_Depth_b at h
  cases i2 with
  | nil =>
    have h := some_of h
    subst h
    have e_ := id_ID_Depth_p0 i
    have e_ := runs_of (objs := []) (Says.of e_ ⟨rfl, trivial⟩)
    exact e_
  | mk b t b2 t2 =>
    obtain ⟨n, h1, h⟩ := bind_of h
    obtain ⟨n2, h2, h⟩ := bind_of h
    have h := some_of h
    subst h
    have e_ := id_ID_Depth_p1 i b t b2 t2 n n2
    have e_ := runs_of (objs := []) (Says.of2 e_ ⟨rfl, (hrec_id_ID_Depth b t _ h1), (hrec_id_ID_Depth b t _ h1), (hrec_id_ID_Depth b2 t2 _ h2), trivial⟩)
    exact e_
noncomputable def id_ID_Depth : Nat → Bool → T_id_halves → Option (Int)
  | 0, _, _ => none
  | N + 1, i, i2 => id_ID_Depth_b (id_ID_Depth N) i i2
theorem id_ID_Depth_runs : ∀ (N : Nat) (i : Bool) (i2 : T_id_halves) (r_ : Int), id_ID_Depth N i i2 = some r_ → Runs Try.prog 82 [(.agg [(.pv (.bool i)), (.pv (T_id_halves.pv i2))])] [] [] (id_ID_Depth_out i i2 r_)
  | 0, _, _, _, h => by cases h
  | N + 1, i, i2, r_, h => id_ID_Depth_b_runs (id_ID_Depth N) (id_ID_Depth_runs N) i i2 r_ h
/-! ### id_Pair -/
theorem id_Pair_p0 (l : Bool) (l2 : T_id_halves) (r : Bool) (r2 : T_id_halves) (b : Bool) (t : T_id_halves) (n : Int) : evFn Try.prog cfg (Runs Try.prog) (LRuns Try.prog (lEnv Try.prog cfg 68 0).nt 0) 68 [(.agg [(.pv (.bool l)), (.pv (T_id_halves.pv l2))]), (.agg [(.pv (.bool r)), (.pv (T_id_halves.pv r2))])] [] []
    [.res ([(.agg [(.pv (.bool b)), (.pv (T_id_halves.pv t))])], [], []), .res ([(.one (.pv (.int .i64 n)))], [], []), .br true, .res ([(.agg [(.pv (.bool false)), (.pv (T_id_halves.pv T_id_halves.nil))])], [], [])] =
  some (([(.agg [(.pv (.bool false)), (.pv (T_id_halves.pv T_id_halves.nil))]), (.one (.pv (.int .i64 3)))], [], []), obs [
    Runs Try.prog 81 [(.agg [(.pv (.bool l)), (.pv (T_id_halves.pv l2))]), (.agg [(.pv (.bool r)), (.pv (T_id_halves.pv r2))])] [] [] ([(.agg [(.pv (.bool b)), (.pv (T_id_halves.pv t))])], [], []),
    Runs Try.prog 82 [(.agg [(.pv (.bool b)), (.pv (T_id_halves.pv t))])] [] [] ([(.one (.pv (.int .i64 n)))], [], []),
    (decide ((16 : Int) < n)) = true,
    Runs Try.prog 53 [] [] [] ([(.agg [(.pv (.bool false)), (.pv (T_id_halves.pv T_id_halves.nil))])], [], [])]) := by kernel_rfl
theorem id_Pair_p1 (l : Bool) (l2 : T_id_halves) (r : Bool) (r2 : T_id_halves) (b : Bool) (t : T_id_halves) (n : Int) : evFn Try.prog cfg (Runs Try.prog) (LRuns Try.prog (lEnv Try.prog cfg 68 0).nt 0) 68 [(.agg [(.pv (.bool l)), (.pv (T_id_halves.pv l2))]), (.agg [(.pv (.bool r)), (.pv (T_id_halves.pv r2))])] [] []
    [.res ([(.agg [(.pv (.bool b)), (.pv (T_id_halves.pv t))])], [], []), .res ([(.one (.pv (.int .i64 n)))], [], []), .br false] =
  some (([(.agg [(.pv (.bool b)), (.pv (T_id_halves.pv t))]), (.one (.pv (.int .i64 0)))], [], []), obs [
    Runs Try.prog 81 [(.agg [(.pv (.bool l)), (.pv (T_id_halves.pv l2))]), (.agg [(.pv (.bool r)), (.pv (T_id_halves.pv r2))])] [] [] ([(.agg [(.pv (.bool b)), (.pv (T_id_halves.pv t))])], [], []),
    Runs Try.prog 82 [(.agg [(.pv (.bool b)), (.pv (T_id_halves.pv t))])] [] [] ([(.one (.pv (.int .i64 n)))], [], []),
    (decide ((16 : Int) < n)) = false]) := by kernel_rfl
noncomputable def id_Pair (N : Nat) (l : Bool) (l2 : T_id_halves) (r : Bool) (r2 : T_id_halves) : Option (Bool × T_id_halves × Int) :=
  (id_pair l l2 r r2).bind fun (b, t) =>
  (id_ID_Depth N b t).bind fun n =>
  bif (decide ((16 : Int) < n)) then
    (id_Zero).bind fun _ =>
    some (false, T_id_halves.nil, 3)
  else
    some (b, t, 0)
theorem id_Pair_runs (N : Nat) (l : Bool) (l2 : T_id_halves) (r : Bool) (r2 : T_id_halves) (r_ : Bool × T_id_halves × Int) (h : id_Pair N l l2 r r2 = some r_) : Runs Try.prog 68 [(.agg [(.pv (.bool l)), (.pv (T_id_halves.pv l2))]), (.agg [(.pv (.bool r)), (.pv (T_id_halves.pv r2))])] [] [] (id_Pair_out l l2 r r2 r_) := by
  unfold id_Pair at h
  obtain ⟨⟨b, t⟩, h1, h⟩ := bind_of h
  obtain ⟨n, h2, h⟩ := bind_of h
  rcases cond_of h with ⟨h3, h⟩ | ⟨h3, h⟩
  · obtain ⟨_, h4, h⟩ := bind_of h
    have h := some_of h
    subst h
    have e_ := id_Pair_p0 l l2 r r2 b t n
    have e_ := runs_of (objs := []) (Says.of e_ ⟨(id_pair_runs l l2 r r2 _ h1), (id_ID_Depth_runs N b t _ h2), h3, (id_Zero_runs _ h4), trivial⟩)
    exact e_
  · have h := some_of h
    subst h
    have e_ := id_Pair_p1 l l2 r r2 b t n
    have e_ := runs_of (objs := []) (Says.of e_ ⟨(id_pair_runs l l2 r r2 _ h1), (id_ID_Depth_runs N b t _ h2), h3, trivial⟩)
    exact e_
/-! ### kinfolklaw07_own -/
theorem kinfolklaw07_own_p1 (n : Int) (t : T_kinfolkref01_ID) (t2 : T_kinfolkref01_ID) : evFn Try.prog cfg (Runs Try.prog) (LRuns Try.prog (lEnv Try.prog cfg 35 0).nt 0) 35 [(.one (.pv (T_kinfolkref01_ID.pv (T_kinfolkref01_ID.mk n t t2))))] [] []
    [.br true, .res ([(.agg [(.pv (.bool false)), (.pv (T_id_halves.pv T_id_halves.nil))])], [], [])] =
  some (([(.agg [(.pv (.bool false)), (.pv (T_id_halves.pv T_id_halves.nil))])], [], []), obs [
    (decide ((n : Int) = 0)) = true,
    Runs Try.prog 53 [] [] [] ([(.agg [(.pv (.bool false)), (.pv (T_id_halves.pv T_id_halves.nil))])], [], [])]) := by kernel_rfl
theorem kinfolklaw07_own_p2 (n : Int) (t : T_kinfolkref01_ID) (t2 : T_kinfolkref01_ID) : evFn Try.prog cfg (Runs Try.prog) (LRuns Try.prog (lEnv Try.prog cfg 35 0).nt 0) 35 [(.one (.pv (T_kinfolkref01_ID.pv (T_kinfolkref01_ID.mk n t t2))))] [] []
    [.br false, .br true, .res ([(.agg [(.pv (.bool true)), (.pv (T_id_halves.pv T_id_halves.nil))])], [], [])] =
  some (([(.agg [(.pv (.bool true)), (.pv (T_id_halves.pv T_id_halves.nil))])], [], []), obs [
    (decide ((n : Int) = 0)) = false,
    (decide ((n : Int) = 1)) = true,
    Runs Try.prog 63 [] [] [] ([(.agg [(.pv (.bool true)), (.pv (T_id_halves.pv T_id_halves.nil))])], [], [])]) := by kernel_rfl
theorem kinfolklaw07_own_p3 (n : Int) (t : T_kinfolkref01_ID) (t2 : T_kinfolkref01_ID) (b : Bool) (t3 : T_id_halves) (b2 : Bool) (t4 : T_id_halves) (b3 : Bool) (t5 : T_id_halves) (n2 : Int) : both (evFn Try.prog cfg (Runs Try.prog) (LRuns Try.prog (lEnv Try.prog cfg 35 0).nt 0) 35 [(.one (.pv (T_kinfolkref01_ID.pv (T_kinfolkref01_ID.mk n t t2))))] [] []
    [.br false, .br false, .res ([(.agg [(.pv (.bool b)), (.pv (T_id_halves.pv t3))])], [], []), .res ([(.agg [(.pv (.bool b)), (.pv (T_id_halves.pv t3))])], [], []), .res ([(.agg [(.pv (.bool b2)), (.pv (T_id_halves.pv t4))])], [], []), .res ([(.agg [(.pv (.bool b3)), (.pv (T_id_halves.pv t5))]), (.one (.pv (.int .i64 n2)))], [], []), .res ([(.agg [(.pv (.bool b2)), (.pv (T_id_halves.pv t4))])], [], []), .res ([(.agg [(.pv (.bool b3)), (.pv (T_id_halves.pv t5))]), (.one (.pv (.int .i64 n2)))], [], [])]) (([(.agg [(.pv (.bool b3)), (.pv (T_id_halves.pv t5))])], [], [])) [
    (decide ((n : Int) = 0)) = false,
    (decide ((n : Int) = 1)) = false,
    Runs Try.prog 35 [(.one (.pv (T_kinfolkref01_ID.pv t)))] [] [] ([(.agg [(.pv (.bool b)), (.pv (T_id_halves.pv t3))])], [], []),
    Runs Try.prog 35 [(.one (.pv (T_kinfolkref01_ID.pv t)))] [] [] ([(.agg [(.pv (.bool b)), (.pv (T_id_halves.pv t3))])], [], []),
    Runs Try.prog 35 [(.one (.pv (T_kinfolkref01_ID.pv t2)))] [] [] ([(.agg [(.pv (.bool b2)), (.pv (T_id_halves.pv t4))])], [], []),
    Runs Try.prog 68 [(.agg [(.pv (.bool b)), (.pv (T_id_halves.pv t3))]), (.agg [(.pv (.bool b2)), (.pv (T_id_halves.pv t4))])] [] [] ([(.agg [(.pv (.bool b3)), (.pv (T_id_halves.pv t5))]), (.one (.pv (.int .i64 n2)))], [], []),
    Runs Try.prog 35 [(.one (.pv (T_kinfolkref01_ID.pv t2)))] [] [] ([(.agg [(.pv (.bool b2)), (.pv (T_id_halves.pv t4))])], [], []),
    Runs Try.prog 68 [(.agg [(.pv (.bool b)), (.pv (T_id_halves.pv t3))]), (.agg [(.pv (.bool b2)), (.pv (T_id_halves.pv t4))])] [] [] ([(.agg [(.pv (.bool b3)), (.pv (T_id_halves.pv t5))]), (.one (.pv (.int .i64 n2)))], [], [])] := ⟨by kernel_rfl, by kernel_rfl⟩
noncomputable def kinfolklaw07_own_b (N : Nat) (rec_kinfolklaw07_own : T_kinfolkref01_ID → Option (Bool × T_id_halves)) (x : T_kinfolkref01_ID) : Option (Bool × T_id_halves) :=
  match x with
  | .nil =>
    none
  | .mk n t t2 =>
    bif (decide ((n : Int) = 0)) then
      (id_Zero).bind fun _ =>
      some (false, T_id_halves.nil)
    else
      bif (decide ((n : Int) = 1)) then
        (id_One).bind fun _ =>
        some (true, T_id_halves.nil)
      else
        (rec_kinfolklaw07_own t).bind fun (b, t3) =>
        (rec_kinfolklaw07_own t2).bind fun (b2, t4) =>
        (id_Pair N b t3 b2 t4).bind fun (b3, t5, n2) =>
        some (b3, t5)
theorem kinfolklaw07_own_b_runs (N : Nat) (rec_kinfolklaw07_own : T_kinfolkref01_ID → Option (Bool × T_id_halves)) (hrec_kinfolklaw07_own : ∀ x r_, rec_kinfolklaw07_own x = some r_ → Runs Try.prog 35 [(.one (.pv (T_kinfolkref01_ID.pv x)))] [] [] (kinfolklaw07_own_out x r_)) (x : T_kinfolkref01_ID) (r_ : Bool × T_id_halves) (h : kinfolklaw07_own_b N rec_kinfolklaw07_own x = some r_) : Runs Try.prog 35 [(.one (.pv (T_kinfolkref01_ID.pv x)))] [] [] (kinfolklaw07_own_out x r_) := by
  unfold kinfolklaw07_own_b at h
  cases x with
  | nil =>
    cases h
  | mk n t t2 =>
    rcases cond_of h with ⟨h1, h⟩ | ⟨h1, h⟩
    · obtain ⟨_, h2, h⟩ := bind_of h
      have h := some_of h
      subst h
      have e_ := kinfolklaw07_own_p1 n t t2
      have e_ := runs_of (objs := []) (Says.of e_ ⟨h1, (id_Zero_runs _ h2), trivial⟩)
      exact e_
    · rcases cond_of h with ⟨h2, h⟩ | ⟨h2, h⟩
      · obtain ⟨_, h3, h⟩ := bind_of h
        have h := some_of h
        subst h
        have e_ := kinfolklaw07_own_p2 n t t2
        have e_ := runs_of (objs := []) (Says.of e_ ⟨h1, h2, (id_One_runs _ h3), trivial⟩)
        exact e_
      · obtain ⟨⟨b, t3⟩, h3, h⟩ := bind_of h
        obtain ⟨⟨b2, t4⟩, h4, h⟩ := bind_of h
        obtain ⟨⟨b3, t5, n2⟩, h5, h⟩ := bind_of h
        have h := some_of h
        subst h
        have e_ := kinfolklaw07_own_p3 n t t2 b t3 b2 t4 b3 t5 n2
        have e_ := runs_of (objs := []) (Says.of2 e_ ⟨h1, h2, (hrec_kinfolklaw07_own t _ h3), (hrec_kinfolklaw07_own t _ h3), (hrec_kinfolklaw07_own t2 _ h4), (id_Pair_runs N b t3 b2 t4 _ h5), (hrec_kinfolklaw07_own t2 _ h4), (id_Pair_runs N b t3 b2 t4 _ h5), trivial⟩)
        exact e_
noncomputable def kinfolklaw07_own : Nat → T_kinfolkref01_ID → Option (Bool × T_id_halves)
  | 0, _ => none
  | N + 1, x => kinfolklaw07_own_b N (kinfolklaw07_own N) x
theorem kinfolklaw07_own_runs : ∀ (N : Nat) (x : T_kinfolkref01_ID) (r_ : Bool × T_id_halves), kinfolklaw07_own N x = some r_ → Runs Try.prog 35 [(.one (.pv (T_kinfolkref01_ID.pv x)))] [] [] (kinfolklaw07_own_out x r_)
  | 0, _, _, h => by cases h
  | N + 1, x, r_, h => kinfolklaw07_own_b_runs N (kinfolklaw07_own N) (kinfolklaw07_own_runs N) x r_ h
/-! ### kinfolklaw07_tree_out -/
def kinfolklaw07_tree_out (x : T_kinfolkref02_Event) : Int × T_event_halves → Res
  | (r1, r2) => ([(.agg [(.pv (.int .u64 r1)), (.pv (T_event_halves.pv r2))])], [], [])
/-! ### event_Leaf_out -/
def event_Leaf_out (n : Int) : Int × Int → Res
  | (r1, r2) => ([(.agg [(.pv (.int .u64 r1)), (.pv (T_event_halves.pv T_event_halves.nil))]), (.one (.pv (.int .i64 r2)))], [], [])
/-! ### event_Leaf -/
theorem event_Leaf_p0 (n : Int) : evFn Try.prog cfg (Runs Try.prog) (LRuns Try.prog (lEnv Try.prog cfg 69 0).nt 0) 69 [(.one (.pv (.int .u64 n)))] [] []
    [.br true] =
  some (([(.agg [(.pv (.int .u64 0)), (.pv .nilp)]), (.one (.pv (.int .i64 4)))], [], []), obs [
    (decide ((1048576 : Int) < n)) = true]) := by kernel_rfl
theorem event_Leaf_p1 (n : Int) : evFn Try.prog cfg (Runs Try.prog) (LRuns Try.prog (lEnv Try.prog cfg 69 0).nt 0) 69 [(.one (.pv (.int .u64 n)))] [] []
    [.br false] =
  some (([(.agg [(.pv (.int .u64 n)), (.pv .nilp)]), (.one (.pv (.int .i64 0)))], [], []), obs [
    (decide ((1048576 : Int) < n)) = false]) := by kernel_rfl
noncomputable def event_Leaf (n : Int) : Option (Int × Int) :=
  bif (decide ((1048576 : Int) < n)) then
    some (0, 4)
  else
    some (n, 0)
theorem event_Leaf_runs (n : Int) (r_ : Int × Int) (h : event_Leaf n = some r_) : Runs Try.prog 69 [(.one (.pv (.int .u64 n)))] [] [] (event_Leaf_out n r_) := by
  unfold event_Leaf at h
  rcases cond_of h with ⟨h1, h⟩ | ⟨h1, h⟩
  · have h := some_of h
    subst h
    have e_ := event_Leaf_p0 n
    have e_ := runs_of (objs := []) (Says.of e_ ⟨h1, trivial⟩)
    exact e_.out ⟨⟨.eq rfl, .eq rfl, trivial⟩, .eq rfl, trivial⟩ trivial trivial rfl
  · have h := some_of h
    subst h
    have e_ := event_Leaf_p1 n
    have e_ := runs_of (objs := []) (Says.of e_ ⟨h1, trivial⟩)
    exact e_.out ⟨⟨.eq rfl, .eq rfl, trivial⟩, .eq rfl, trivial⟩ trivial trivial rfl
/-! ### event_Node_out -/
def event_Node_out (n : Int) (l : Int) (l2 : T_event_halves) (r : Int) (r2 : T_event_halves) : Int × T_event_halves × Int → Res
  | (r1, r2, r3) => ([(.agg [(.pv (.int .u64 r1)), (.pv (T_event_halves.pv r2))]), (.one (.pv (.int .i64 r3)))], [], [])
/-! ### event_node_out -/
def event_node_out (n : Int) (l : Int) (l2 : T_event_halves) (r : Int) (r2 : T_event_halves) : Int × T_event_halves → Res
  | (r1, r2) => ([(.agg [(.pv (.int .u64 r1)), (.pv (T_event_halves.pv r2))])], [], [])
/-! ### event_node -/
theorem event_node_p0 (n : Int) (l : Int) (r : Int) : evFn Try.prog cfg (Runs Try.prog) (LRuns Try.prog (lEnv Try.prog cfg 83 0).nt 0) 83 [(.one (.pv (.int .u64 n))), (.agg [(.pv (.int .u64 l)), (.pv (T_event_halves.pv T_event_halves.nil))]), (.agg [(.pv (.int .u64 r)), (.pv (T_event_halves.pv T_event_halves.nil))])] [] []
    [.br true, .br true, .br true] =
  some (([(.agg [(.pv (.int .u64 (iadd .u64 n l))), (.pv .nilp)])], [], []), obs [
    true = true,
    true = true,
    (decide ((l : Int) = r)) = true]) := by kernel_rfl
theorem event_node_p1 (n : Int) (l : Int) (r : Int) : evFn Try.prog cfg (Runs Try.prog) (LRuns Try.prog (lEnv Try.prog cfg 83 0).nt 0) 83 [(.one (.pv (.int .u64 n))), (.agg [(.pv (.int .u64 l)), (.pv (T_event_halves.pv T_event_halves.nil))]), (.agg [(.pv (.int .u64 r)), (.pv (T_event_halves.pv T_event_halves.nil))])] [] []
    [.br true, .br true, .br false] =
  some (([(.agg [(.pv (.int .u64 (iadd .u64 n (if (r : Int) < l then r else l)))), (.pv (.imm [(.int .u64 (isub .u64 l (if (r : Int) < l then r else l))), (T_event_halves.pv T_event_halves.nil), (.int .u64 (isub .u64 r (if (r : Int) < l then r else l))), (T_event_halves.pv T_event_halves.nil)] 0))])], [], []), obs [
    true = true,
    true = true,
    (decide ((l : Int) = r)) = false]) := by kernel_rfl
theorem event_node_p2 (n : Int) (l : Int) (r : Int) (n2 : Int) (t : T_event_halves) (n3 : Int) (t2 : T_event_halves) : evFn Try.prog cfg (Runs Try.prog) (LRuns Try.prog (lEnv Try.prog cfg 83 0).nt 0) 83 [(.one (.pv (.int .u64 n))), (.agg [(.pv (.int .u64 l)), (.pv (T_event_halves.pv T_event_halves.nil))]), (.agg [(.pv (.int .u64 r)), (.pv (T_event_halves.pv (T_event_halves.mk n2 t n3 t2)))])] [] []
    [.br true, .br false, .br false] =
  some (([(.agg [(.pv (.int .u64 (iadd .u64 n (if (r : Int) < l then r else l)))), (.pv (.imm [(.int .u64 (isub .u64 l (if (r : Int) < l then r else l))), (T_event_halves.pv T_event_halves.nil), (.int .u64 (isub .u64 r (if (r : Int) < l then r else l))), (T_event_halves.pv (T_event_halves.mk n2 t n3 t2))] 0))])], [], []), obs [
    true = true,
    false = false,
    false = false]) := by kernel_rfl
theorem event_node_p3 (n : Int) (l : Int) (r : Int) (r2 : T_event_halves) (n2 : Int) (t : T_event_halves) (n3 : Int) (t2 : T_event_halves) : evFn Try.prog cfg (Runs Try.prog) (LRuns Try.prog (lEnv Try.prog cfg 83 0).nt 0) 83 [(.one (.pv (.int .u64 n))), (.agg [(.pv (.int .u64 l)), (.pv (T_event_halves.pv (T_event_halves.mk n2 t n3 t2)))]), (.agg [(.pv (.int .u64 r)), (.pv (T_event_halves.pv r2))])] [] []
    [.br false, .br false, .br false] =
  some (([(.agg [(.pv (.int .u64 (iadd .u64 n (if (r : Int) < l then r else l)))), (.pv (.imm [(.int .u64 (isub .u64 l (if (r : Int) < l then r else l))), (T_event_halves.pv (T_event_halves.mk n2 t n3 t2)), (.int .u64 (isub .u64 r (if (r : Int) < l then r else l))), (T_event_halves.pv r2)] 0))])], [], []), obs [
    false = false,
    false = false,
    false = false]) := by kernel_rfl
noncomputable def event_node (n : Int) (l : Int) (l2 : T_event_halves) (r : Int) (r2 : T_event_halves) : Option (Int × T_event_halves) :=
  match l2 with
  | .nil =>
    match r2 with
    | .nil =>
      bif (decide ((l : Int) = r)) then
        some ((iadd .u64 n l), T_event_halves.nil)
      else
        some ((iadd .u64 n (if (r : Int) < l then r else l)), (T_event_halves.mk (isub .u64 l (if (r : Int) < l then r else l)) l2 (isub .u64 r (if (r : Int) < l then r else l)) r2))
    | .mk n2 t n3 t2 =>
      some ((iadd .u64 n (if (r : Int) < l then r else l)), (T_event_halves.mk (isub .u64 l (if (r : Int) < l then r else l)) l2 (isub .u64 r (if (r : Int) < l then r else l)) r2))
  | .mk n2 t n3 t2 =>
    some ((iadd .u64 n (if (r : Int) < l then r else l)), (T_event_halves.mk (isub .u64 l (if (r : Int) < l then r else l)) l2 (isub .u64 r (if (r : Int) < l then r else l)) r2))
theorem event_node_runs (n : Int) (l : Int) (l2 : T_event_halves) (r : Int) (r2 : T_event_halves) (r_ : Int × T_event_halves) (h : event_node n l l2 r r2 = some r_) : Runs Try.prog 83 [(.one (.pv (.int .u64 n))), (.agg [(.pv (.int .u64 l)), (.pv (T_event_halves.pv l2))]), (.agg [(.pv (.int .u64 r)), (.pv (T_event_halves.pv r2))])] [] [] (event_node_out n l l2 r r2 r_) := by
  unfold event_node at h
  cases l2 with
  | nil =>
    cases r2 with
    | nil =>
      rcases cond_of h with ⟨h1, h⟩ | ⟨h1, h⟩
      · have h := some_of h
        subst h
        have e_ := event_node_p0 n l r
        have e_ := runs_of (objs := []) (Says.of e_ ⟨rfl, rfl, h1, trivial⟩)
        exact e_.out ⟨⟨.eq rfl, .eq rfl, trivial⟩, trivial⟩ trivial trivial rfl
      · have h := some_of h
        subst h
        have e_ := event_node_p1 n l r
        have e_ := runs_of (objs := []) (Says.of e_ ⟨rfl, rfl, h1, trivial⟩)
        exact e_.out ⟨⟨.eq rfl, .eq rfl, trivial⟩, trivial⟩ trivial trivial rfl
    | mk n2 t n3 t2 =>
      have h := some_of h
      subst h
      have e_ := event_node_p2 n l r n2 t n3 t2
      have e_ := runs_of (objs := []) (Says.of e_ ⟨rfl, rfl, rfl, trivial⟩)
      exact e_.out ⟨⟨.eq rfl, .eq rfl, trivial⟩, trivial⟩ trivial trivial rfl
  | mk n2 t n3 t2 =>
    have h := some_of h
    subst h
    have e_ := event_node_p3 n l r r2 n2 t n3 t2
    have e_ := runs_of (objs := []) (Says.of e_ ⟨rfl, rfl, rfl, trivial⟩)
    exact e_.out ⟨⟨.eq rfl, .eq rfl, trivial⟩, trivial⟩ trivial trivial rfl
/-! ### event_Event_right_out -/
def event_Event_right_out (e : Int) (e2 : T_event_halves) : Int → Res
  | r1 => ([(.one (.pv (.int .i64 r1)))], [], [])
/-! ### event_Event_Depth_out -/
def event_Event_Depth_out (e : Int) (e2 : T_event_halves) : Int → Res
  | r1 => ([(.one (.pv (.int .i64 r1)))], [], [])
/-! ### event_Event_Depth -/
theorem event_Event_Depth_p0 (e : Int) : evFn Try.prog cfg (Runs Try.prog) (LRuns Try.prog (lEnv Try.prog cfg 86 0).nt 0) 86 [(.agg [(.pv (.int .u64 e)), (.pv (T_event_halves.pv T_event_halves.nil))])] [] []
    [.br true] =
  some (([(.one (.pv (.int .i64 0)))], [], []), obs [
    true = true]) := by kernel_rfl
theorem event_Event_Depth_p1 (e : Int) (n : Int) (t : T_event_halves) (n2 : Int) (t2 : T_event_halves) (n3 : Int) (n4 : Int) : both (evFn Try.prog cfg (Runs Try.prog) (LRuns Try.prog (lEnv Try.prog cfg 86 0).nt 0) 86 [(.agg [(.pv (.int .u64 e)), (.pv (T_event_halves.pv (T_event_halves.mk n t n2 t2)))])] [] []
    [.br false, .res ([(.one (.pv (.int .i64 n3)))], [], []), .res ([(.one (.pv (.int .i64 n3)))], [], []), .res ([(.one (.pv (.int .i64 n4)))], [], [])]) (([(.one (.pv (.int .i64 (iadd .i64 1 (if (n3 : Int) < n4 then n4 else n3)))))], [], [])) [
    false = false,
    Runs Try.prog 86 [(.agg [(.pv (.int .u64 n)), (.pv (T_event_halves.pv t))])] [] [] ([(.one (.pv (.int .i64 n3)))], [], []),
    Runs Try.prog 86 [(.agg [(.pv (.int .u64 n)), (.pv (T_event_halves.pv t))])] [] [] ([(.one (.pv (.int .i64 n3)))], [], []),
    Runs Try.prog 86 [(.agg [(.pv (.int .u64 n2)), (.pv (T_event_halves.pv t2))])] [] [] ([(.one (.pv (.int .i64 n4)))], [], [])] := ⟨by kernel_rfl, by kernel_rfl⟩
noncomputable def event_Event_Depth_b (rec_event_Event_Depth : Int → T_event_halves → Option (Int)) (e : Int) (e2 : T_event_halves) : Option (Int) :=
  match e2 with
  | .nil =>
    some 0
  | .mk n t n2 t2 =>
    (rec_event_Event_Depth n t).bind fun n3 =>
    (rec_event_Event_Depth n2 t2).bind fun n4 =>
    some (iadd .i64 1 (if (n3 : Int) < n4 then n4 else n3))
theorem event_Event_Depth_b_runs (rec_event_Event_Depth : Int → T_event_halves → Option (Int)) (hrec_event_Event_Depth : ∀ e e2 r_, rec_event_Event_Depth e e2 = some r_ → Runs Try.prog 86 [(.agg [(.pv (.int .u64 e)), (.pv (T_event_halves.pv e2))])] [] [] (event_Event_Depth_out e e2 r_)) (e : Int) (e2 : T_event_halves) (r_ : Int) (h : event_Event_Depth_b rec_event_Event_Depth e e2 = some r_) : Runs Try.prog 86 [(.agg [(.pv (.int .u64 e)), (.pv (T_event_halves.pv e2))])] [] [] (event_Event_Depth_out e e2 r_) := by
  unfold event_Event_Depth_b at h
  cases e2 with
  | nil =>
    have h := some_of h
    subst h
    have e_ := event_Event_Depth_p0 e
    have e_ := runs_of (objs := []) (Says.of e_ ⟨rfl, trivial⟩)
    exact e_
  | mk n t n2 t2 =>
    obtain ⟨n3, h1, h⟩ := bind_of h
    obtain ⟨n4, h2, h⟩ := bind_of h
    have h := some_of h
    subst h
    have e_ := event_Event_Depth_p1 e n t n2 t2 n3 n4
    have e_ := runs_of (objs := []) (Says.of2 e_ ⟨rfl, (hrec_event_Event_Depth n t _ h1), (hrec_event_Event_Depth n t _ h1), (hrec_event_Event_Depth n2 t2 _ h2), trivial⟩)
    exact e_
noncomputable def event_Event_Depth : Nat → Int → T_event_halves → Option (Int)
  | 0, _, _ => none
  | N + 1, e, e2 => event_Event_Depth_b (event_Event_Depth N) e e2
theorem event_Event_Depth_runs : ∀ (N : Nat) (e : Int) (e2 : T_event_halves) (r_ : Int), event_Event_Depth N e e2 = some r_ → Runs Try.prog 86 [(.agg [(.pv (.int .u64 e)), (.pv (T_event_halves.pv e2))])] [] [] (event_Event_Depth_out e e2 r_)
  | 0, _, _, _, h => by cases h
  | N + 1, e, e2, r_, h => event_Event_Depth_b_runs (event_Event_Depth N) (event_Event_Depth_runs N) e e2 r_ h
/-! ### event_Event_Max_out -/
def event_Event_Max_out (e : Int) (e2 : T_event_halves) : Int → Res
  | r1 => ([(.one (.pv (.int .u64 r1)))], [], [])
/-! ### event_Event_Max -/
theorem event_Event_Max_p0 (e : Int) : evFn Try.prog cfg (Runs Try.prog) (LRuns Try.prog (lEnv Try.prog cfg 87 0).nt 0) 87 [(.agg [(.pv (.int .u64 e)), (.pv (T_event_halves.pv T_event_halves.nil))])] [] []
    [.br true] =
  some (([(.one (.pv (.int .u64 e)))], [], []), obs [
    true = true]) := by kernel_rfl
theorem event_Event_Max_p1 (e : Int) (n : Int) (t : T_event_halves) (n2 : Int) (t2 : T_event_halves) (n3 : Int) (n4 : Int) : both (evFn Try.prog cfg (Runs Try.prog) (LRuns Try.prog (lEnv Try.prog cfg 87 0).nt 0) 87 [(.agg [(.pv (.int .u64 e)), (.pv (T_event_halves.pv (T_event_halves.mk n t n2 t2)))])] [] []
    [.br false, .res ([(.one (.pv (.int .u64 n3)))], [], []), .res ([(.one (.pv (.int .u64 n3)))], [], []), .res ([(.one (.pv (.int .u64 n3)))], [], []), .res ([(.one (.pv (.int .u64 n4)))], [], []), .res ([(.one (.pv (.int .u64 n3)))], [], []), .res ([(.one (.pv (.int .u64 n4)))], [], [])]) (([(.one (.pv (.int .u64 (iadd .u64 e (if (n3 : Int) < n4 then n4 else n3)))))], [], [])) [
    false = false,
    Runs Try.prog 87 [(.agg [(.pv (.int .u64 n)), (.pv (T_event_halves.pv t))])] [] [] ([(.one (.pv (.int .u64 n3)))], [], []),
    Runs Try.prog 87 [(.agg [(.pv (.int .u64 n)), (.pv (T_event_halves.pv t))])] [] [] ([(.one (.pv (.int .u64 n3)))], [], []),
    Runs Try.prog 87 [(.agg [(.pv (.int .u64 n)), (.pv (T_event_halves.pv t))])] [] [] ([(.one (.pv (.int .u64 n3)))], [], []),
    Runs Try.prog 87 [(.agg [(.pv (.int .u64 n2)), (.pv (T_event_halves.pv t2))])] [] [] ([(.one (.pv (.int .u64 n4)))], [], []),
    Runs Try.prog 87 [(.agg [(.pv (.int .u64 n)), (.pv (T_event_halves.pv t))])] [] [] ([(.one (.pv (.int .u64 n3)))], [], []),
    Runs Try.prog 87 [(.agg [(.pv (.int .u64 n2)), (.pv (T_event_halves.pv t2))])] [] [] ([(.one (.pv (.int .u64 n4)))], [], [])] := ⟨by kernel_rfl, by kernel_rfl⟩
noncomputable def event_Event_Max_b (rec_event_Event_Max : Int → T_event_halves → Option (Int)) (e : Int) (e2 : T_event_halves) : Option (Int) :=
  match e2 with
  | .nil =>
    some e
  | .mk n t n2 t2 =>
    (rec_event_Event_Max n t).bind fun n3 =>
    (rec_event_Event_Max n2 t2).bind fun n4 =>
    some (iadd .u64 e (if (n3 : Int) < n4 then n4 else n3))
theorem event_Event_Max_b_runs (rec_event_Event_Max : Int → T_event_halves → Option (Int)) (hrec_event_Event_Max : ∀ e e2 r_, rec_event_Event_Max e e2 = some r_ → Runs Try.prog 87 [(.agg [(.pv (.int .u64 e)), (.pv (T_event_halves.pv e2))])] [] [] (event_Event_Max_out e e2 r_)) (e : Int) (e2 : T_event_halves) (r_ : Int) (h : event_Event_Max_b rec_event_Event_Max e e2 = some r_) : Runs Try.prog 87 [(.agg [(.pv (.int .u64 e)), (.pv (T_event_halves.pv e2))])] [] [] (event_Event_Max_out e e2 r_) := by
  unfold event_Event_Max_b at h
  cases e2 with
  | nil =>
    have h := some_of h
    subst h
    have e_ := event_Event_Max_p0 e
    have e_ := runs_of (objs := []) (Says.of e_ ⟨rfl, trivial⟩)
    exact e_
  | mk n t n2 t2 =>
    obtain ⟨n3, h1, h⟩ := bind_of h
    obtain ⟨n4, h2, h⟩ := bind_of h
    have h := some_of h
    subst h
    have e_ := event_Event_Max_p1 e n t n2 t2 n3 n4
    have e_ := runs_of (objs := []) (Says.of2 e_ ⟨rfl, (hrec_event_Event_Max n t _ h1), (hrec_event_Event_Max n t _ h1), (hrec_event_Event_Max n t _ h1), (hrec_event_Event_Max n2 t2 _ h2), (hrec_event_Event_Max n t _ h1), (hrec_event_Event_Max n2 t2 _ h2), trivial⟩)
    exact e_
noncomputable def event_Event_Max : Nat → Int → T_event_halves → Option (Int)
  | 0, _, _ => none
  | N + 1, e, e2 => event_Event_Max_b (event_Event_Max N) e e2
theorem event_Event_Max_runs : ∀ (N : Nat) (e : Int) (e2 : T_event_halves) (r_ : Int), event_Event_Max N e e2 = some r_ → Runs Try.prog 87 [(.agg [(.pv (.int .u64 e)), (.pv (T_event_halves.pv e2))])] [] [] (event_Event_Max_out e e2 r_)
  | 0, _, _, _, h => by cases h
  | N + 1, e, e2, r_, h => event_Event_Max_b_runs (event_Event_Max N) (event_Event_Max_runs N) e e2 r_ h
/-! ### event_Event_right -/
theorem event_Event_right_p0 (e : Int) (e2 : T_event_halves) (n : Int) : evFn Try.prog cfg (Runs Try.prog) (LRuns Try.prog (lEnv Try.prog cfg 84 0).nt 0) 84 [(.agg [(.pv (.int .u64 e)), (.pv (T_event_halves.pv e2))])] [] []
    [.res ([(.one (.pv (.int .i64 n)))], [], []), .br true] =
  some (([(.one (.pv (.int .i64 3)))], [], []), obs [
    Runs Try.prog 86 [(.agg [(.pv (.int .u64 e)), (.pv (T_event_halves.pv e2))])] [] [] ([(.one (.pv (.int .i64 n)))], [], []),
    (decide ((16 : Int) < n)) = true]) := by kernel_rfl
theorem event_Event_right_p1 (e : Int) (e2 : T_event_halves) (n : Int) (n2 : Int) : evFn Try.prog cfg (Runs Try.prog) (LRuns Try.prog (lEnv Try.prog cfg 84 0).nt 0) 84 [(.agg [(.pv (.int .u64 e)), (.pv (T_event_halves.pv e2))])] [] []
    [.res ([(.one (.pv (.int .i64 n)))], [], []), .br false, .res ([(.one (.pv (.int .u64 n2)))], [], []), .br true] =
  some (([(.one (.pv (.int .i64 4)))], [], []), obs [
    Runs Try.prog 86 [(.agg [(.pv (.int .u64 e)), (.pv (T_event_halves.pv e2))])] [] [] ([(.one (.pv (.int .i64 n)))], [], []),
    (decide ((16 : Int) < n)) = false,
    Runs Try.prog 87 [(.agg [(.pv (.int .u64 e)), (.pv (T_event_halves.pv e2))])] [] [] ([(.one (.pv (.int .u64 n2)))], [], []),
    (decide ((1048576 : Int) < n2)) = true]) := by kernel_rfl
theorem event_Event_right_p2 (e : Int) (e2 : T_event_halves) (n : Int) (n2 : Int) : evFn Try.prog cfg (Runs Try.prog) (LRuns Try.prog (lEnv Try.prog cfg 84 0).nt 0) 84 [(.agg [(.pv (.int .u64 e)), (.pv (T_event_halves.pv e2))])] [] []
    [.res ([(.one (.pv (.int .i64 n)))], [], []), .br false, .res ([(.one (.pv (.int .u64 n2)))], [], []), .br false] =
  some (([(.one (.pv (.int .i64 0)))], [], []), obs [
    Runs Try.prog 86 [(.agg [(.pv (.int .u64 e)), (.pv (T_event_halves.pv e2))])] [] [] ([(.one (.pv (.int .i64 n)))], [], []),
    (decide ((16 : Int) < n)) = false,
    Runs Try.prog 87 [(.agg [(.pv (.int .u64 e)), (.pv (T_event_halves.pv e2))])] [] [] ([(.one (.pv (.int .u64 n2)))], [], []),
    (decide ((1048576 : Int) < n2)) = false]) := by kernel_rfl
noncomputable def event_Event_right (N : Nat) (e : Int) (e2 : T_event_halves) : Option (Int) :=
  (event_Event_Depth N e e2).bind fun n =>
  bif (decide ((16 : Int) < n)) then
    some 3
  else
    (event_Event_Max N e e2).bind fun n2 =>
    bif (decide ((1048576 : Int) < n2)) then
      some 4
    else
      some 0
theorem event_Event_right_runs (N : Nat) (e : Int) (e2 : T_event_halves) (r_ : Int) (h : event_Event_right N e e2 = some r_) : Runs Try.prog 84 [(.agg [(.pv (.int .u64 e)), (.pv (T_event_halves.pv e2))])] [] [] (event_Event_right_out e e2 r_) := by
  unfold event_Event_right at h
  obtain ⟨n, h1, h⟩ := bind_of h
  rcases cond_of h with ⟨h2, h⟩ | ⟨h2, h⟩
  · have h := some_of h
    subst h
    have e_ := event_Event_right_p0 e e2 n
    have e_ := runs_of (objs := []) (Says.of e_ ⟨(event_Event_Depth_runs N e e2 _ h1), h2, trivial⟩)
    exact e_
  · obtain ⟨n2, h3, h⟩ := bind_of h
    rcases cond_of h with ⟨h4, h⟩ | ⟨h4, h⟩
    · have h := some_of h
      subst h
      have e_ := event_Event_right_p1 e e2 n n2
      have e_ := runs_of (objs := []) (Says.of e_ ⟨(event_Event_Depth_runs N e e2 _ h1), h2, (event_Event_Max_runs N e e2 _ h3), h4, trivial⟩)
      exact e_
    · have h := some_of h
      subst h
      have e_ := event_Event_right_p2 e e2 n n2
      have e_ := runs_of (objs := []) (Says.of e_ ⟨(event_Event_Depth_runs N e e2 _ h1), h2, (event_Event_Max_runs N e e2 _ h3), h4, trivial⟩)
      exact e_
/-! ### event_Node -/
theorem event_Node_p0 (n : Int) (l : Int) (l2 : T_event_halves) (r : Int) (r2 : T_event_halves) (n2 : Int) (t : T_event_halves) (n3 : Int) : evFn Try.prog cfg (Runs Try.prog) (LRuns Try.prog (lEnv Try.prog cfg 70 0).nt 0) 70 [(.one (.pv (.int .u64 n))), (.agg [(.pv (.int .u64 l)), (.pv (T_event_halves.pv l2))]), (.agg [(.pv (.int .u64 r)), (.pv (T_event_halves.pv r2))])] [] []
    [.res ([(.agg [(.pv (.int .u64 n2)), (.pv (T_event_halves.pv t))])], [], []), .res ([(.one (.pv (.int .i64 n3)))], [], []), .br false] =
  some (([(.agg [(.pv (.int .u64 n2)), (.pv (T_event_halves.pv t))]), (.one (.pv (.int .i64 0)))], [], []), obs [
    Runs Try.prog 83 [(.one (.pv (.int .u64 (if (2097152 : Int) < n then 2097152 else n)))), (.agg [(.pv (.int .u64 l)), (.pv (T_event_halves.pv l2))]), (.agg [(.pv (.int .u64 r)), (.pv (T_event_halves.pv r2))])] [] [] ([(.agg [(.pv (.int .u64 n2)), (.pv (T_event_halves.pv t))])], [], []),
    Runs Try.prog 84 [(.agg [(.pv (.int .u64 n2)), (.pv (T_event_halves.pv t))])] [] [] ([(.one (.pv (.int .i64 n3)))], [], []),
    (!(decide ((n3 : Int) = 0))) = false]) := by kernel_rfl
theorem event_Node_p1 (n : Int) (l : Int) (l2 : T_event_halves) (r : Int) (r2 : T_event_halves) (n2 : Int) (t : T_event_halves) (n3 : Int) : evFn Try.prog cfg (Runs Try.prog) (LRuns Try.prog (lEnv Try.prog cfg 70 0).nt 0) 70 [(.one (.pv (.int .u64 n))), (.agg [(.pv (.int .u64 l)), (.pv (T_event_halves.pv l2))]), (.agg [(.pv (.int .u64 r)), (.pv (T_event_halves.pv r2))])] [] []
    [.res ([(.agg [(.pv (.int .u64 n2)), (.pv (T_event_halves.pv t))])], [], []), .res ([(.one (.pv (.int .i64 n3)))], [], []), .br true] =
  some (([(.agg [(.pv (.int .u64 0)), (.pv .nilp)]), (.one (.pv (.int .i64 n3)))], [], []), obs [
    Runs Try.prog 83 [(.one (.pv (.int .u64 (if (2097152 : Int) < n then 2097152 else n)))), (.agg [(.pv (.int .u64 l)), (.pv (T_event_halves.pv l2))]), (.agg [(.pv (.int .u64 r)), (.pv (T_event_halves.pv r2))])] [] [] ([(.agg [(.pv (.int .u64 n2)), (.pv (T_event_halves.pv t))])], [], []),
    Runs Try.prog 84 [(.agg [(.pv (.int .u64 n2)), (.pv (T_event_halves.pv t))])] [] [] ([(.one (.pv (.int .i64 n3)))], [], []),
    (!(decide ((n3 : Int) = 0))) = true]) := by kernel_rfl
noncomputable def event_Node (N : Nat) (n : Int) (l : Int) (l2 : T_event_halves) (r : Int) (r2 : T_event_halves) : Option (Int × T_event_halves × Int) :=
  (event_node (if (2097152 : Int) < n then 2097152 else n) l l2 r r2).bind fun (n2, t) =>
  (event_Event_right N n2 t).bind fun n3 =>
  bif (decide ((n3 : Int) = 0)) then
    some (n2, t, 0)
  else
    some (0, T_event_halves.nil, n3)
theorem event_Node_runs (N : Nat) (n : Int) (l : Int) (l2 : T_event_halves) (r : Int) (r2 : T_event_halves) (r_ : Int × T_event_halves × Int) (h : event_Node N n l l2 r r2 = some r_) : Runs Try.prog 70 [(.one (.pv (.int .u64 n))), (.agg [(.pv (.int .u64 l)), (.pv (T_event_halves.pv l2))]), (.agg [(.pv (.int .u64 r)), (.pv (T_event_halves.pv r2))])] [] [] (event_Node_out n l l2 r r2 r_) := by
  unfold event_Node at h
  obtain ⟨⟨n2, t⟩, h1, h⟩ := bind_of h
  obtain ⟨n3, h2, h⟩ := bind_of h
  rcases cond_of h with ⟨h3, h⟩ | ⟨h3, h⟩
  · have h := some_of h
    subst h
    have e_ := event_Node_p0 n l l2 r r2 n2 t n3
    have e_ := runs_of (objs := []) (Says.of e_ ⟨(event_node_runs (if (2097152 : Int) < n then 2097152 else n) l l2 r r2 _ h1), (event_Event_right_runs N n2 t _ h2), (not_of2 h3), trivial⟩)
    exact e_
  · have h := some_of h
    subst h
    have e_ := event_Node_p1 n l l2 r r2 n2 t n3
    have e_ := runs_of (objs := []) (Says.of e_ ⟨(event_node_runs (if (2097152 : Int) < n then 2097152 else n) l l2 r r2 _ h1), (event_Event_right_runs N n2 t _ h2), (not_of h3), trivial⟩)
    exact e_.out ⟨⟨.eq rfl, .eq rfl, trivial⟩, .eq rfl, trivial⟩ trivial trivial rfl
/-! ### kinfolklaw07_tree -/
theorem kinfolklaw07_tree_p1 (n : Int) (t2 : T_kinfolkref02_Event) (n2 : Int) (n3 : Int) : evFn Try.prog cfg (Runs Try.prog) (LRuns Try.prog (lEnv Try.prog cfg 36 0).nt 0) 36 [(.one (.pv (T_kinfolkref02_Event.pv (T_kinfolkref02_Event.mk n T_kinfolkref02_Event.nil t2))))] [] []
    [.br true, .res ([(.agg [(.pv (.int .u64 n2)), (.pv (T_event_halves.pv T_event_halves.nil))]), (.one (.pv (.int .i64 n3)))], [], [])] =
  some (([(.agg [(.pv (.int .u64 n2)), (.pv (T_event_halves.pv T_event_halves.nil))])], [], []), obs [
    true = true,
    Runs Try.prog 69 [(.one (.pv (.int .u64 n)))] [] [] ([(.agg [(.pv (.int .u64 n2)), (.pv (T_event_halves.pv T_event_halves.nil))]), (.one (.pv (.int .i64 n3)))], [], [])]) := by kernel_rfl
theorem kinfolklaw07_tree_p2 (n : Int) (t2 : T_kinfolkref02_Event) (n2 : Int) (t3 : T_kinfolkref02_Event) (t4 : T_kinfolkref02_Event) (n3 : Int) (t5 : T_event_halves) (n4 : Int) (t6 : T_event_halves) (n5 : Int) (t7 : T_event_halves) (n6 : Int) : both (evFn Try.prog cfg (Runs Try.prog) (LRuns Try.prog (lEnv Try.prog cfg 36 0).nt 0) 36 [(.one (.pv (T_kinfolkref02_Event.pv (T_kinfolkref02_Event.mk n (T_kinfolkref02_Event.mk n2 t3 t4) t2))))] [] []
    [.br false, .res ([(.agg [(.pv (.int .u64 n3)), (.pv (T_event_halves.pv t5))])], [], []), .res ([(.agg [(.pv (.int .u64 n3)), (.pv (T_event_halves.pv t5))])], [], []), .res ([(.agg [(.pv (.int .u64 n4)), (.pv (T_event_halves.pv t6))])], [], []), .res ([(.agg [(.pv (.int .u64 n5)), (.pv (T_event_halves.pv t7))]), (.one (.pv (.int .i64 n6)))], [], []), .res ([(.agg [(.pv (.int .u64 n4)), (.pv (T_event_halves.pv t6))])], [], []), .res ([(.agg [(.pv (.int .u64 n5)), (.pv (T_event_halves.pv t7))]), (.one (.pv (.int .i64 n6)))], [], [])]) (([(.agg [(.pv (.int .u64 n5)), (.pv (T_event_halves.pv t7))])], [], [])) [
    false = false,
    Runs Try.prog 36 [(.one (.pv (T_kinfolkref02_Event.pv (T_kinfolkref02_Event.mk n2 t3 t4))))] [] [] ([(.agg [(.pv (.int .u64 n3)), (.pv (T_event_halves.pv t5))])], [], []),
    Runs Try.prog 36 [(.one (.pv (T_kinfolkref02_Event.pv (T_kinfolkref02_Event.mk n2 t3 t4))))] [] [] ([(.agg [(.pv (.int .u64 n3)), (.pv (T_event_halves.pv t5))])], [], []),
    Runs Try.prog 36 [(.one (.pv (T_kinfolkref02_Event.pv t2)))] [] [] ([(.agg [(.pv (.int .u64 n4)), (.pv (T_event_halves.pv t6))])], [], []),
    Runs Try.prog 70 [(.one (.pv (.int .u64 n))), (.agg [(.pv (.int .u64 n3)), (.pv (T_event_halves.pv t5))]), (.agg [(.pv (.int .u64 n4)), (.pv (T_event_halves.pv t6))])] [] [] ([(.agg [(.pv (.int .u64 n5)), (.pv (T_event_halves.pv t7))]), (.one (.pv (.int .i64 n6)))], [], []),
    Runs Try.prog 36 [(.one (.pv (T_kinfolkref02_Event.pv t2)))] [] [] ([(.agg [(.pv (.int .u64 n4)), (.pv (T_event_halves.pv t6))])], [], []),
    Runs Try.prog 70 [(.one (.pv (.int .u64 n))), (.agg [(.pv (.int .u64 n3)), (.pv (T_event_halves.pv t5))]), (.agg [(.pv (.int .u64 n4)), (.pv (T_event_halves.pv t6))])] [] [] ([(.agg [(.pv (.int .u64 n5)), (.pv (T_event_halves.pv t7))]), (.one (.pv (.int .i64 n6)))], [], [])] := ⟨by kernel_rfl, by kernel_rfl⟩
noncomputable def kinfolklaw07_tree_b (N : Nat) (rec_kinfolklaw07_tree : T_kinfolkref02_Event → Option (Int × T_event_halves)) (x : T_kinfolkref02_Event) : Option (Int × T_event_halves) :=
  match x with
  | .nil =>
    none
  | .mk n t t2 =>
    match t with
    | .nil =>
      (event_Leaf n).bind fun (n2, n3) =>
      some (n2, T_event_halves.nil)
    | .mk n2 t3 t4 =>
      (rec_kinfolklaw07_tree t).bind fun (n3, t5) =>
      (rec_kinfolklaw07_tree t2).bind fun (n4, t6) =>
      (event_Node N n n3 t5 n4 t6).bind fun (n5, t7, n6) =>
      some (n5, t7)
theorem kinfolklaw07_tree_b_runs (N : Nat) (rec_kinfolklaw07_tree : T_kinfolkref02_Event → Option (Int × T_event_halves)) (hrec_kinfolklaw07_tree : ∀ x r_, rec_kinfolklaw07_tree x = some r_ → Runs Try.prog 36 [(.one (.pv (T_kinfolkref02_Event.pv x)))] [] [] (kinfolklaw07_tree_out x r_)) (x : T_kinfolkref02_Event) (r_ : Int × T_event_halves) (h : kinfolklaw07_tree_b N rec_kinfolklaw07_tree x = some r_) : Runs Try.prog 36 [(.one (.pv (T_kinfolkref02_Event.pv x)))] [] [] (kinfolklaw07_tree_out x r_) := by
  unfold kinfolklaw07_tree_b at h
  cases x with
  | nil =>
    cases h
  | mk n t t2 =>
    cases t with
    | nil =>
      obtain ⟨⟨n2, n3⟩, h1, h⟩ := bind_of h
      have h := some_of h
      subst h
      have e_ := kinfolklaw07_tree_p1 n t2 n2 n3
      have e_ := runs_of (objs := []) (Says.of e_ ⟨rfl, (event_Leaf_runs n _ h1), trivial⟩)
      exact e_
    | mk n2 t3 t4 =>
      obtain ⟨⟨n3, t5⟩, h1, h⟩ := bind_of h
      obtain ⟨⟨n4, t6⟩, h2, h⟩ := bind_of h
      obtain ⟨⟨n5, t7, n6⟩, h3, h⟩ := bind_of h
      have h := some_of h
      subst h
      have e_ := kinfolklaw07_tree_p2 n t2 n2 t3 t4 n3 t5 n4 t6 n5 t7 n6
      have e_ := runs_of (objs := []) (Says.of2 e_ ⟨rfl, (hrec_kinfolklaw07_tree (T_kinfolkref02_Event.mk n2 t3 t4) _ h1), (hrec_kinfolklaw07_tree (T_kinfolkref02_Event.mk n2 t3 t4) _ h1), (hrec_kinfolklaw07_tree t2 _ h2), (event_Node_runs N n n3 t5 n4 t6 _ h3), (hrec_kinfolklaw07_tree t2 _ h2), (event_Node_runs N n n3 t5 n4 t6 _ h3), trivial⟩)
      exact e_
noncomputable def kinfolklaw07_tree : Nat → T_kinfolkref02_Event → Option (Int × T_event_halves)
  | 0, _ => none
  | N + 1, x => kinfolklaw07_tree_b N (kinfolklaw07_tree N) x
theorem kinfolklaw07_tree_runs : ∀ (N : Nat) (x : T_kinfolkref02_Event) (r_ : Int × T_event_halves), kinfolklaw07_tree N x = some r_ → Runs Try.prog 36 [(.one (.pv (T_kinfolkref02_Event.pv x)))] [] [] (kinfolklaw07_tree_out x r_)
  | 0, _, _, h => by cases h
  | N + 1, x, r_, h => kinfolklaw07_tree_b_runs N (kinfolklaw07_tree N) (kinfolklaw07_tree_runs N) x r_ h
/-! ### kinfolklaw07_made -/
theorem kinfolklaw07_made_p0 (p : List Int) (q : List Int) (t : T_kinfolkref01_ID) (l_ : List Int) (t2 : T_kinfolkref02_Event) (l_2 : List Int) (b : Bool) (t3 : T_id_halves) (n : Int) (t4 : T_event_halves) : evFn Try.prog cfg (Runs Try.prog) (LRuns Try.prog (lEnv Try.prog cfg 7 0).nt 0) 7 [(.one (.pv (.ints .u8 p false))), (.one (.pv (.ints .u8 q false)))] [] []
    [.res ([(.one (.pv (T_kinfolkref01_ID.pv t))), (.one (.pv (.ints .u8 l_ false)))], [], []), .res ([(.one (.pv (T_kinfolkref02_Event.pv t2))), (.one (.pv (.ints .u8 l_2 false)))], [], []), .res ([(.agg [(.pv (.bool b)), (.pv (T_id_halves.pv t3))])], [], []), .res ([(.agg [(.pv (.int .u64 n)), (.pv (T_event_halves.pv t4))])], [], [])] =
  some (([(.agg [(.pv (.bool b)), (.pv (T_id_halves.pv t3)), (.pv (.int .u64 n)), (.pv (T_event_halves.pv t4))]), (.agg [(.pv (T_kinfolkref01_ID.pv t)), (.pv (T_kinfolkref02_Event.pv t2))])], [], []), obs [
    (decide ((0 : Int) ≤ 0) && decide ((0 : Int) ≤ (if (60 : Int) < ((p).length : Int) then 60 else ((p).length : Int))) && decide (((if (60 : Int) < ((p).length : Int) then 60 else ((p).length : Int)) : Int) ≤ ((p).length : Int)) && decide (((if (60 : Int) < ((p).length : Int) then 60 else ((p).length : Int)) : Int) = (if (60 : Int) < ((p).length : Int) then 60 else ((p).length : Int)))) = true,
    Runs Try.prog 33 [(.one (.pv (.ints .u8 (List.take ((if (60 : Int) < ((p).length : Int) then 60 else ((p).length : Int)) - 0).toNat p) false))), (.one (.pv (.int .i64 7)))] [] [] ([(.one (.pv (T_kinfolkref01_ID.pv t))), (.one (.pv (.ints .u8 l_ false)))], [], []),
    (decide ((0 : Int) ≤ 0) && decide ((0 : Int) ≤ (if (60 : Int) < ((q).length : Int) then 60 else ((q).length : Int))) && decide (((if (60 : Int) < ((q).length : Int) then 60 else ((q).length : Int)) : Int) ≤ ((q).length : Int)) && decide (((if (60 : Int) < ((q).length : Int) then 60 else ((q).length : Int)) : Int) = (if (60 : Int) < ((q).length : Int) then 60 else ((q).length : Int)))) = true,
    Runs Try.prog 34 [(.one (.pv (.ints .u8 (List.take ((if (60 : Int) < ((q).length : Int) then 60 else ((q).length : Int)) - 0).toNat q) false))), (.one (.pv (.int .i64 7)))] [] [] ([(.one (.pv (T_kinfolkref02_Event.pv t2))), (.one (.pv (.ints .u8 l_2 false)))], [], []),
    Runs Try.prog 35 [(.one (.pv (T_kinfolkref01_ID.pv t)))] [] [] ([(.agg [(.pv (.bool b)), (.pv (T_id_halves.pv t3))])], [], []),
    Runs Try.prog 36 [(.one (.pv (T_kinfolkref02_Event.pv t2)))] [] [] ([(.agg [(.pv (.int .u64 n)), (.pv (T_event_halves.pv t4))])], [], [])]) := by kernel_rfl
noncomputable def kinfolklaw07_made (N : Nat) (p : List Int) (q : List Int) : Option (Bool × T_id_halves × Int × T_event_halves × T_kinfolkref01_ID × T_kinfolkref02_Event) :=
  bif decide ((0 : Int) ≤ 0) && decide ((0 : Int) ≤ (if (60 : Int) < ((p).length : Int) then 60 else ((p).length : Int))) && decide (((if (60 : Int) < ((p).length : Int) then 60 else ((p).length : Int)) : Int) ≤ ((p).length : Int)) && decide (((if (60 : Int) < ((p).length : Int) then 60 else ((p).length : Int)) : Int) = (if (60 : Int) < ((p).length : Int) then 60 else ((p).length : Int))) then
  (kinfolkref01_Make N (List.take ((if (60 : Int) < ((p).length : Int) then 60 else ((p).length : Int)) - 0).toNat p) 7).bind fun (t, l_) =>
  bif decide ((0 : Int) ≤ 0) && decide ((0 : Int) ≤ (if (60 : Int) < ((q).length : Int) then 60 else ((q).length : Int))) && decide (((if (60 : Int) < ((q).length : Int) then 60 else ((q).length : Int)) : Int) ≤ ((q).length : Int)) && decide (((if (60 : Int) < ((q).length : Int) then 60 else ((q).length : Int)) : Int) = (if (60 : Int) < ((q).length : Int) then 60 else ((q).length : Int))) then
  (kinfolkref02_Make N (List.take ((if (60 : Int) < ((q).length : Int) then 60 else ((q).length : Int)) - 0).toNat q) 7).bind fun (t2, l_2) =>
  (kinfolklaw07_own N t).bind fun (b, t3) =>
  (kinfolklaw07_tree N t2).bind fun (n, t4) =>
  some (b, t3, n, t4, t, t2)
  else none
  else none
theorem kinfolklaw07_made_runs (N : Nat) (p : List Int) (q : List Int) (r_ : Bool × T_id_halves × Int × T_event_halves × T_kinfolkref01_ID × T_kinfolkref02_Event) (h : kinfolklaw07_made N p q = some r_) : Runs Try.prog 7 [(.one (.pv (.ints .u8 p false))), (.one (.pv (.ints .u8 q false)))] [] [] (kinfolklaw07_made_out p q r_) := by
  unfold kinfolklaw07_made at h
  obtain ⟨h1, h⟩ := need_of h
  obtain ⟨⟨t, l_⟩, h2, h⟩ := bind_of h
  obtain ⟨h3, h⟩ := need_of h
  obtain ⟨⟨t2, l_2⟩, h4, h⟩ := bind_of h
  obtain ⟨⟨b, t3⟩, h5, h⟩ := bind_of h
  obtain ⟨⟨n, t4⟩, h6, h⟩ := bind_of h
  have h := some_of h
  subst h
  have e_ := kinfolklaw07_made_p0 p q t l_ t2 l_2 b t3 n t4
  have e_ := runs_of (objs := []) (Says.of e_ ⟨h1, (kinfolkref01_Make_runs N (List.take ((if (60 : Int) < ((p).length : Int) then 60 else ((p).length : Int)) - 0).toNat p) 7 _ h2), h3, (kinfolkref02_Make_runs N (List.take ((if (60 : Int) < ((q).length : Int) then 60 else ((q).length : Int)) - 0).toNat q) 7 _ h4), (kinfolklaw07_own_runs N t _ h5), (kinfolklaw07_tree_runs N t2 _ h6), trivial⟩)
  exact e_
/-! ### stamp_Same_out -/
def stamp_Same_out (a : Bool) (a2 : T_id_halves) (a3 : Int) (a4 : T_event_halves) (b : Bool) (b2 : T_id_halves) (b3 : Int) (b4 : T_event_halves) : Bool → Res
  | r1 => ([(.one (.pv (.bool r1)))], [], [])
/-! ### id_Same_out -/
def id_Same_out (a : Bool) (a2 : T_id_halves) (b : Bool) (b2 : T_id_halves) : Bool → Res
  | r1 => ([(.one (.pv (.bool r1)))], [], [])
/-! ### id_Covers_out -/
def id_Covers_out (a : Bool) (a2 : T_id_halves) (b : Bool) (b2 : T_id_halves) : Bool → Res
  | r1 => ([(.one (.pv (.bool r1)))], [], [])

end Go.Proofs.Ytjjakdmcnkldoaa
