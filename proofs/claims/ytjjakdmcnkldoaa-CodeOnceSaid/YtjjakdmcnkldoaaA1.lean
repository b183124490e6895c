/- What functions compute, and that they do. -/
import Derived.Test.YtjjakdmcnkldoaaCfg
set_option linter.unusedVariables false
set_option linter.unusedSimpArgs false
namespace Go.Proofs.Ytjjakdmcnkldoaa
open Go.Ev

/-! ### bytes_Clone -/
theorem bytes_Clone_nil  : evFn Try.prog cfg (Runs Try.prog) (LRuns Try.prog (lEnv Try.prog cfg 50 0).nt 0) 50 [(.one (.pv .nils))] [] []
    [.br true] =
  some (([(.one (.pv .nils))], [], []), obs [
    true = true]) := by kernel_rfl
theorem bytes_Clone_emp  : evFn Try.prog cfg (Runs Try.prog) (LRuns Try.prog (lEnv Try.prog cfg 50 0).nt 0) 50 [(.one (.pv .emp))] [] []
    [.br false, .br true] =
  some (([(.one (.own 0 0 0 false))], [], [(.ints .u8 [])]), obs [
    false = false,
    true = true]) := by kernel_rfl
theorem bytes_Clone_fn (l : List Int) (t : Bool) : evFn Try.prog cfg (Runs Try.prog) (LRuns Try.prog (lEnv Try.prog cfg 50 0).nt 0) 50 [(.one (.pv (.ints .u8 l t)))] [] []
    [.br false, .br false] =
  some (([(.one (.own 0 0 (([] ++ l)).length false))], [], [(.ints .u8 ([] ++ l))]), obs [
    (!(Nat.beq (l).length 0)) = true,
    false = false,
    (!(Nat.beq (l).length 0)) = true,
    (fits (([] ++ l)).length) = true]) := by kernel_rfl
theorem bytes_Clone_runs {l : List Int} {t : Bool} (hl : fits l.length = true) : Runs Try.prog 50 [.one (.pv (.ints .u8 l t))] [] [] ([.one (.pv (.ints .u8 l false))], [], []) := by
  cases l with
  | nil =>
    have h1 : Runs Try.prog 50 [.one (.pv .nils)] [] [] ([.one (.pv (.ints .u8 [] false))], [], []) := by
      have h0 : Runs Try.prog 50 [.one (.pv .nils)] [] [] ([.one (.pv .nils)], [], []) := runs_of (Says.of bytes_Clone_nil ⟨rfl, trivial⟩)
      refine h0.res rfl (Nat.zero_le _) fun y v hs hv => ⟨y, rfl, Ext.refl y, rfl, hs, nils_ints hv⟩
    have h2 : Runs Try.prog 50 [.one (.pv .emp)] [] [] ([.one (.pv (.ints .u8 [] false))], [], []) :=
      Runs.close0 (rw := .ints .u8 []) (runs_of (Says.of bytes_Clone_emp ⟨rfl, rfl, trivial⟩)) rfl
    refine h1.split h2 fun x vals hr => ?_
    match vals, hr with
    | [v], hr =>
      rcases rep_empty hr.1 with h | h
      · exact .inl ⟨h, trivial⟩
      · exact .inr ⟨h, trivial⟩
  | cons a l =>
    have H := bytes_Clone_fn (a :: l) t
    rw [List.nil_append] at H
    exact Runs.close0 (rw := .ints .u8 (a :: l)) (runs_of (Says.of H ⟨by simp [Nat.beq], rfl, by simp [Nat.beq], hl, trivial⟩)) rfl
/-! ### kinfolklaw07_CodeOnce_out -/
def kinfolklaw07_CodeOnce_out (p : List Int) (q : List Int) (r : List Int) (s : List Int) (same : Bool) : Bool → Res
  | r1 => ([(.one (.pv (.bool r1)))], [], [])
/-! ### kinfolklaw07_awake_out -/
def kinfolklaw07_awake_out : Bool → Res
  | r1 => ([(.one (.pv (.bool r1)))], [], [])
/-! ### stamp_Seed_out -/
def stamp_Seed_out : Unit → Res
  | _ => ([(.agg [(.pv (.bool true)), (.pv (T_id_halves.pv T_id_halves.nil)), (.pv (.int .u64 0)), (.pv (T_event_halves.pv T_event_halves.nil))])], [], [])
/-! ### id_One_out -/
def id_One_out : Unit → Res
  | _ => ([(.agg [(.pv (.bool true)), (.pv (T_id_halves.pv T_id_halves.nil))])], [], [])
/-! ### id_One -/
theorem id_One_p0 : evFn Try.prog cfg (Runs Try.prog) (LRuns Try.prog (lEnv Try.prog cfg 63 0).nt 0) 63 [] [] []
    [] =
  some (([(.agg [(.pv (.bool true)), (.pv .nilp)])], [], []), obs [
    ]) := by kernel_rfl
noncomputable def id_One : Option (Unit) :=
  some ()
theorem id_One_runs (r_ : Unit) (h : id_One = some r_) : Runs Try.prog 63 [] [] [] (id_One_out r_) := by
  unfold id_One at h
  have h := some_of h
  subst h
  have e_ := id_One_p0
  have e_ := runs_of (objs := []) (Says.of e_ trivial)
  exact e_.out ⟨⟨.eq rfl, .eq rfl, trivial⟩, trivial⟩ trivial trivial rfl
/-! ### stamp_Seed -/
theorem stamp_Seed_p0 : evFn Try.prog cfg (Runs Try.prog) (LRuns Try.prog (lEnv Try.prog cfg 32 0).nt 0) 32 [] [] []
    [.res ([(.agg [(.pv (.bool true)), (.pv (T_id_halves.pv T_id_halves.nil))])], [], [])] =
  some (([(.agg [(.pv (.bool true)), (.pv (T_id_halves.pv T_id_halves.nil)), (.pv (.int .u64 0)), (.pv .nilp)])], [], []), obs [
    Runs Try.prog 63 [] [] [] ([(.agg [(.pv (.bool true)), (.pv (T_id_halves.pv T_id_halves.nil))])], [], [])]) := by kernel_rfl
noncomputable def stamp_Seed : Option (Unit) :=
  (id_One).bind fun _ =>
  some ()
theorem stamp_Seed_runs (r_ : Unit) (h : stamp_Seed = some r_) : Runs Try.prog 32 [] [] [] (stamp_Seed_out r_) := by
  unfold stamp_Seed at h
  obtain ⟨_, h1, h⟩ := bind_of h
  have h := some_of h
  subst h
  have e_ := stamp_Seed_p0
  have e_ := runs_of (objs := []) (Says.of e_ ⟨(id_One_runs _ h1), trivial⟩)
  exact e_.out ⟨⟨.eq rfl, .eq rfl, .eq rfl, .eq rfl, trivial⟩, trivial⟩ trivial trivial rfl
/-! ### code_Stamp_out -/
def code_Stamp_out (s : Bool) (s2 : T_id_halves) (s3 : Int) (s4 : T_event_halves) : List Int → Res
  | r1 => ([(.one (.pv (.ints .u8 r1 false)))], [], [])
/-! ### bits_NewWriter_out -/
def bits_NewWriter_out : Unit → Res
  | _ => ([(.one (.ref 0 0))], [[(.pv .nils), (.pv (.int .i64 0))]], [])
/-! ### bits_NewWriter -/
theorem bits_NewWriter_p0 : evFn Try.prog cfg (Runs Try.prog) (LRuns Try.prog (lEnv Try.prog cfg 15 0).nt 0) 15 [] [] []
    [] =
  some (([(.one (.ref 0 0))], [[(.pv .nils), (.pv (.int .i64 0))]], []), obs [
    ]) := by kernel_rfl
noncomputable def bits_NewWriter : Option (Unit) :=
  some ()
theorem bits_NewWriter_runs (r_ : Unit) (h : bits_NewWriter = some r_) : Runs Try.prog 15 [] [] [] (bits_NewWriter_out r_) := by
  unfold bits_NewWriter at h
  have h := some_of h
  subst h
  have e_ := bits_NewWriter_p0
  have e_ := runs_of (objs := []) (Says.of e_ trivial)
  exact e_
/-! ### code_PutID_out -/
def code_PutID_out (i : Bool) (i2 : T_id_halves) (n : Int) : Int × List Int → Res
  | (r1, r2) => ([], [[(.own 0 0 (r2).length false), (.pv (.int .i64 r1))]], [(.ints .u8 r2)])
/-! ### id_ID_Left_out -/
def id_ID_Left_out (i : Bool) (i2 : T_id_halves) : Bool × T_id_halves → Res
  | (r1, r2) => ([(.agg [(.pv (.bool r1)), (.pv (T_id_halves.pv r2))])], [], [])
/-! ### id_ID_Left -/
theorem id_ID_Left_p0 (i : Bool) : evFn Try.prog cfg (Runs Try.prog) (LRuns Try.prog (lEnv Try.prog cfg 45 0).nt 0) 45 [(.agg [(.pv (.bool i)), (.pv (T_id_halves.pv T_id_halves.nil))])] [] []
    [.br true] =
  some (([(.agg [(.pv (.bool i)), (.pv (T_id_halves.pv T_id_halves.nil))])], [], []), obs [
    true = true]) := by kernel_rfl
theorem id_ID_Left_p1 (i : Bool) (b : Bool) (t : T_id_halves) (b2 : Bool) (t2 : T_id_halves) : evFn Try.prog cfg (Runs Try.prog) (LRuns Try.prog (lEnv Try.prog cfg 45 0).nt 0) 45 [(.agg [(.pv (.bool i)), (.pv (T_id_halves.pv (T_id_halves.mk b t b2 t2)))])] [] []
    [.br false] =
  some (([(.agg [(.pv (.bool b)), (.pv (T_id_halves.pv t))])], [], []), obs [
    false = false]) := by kernel_rfl
noncomputable def id_ID_Left (i : Bool) (i2 : T_id_halves) : Option (Bool × T_id_halves) :=
  match i2 with
  | .nil =>
    some (i, i2)
  | .mk b t b2 t2 =>
    some (b, t)
theorem id_ID_Left_runs (i : Bool) (i2 : T_id_halves) (r_ : Bool × T_id_halves) (h : id_ID_Left i i2 = some r_) : Runs Try.prog 45 [(.agg [(.pv (.bool i)), (.pv (T_id_halves.pv i2))])] [] [] (id_ID_Left_out i i2 r_) := by
  unfold id_ID_Left at h
  cases i2 with
  | nil =>
    have h := some_of h
    subst h
    have e_ := id_ID_Left_p0 i
    have e_ := runs_of (objs := []) (Says.of e_ ⟨rfl, trivial⟩)
    exact e_
  | mk b t b2 t2 =>
    have h := some_of h
    subst h
    have e_ := id_ID_Left_p1 i b t b2 t2
    have e_ := runs_of (objs := []) (Says.of e_ ⟨rfl, trivial⟩)
    exact e_
/-! ### id_ID_Right_out -/
def id_ID_Right_out (i : Bool) (i2 : T_id_halves) : Bool × T_id_halves → Res
  | (r1, r2) => ([(.agg [(.pv (.bool r1)), (.pv (T_id_halves.pv r2))])], [], [])
/-! ### id_ID_Right -/
theorem id_ID_Right_p0 (i : Bool) : evFn Try.prog cfg (Runs Try.prog) (LRuns Try.prog (lEnv Try.prog cfg 46 0).nt 0) 46 [(.agg [(.pv (.bool i)), (.pv (T_id_halves.pv T_id_halves.nil))])] [] []
    [.br true] =
  some (([(.agg [(.pv (.bool i)), (.pv (T_id_halves.pv T_id_halves.nil))])], [], []), obs [
    true = true]) := by kernel_rfl
theorem id_ID_Right_p1 (i : Bool) (b : Bool) (t : T_id_halves) (b2 : Bool) (t2 : T_id_halves) : evFn Try.prog cfg (Runs Try.prog) (LRuns Try.prog (lEnv Try.prog cfg 46 0).nt 0) 46 [(.agg [(.pv (.bool i)), (.pv (T_id_halves.pv (T_id_halves.mk b t b2 t2)))])] [] []
    [.br false] =
  some (([(.agg [(.pv (.bool b2)), (.pv (T_id_halves.pv t2))])], [], []), obs [
    false = false]) := by kernel_rfl
noncomputable def id_ID_Right (i : Bool) (i2 : T_id_halves) : Option (Bool × T_id_halves) :=
  match i2 with
  | .nil =>
    some (i, i2)
  | .mk b t b2 t2 =>
    some (b2, t2)
theorem id_ID_Right_runs (i : Bool) (i2 : T_id_halves) (r_ : Bool × T_id_halves) (h : id_ID_Right i i2 = some r_) : Runs Try.prog 46 [(.agg [(.pv (.bool i)), (.pv (T_id_halves.pv i2))])] [] [] (id_ID_Right_out i i2 r_) := by
  unfold id_ID_Right at h
  cases i2 with
  | nil =>
    have h := some_of h
    subst h
    have e_ := id_ID_Right_p0 i
    have e_ := runs_of (objs := []) (Says.of e_ ⟨rfl, trivial⟩)
    exact e_
  | mk b t b2 t2 =>
    have h := some_of h
    subst h
    have e_ := id_ID_Right_p1 i b t b2 t2
    have e_ := runs_of (objs := []) (Says.of e_ ⟨rfl, trivial⟩)
    exact e_
/-! ### id_ID_IsZero_out -/
def id_ID_IsZero_out (i : Bool) (i2 : T_id_halves) : Bool → Res
  | r1 => ([(.one (.pv (.bool r1)))], [], [])
/-! ### id_ID_IsZero -/
theorem id_ID_IsZero_p0 (i : Bool) (i2 : T_id_halves) : evFn Try.prog cfg (Runs Try.prog) (LRuns Try.prog (lEnv Try.prog cfg 47 0).nt 0) 47 [(.agg [(.pv (.bool i)), (.pv (T_id_halves.pv i2))])] [] []
    [.br false] =
  some (([(.one (.pv (.bool false)))], [], []), obs [
    (!i) = false]) := by kernel_rfl
theorem id_ID_IsZero_p1 (i : Bool) : evFn Try.prog cfg (Runs Try.prog) (LRuns Try.prog (lEnv Try.prog cfg 47 0).nt 0) 47 [(.agg [(.pv (.bool i)), (.pv (T_id_halves.pv T_id_halves.nil))])] [] []
    [.br true] =
  some (([(.one (.pv (.bool true)))], [], []), obs [
    (!i) = true]) := by kernel_rfl
theorem id_ID_IsZero_p2 (i : Bool) (b : Bool) (t : T_id_halves) (b2 : Bool) (t2 : T_id_halves) : evFn Try.prog cfg (Runs Try.prog) (LRuns Try.prog (lEnv Try.prog cfg 47 0).nt 0) 47 [(.agg [(.pv (.bool i)), (.pv (T_id_halves.pv (T_id_halves.mk b t b2 t2)))])] [] []
    [.br true] =
  some (([(.one (.pv (.bool false)))], [], []), obs [
    (!i) = true]) := by kernel_rfl
noncomputable def id_ID_IsZero (i : Bool) (i2 : T_id_halves) : Option (Bool) :=
  bif i then
    some false
  else
    match i2 with
    | .nil =>
      some true
    | .mk b t b2 t2 =>
      some false
theorem id_ID_IsZero_runs (i : Bool) (i2 : T_id_halves) (r_ : Bool) (h : id_ID_IsZero i i2 = some r_) : Runs Try.prog 47 [(.agg [(.pv (.bool i)), (.pv (T_id_halves.pv i2))])] [] [] (id_ID_IsZero_out i i2 r_) := by
  unfold id_ID_IsZero at h
  rcases cond_of h with ⟨h1, h⟩ | ⟨h1, h⟩
  · have h := some_of h
    subst h
    have e_ := id_ID_IsZero_p0 i i2
    have e_ := runs_of (objs := []) (Says.of e_ ⟨(not_of2 h1), trivial⟩)
    exact e_
  · cases i2 with
    | nil =>
      have h := some_of h
      subst h
      have e_ := id_ID_IsZero_p1 i
      have e_ := runs_of (objs := []) (Says.of e_ ⟨(not_of h1), trivial⟩)
      exact e_
    | mk b t b2 t2 =>
      have h := some_of h
      subst h
      have e_ := id_ID_IsZero_p2 i b t b2 t2
      have e_ := runs_of (objs := []) (Says.of e_ ⟨(not_of h1), trivial⟩)
      exact e_
/-! ### bits_Writer_Put_out -/
def bits_Writer_Put_out (n : Int) (k : Int) (n2 : Int) : Int × List Int → Res
  | (r1, r2) => ([], [[(.own 0 0 (r2).length false), (.pv (.int .i64 r1))]], [(.ints .u8 r2)])
/-! ### bits_within_out -/
def bits_within_out (k : Int) : Int → Res
  | r1 => ([(.one (.pv (.int .i64 r1)))], [], [])
/-! ### bits_within -/
theorem bits_within_p0 (k : Int) : evFn Try.prog cfg (Runs Try.prog) (LRuns Try.prog (lEnv Try.prog cfg 49 0).nt 0) 49 [(.one (.pv (.int .i64 k)))] [] []
    [] =
  some (([(.one (.pv (.int .i64 (if (64 : Int) < (if (k : Int) < 0 then 0 else k) then 64 else (if (k : Int) < 0 then 0 else k)))))], [], []), obs [
    ]) := by kernel_rfl
noncomputable def bits_within (k : Int) : Option (Int) :=
  some (if (64 : Int) < (if (k : Int) < 0 then 0 else k) then 64 else (if (k : Int) < 0 then 0 else k))
theorem bits_within_runs (k : Int) (r_ : Int) (h : bits_within k = some r_) : Runs Try.prog 49 [(.one (.pv (.int .i64 k)))] [] [] (bits_within_out k r_) := by
  unfold bits_within at h
  have h := some_of h
  subst h
  have e_ := bits_within_p0 k
  have e_ := runs_of (objs := []) (Says.of e_ trivial)
  exact e_
/-! ### bits_Writer_Put_L0_2 -/
def bits_Writer_Put_L0_2_st (n : Int) : Int × Int × List Int → St
  | (i, n2, l) => ⟨[(0, (.av (.one (.ref 0 0)))), (1, (.av (.one (.pv (.int .u64 n))))), (6, (.av (.one (.pv (.int .i64 i)))))], [(0, [(.own 0 0 (l).length false), (.pv (.int .i64 n2))])], [(0, (.live (.ints .u8 l)))]⟩
def bits_Writer_Put_L0_2_ex (n : Int) : Int × List Int → Ex × St
  | (r1, r2) => ((.exit 0), ⟨[], [(0, [(.own 0 0 (r2).length false), (.pv (.int .i64 r1))])], [(0, (.live (.ints .u8 r2)))]⟩)
theorem bits_Writer_Put_L0_2_q0_0 (n : Int) (i : Int) (n2 : Int) (l : List Int) : both (evRound (lEnv Try.prog cfg 18 1) (loopAt Try.prog 18 0) ⟨[(0, (.av (.one (.ref 0 0)))), (1, (.av (.one (.pv (.int .u64 n))))), (6, (.av (.one (.pv (.int .i64 i)))))], [(0, [(.own 0 0 (l).length false), (.pv (.int .i64 n2))])], [(0, (.live (.ints .u8 l)))]⟩
    [.br true, .br true, .br true]) ((.normal, ⟨[(0, (.av (.one (.ref 0 0)))), (1, (.av (.one (.pv (.int .u64 n))))), (6, (.av (.one (.pv (.int .i64 (isub .i64 i 1))))))], [(0, [(.own 0 0 ((l ++ [0])).length false), (.pv (.int .i64 (iadd .i64 n2 1)))])], [(0, (.live (.ints .u8 ((l ++ [0]).set (0 + ((iquo .i64 n2 8)).toNat) (ior .u8 ((l ++ [0]).getD (0 + ((iquo .i64 n2 8)).toNat) 0) (ishr .u8 128 (irem .i64 n2 8)))))))]⟩)) [
    (decide ((0 : Int) ≤ i)) = true,
    true = true,
    (decide (((irem .i64 n2 8) : Int) = 0)) = true,
    (Nat.beq (l).length (l).length) = true,
    (fits ((l ++ [0])).length) = true,
    (decide ((0 : Int) ≤ i)) = true,
    (decide (((iand .u64 (ishr .u64 n i) 1) : Int) = 1)) = true,
    true = true,
    true = true,
    true = true,
    true = true,
    (decide ((0 : Int) ≤ (irem .i64 n2 8))) = true,
    true = true,
    (decide ((0 : Int) ≤ (iquo .i64 n2 8)) && decide (((iquo .i64 n2 8) : Int) < (((l ++ [0])).length : Int))) = true,
    (decide ((0 : Int) ≤ (irem .i64 n2 8))) = true,
    (decide ((0 : Int) ≤ (irem .i64 n2 8))) = true,
    true = true,
    true = true,
    true = true,
    true = true,
    (decide ((0 : Int) ≤ (irem .i64 n2 8))) = true,
    (decide ((0 : Int) ≤ (iquo .i64 n2 8)) && decide (((iquo .i64 n2 8) : Int) < (((l ++ [0])).length : Int))) = true,
    (decide ((0 : Int) ≤ (irem .i64 n2 8))) = true,
    (decide ((0 : Int) ≤ (iquo .i64 n2 8)) && decide (((iquo .i64 n2 8) : Int) < (((l ++ [0])).length : Int))) = true] := ⟨by kernel_rfl, by kernel_rfl⟩
theorem bits_Writer_Put_L0_2_q0_1 (n : Int) (i : Int) (n2 : Int) (l : List Int) : evRound (lEnv Try.prog cfg 18 1) (loopAt Try.prog 18 0) ⟨[(0, (.av (.one (.ref 0 0)))), (1, (.av (.one (.pv (.int .u64 n))))), (6, (.av (.one (.pv (.int .i64 i)))))], [(0, [(.own 0 0 (l).length false), (.pv (.int .i64 n2))])], [(0, (.live (.ints .u8 l)))]⟩
    [.br true, .br true, .br false] =
  some ((.normal, ⟨[(0, (.av (.one (.ref 0 0)))), (1, (.av (.one (.pv (.int .u64 n))))), (6, (.av (.one (.pv (.int .i64 (isub .i64 i 1))))))], [(0, [(.own 0 0 ((l ++ [0])).length false), (.pv (.int .i64 (iadd .i64 n2 1)))])], [(0, (.live (.ints .u8 (l ++ [0]))))]⟩), obs [
    (decide ((0 : Int) ≤ i)) = true,
    true = true,
    (decide (((irem .i64 n2 8) : Int) = 0)) = true,
    (Nat.beq (l).length (l).length) = true,
    (fits ((l ++ [0])).length) = true,
    (decide ((0 : Int) ≤ i)) = true,
    (decide (((iand .u64 (ishr .u64 n i) 1) : Int) = 1)) = false]) := by kernel_rfl
theorem bits_Writer_Put_L0_2_q0_2 (n : Int) (i : Int) (n2 : Int) (l : List Int) : both (evRound (lEnv Try.prog cfg 18 1) (loopAt Try.prog 18 0) ⟨[(0, (.av (.one (.ref 0 0)))), (1, (.av (.one (.pv (.int .u64 n))))), (6, (.av (.one (.pv (.int .i64 i)))))], [(0, [(.own 0 0 (l).length false), (.pv (.int .i64 n2))])], [(0, (.live (.ints .u8 l)))]⟩
    [.br true, .br false, .br true]) ((.normal, ⟨[(0, (.av (.one (.ref 0 0)))), (1, (.av (.one (.pv (.int .u64 n))))), (6, (.av (.one (.pv (.int .i64 (isub .i64 i 1))))))], [(0, [(.own 0 0 (l).length false), (.pv (.int .i64 (iadd .i64 n2 1)))])], [(0, (.live (.ints .u8 (l.set (0 + ((iquo .i64 n2 8)).toNat) (ior .u8 (l.getD (0 + ((iquo .i64 n2 8)).toNat) 0) (ishr .u8 128 (irem .i64 n2 8)))))))]⟩)) [
    (decide ((0 : Int) ≤ i)) = true,
    true = true,
    (decide (((irem .i64 n2 8) : Int) = 0)) = false,
    (decide ((0 : Int) ≤ i)) = true,
    (decide (((iand .u64 (ishr .u64 n i) 1) : Int) = 1)) = true,
    true = true,
    true = true,
    true = true,
    true = true,
    (decide ((0 : Int) ≤ (irem .i64 n2 8))) = true,
    true = true,
    (decide ((0 : Int) ≤ (iquo .i64 n2 8)) && decide (((iquo .i64 n2 8) : Int) < ((l).length : Int))) = true,
    (decide ((0 : Int) ≤ (irem .i64 n2 8))) = true,
    (decide ((0 : Int) ≤ (irem .i64 n2 8))) = true,
    true = true,
    true = true,
    true = true,
    true = true,
    (decide ((0 : Int) ≤ (irem .i64 n2 8))) = true,
    (decide ((0 : Int) ≤ (iquo .i64 n2 8)) && decide (((iquo .i64 n2 8) : Int) < ((l).length : Int))) = true,
    (decide ((0 : Int) ≤ (irem .i64 n2 8))) = true,
    (decide ((0 : Int) ≤ (iquo .i64 n2 8)) && decide (((iquo .i64 n2 8) : Int) < ((l).length : Int))) = true] := ⟨by kernel_rfl, by kernel_rfl⟩
theorem bits_Writer_Put_L0_2_q0_3 (n : Int) (i : Int) (n2 : Int) (l : List Int) : evRound (lEnv Try.prog cfg 18 1) (loopAt Try.prog 18 0) ⟨[(0, (.av (.one (.ref 0 0)))), (1, (.av (.one (.pv (.int .u64 n))))), (6, (.av (.one (.pv (.int .i64 i)))))], [(0, [(.own 0 0 (l).length false), (.pv (.int .i64 n2))])], [(0, (.live (.ints .u8 l)))]⟩
    [.br true, .br false, .br false] =
  some ((.normal, ⟨[(0, (.av (.one (.ref 0 0)))), (1, (.av (.one (.pv (.int .u64 n))))), (6, (.av (.one (.pv (.int .i64 (isub .i64 i 1))))))], [(0, [(.own 0 0 (l).length false), (.pv (.int .i64 (iadd .i64 n2 1)))])], [(0, (.live (.ints .u8 l)))]⟩), obs [
    (decide ((0 : Int) ≤ i)) = true,
    true = true,
    (decide (((irem .i64 n2 8) : Int) = 0)) = false,
    (decide ((0 : Int) ≤ i)) = true,
    (decide (((iand .u64 (ishr .u64 n i) 1) : Int) = 1)) = false]) := by kernel_rfl
theorem bits_Writer_Put_L0_2_q0_4 (n : Int) (i : Int) (n2 : Int) (l : List Int) : evRound (lEnv Try.prog cfg 18 1) (loopAt Try.prog 18 0) ⟨[(0, (.av (.one (.ref 0 0)))), (1, (.av (.one (.pv (.int .u64 n))))), (6, (.av (.one (.pv (.int .i64 i)))))], [(0, [(.own 0 0 (l).length false), (.pv (.int .i64 n2))])], [(0, (.live (.ints .u8 l)))]⟩
    [.br false] =
  some (((.exit 0), ⟨[(13, (.av (.one (.pv (.bool false))))), (0, (.av (.one (.ref 0 0)))), (1, (.av (.one (.pv (.int .u64 n))))), (6, (.av (.one (.pv (.int .i64 i))))), (13, (.av (.one (.pv (.bool (decide ((0 : Int) ≤ i)))))))], [(0, [(.own 0 0 (l).length false), (.pv (.int .i64 n2))])], [(0, (.live (.ints .u8 l)))]⟩), obs [
    (decide ((0 : Int) ≤ i)) = false]) := by kernel_rfl
noncomputable def bits_Writer_Put_L0_2_step (n : Int) : Int × Int × List Int → Option ((Int × Int × List Int) ⊕ (Int × List Int))
  | (i, n2, l) =>
  bif (decide ((0 : Int) ≤ i)) then
    bif (decide (((irem .i64 n2 8) : Int) = 0)) then
      bif fits ((l ++ [0])).length then
      bif decide ((0 : Int) ≤ i) then
      bif (decide (((iand .u64 (ishr .u64 n i) 1) : Int) = 1)) then
        bif decide ((0 : Int) ≤ (irem .i64 n2 8)) then
        bif decide ((0 : Int) ≤ (iquo .i64 n2 8)) && decide (((iquo .i64 n2 8) : Int) < (((l ++ [0])).length : Int)) then
        some (.inl ((isub .i64 i 1), (iadd .i64 n2 1), ((l ++ [0]).set (0 + ((iquo .i64 n2 8)).toNat) (ior .u8 ((l ++ [0]).getD (0 + ((iquo .i64 n2 8)).toNat) 0) (ishr .u8 128 (irem .i64 n2 8))))))
        else none
        else none
      else
        some (.inl ((isub .i64 i 1), (iadd .i64 n2 1), (l ++ [0])))
      else none
      else none
    else
      bif decide ((0 : Int) ≤ i) then
      bif (decide (((iand .u64 (ishr .u64 n i) 1) : Int) = 1)) then
        bif decide ((0 : Int) ≤ (irem .i64 n2 8)) then
        bif decide ((0 : Int) ≤ (iquo .i64 n2 8)) && decide (((iquo .i64 n2 8) : Int) < ((l).length : Int)) then
        some (.inl ((isub .i64 i 1), (iadd .i64 n2 1), (l.set (0 + ((iquo .i64 n2 8)).toNat) (ior .u8 (l.getD (0 + ((iquo .i64 n2 8)).toNat) 0) (ishr .u8 128 (irem .i64 n2 8))))))
        else none
        else none
      else
        some (.inl ((isub .i64 i 1), (iadd .i64 n2 1), l))
      else none
  else
    some (.inr (n2, l))
theorem bits_Writer_Put_L0_2_ok (n : Int) (s_ : Int × Int × List Int) (z_ : (Int × Int × List Int) ⊕ (Int × List Int)) (h : bits_Writer_Put_L0_2_step n s_ = some z_) : RoundOk Try.prog cfg 18 1 (loopAt Try.prog 18 0) (bits_Writer_Put_L0_2_st n) (bits_Writer_Put_L0_2_ex n) s_ z_ := by
  rcases s_ with ⟨i, n2, l⟩
  rcases cond_of h with ⟨h1, h⟩ | ⟨h1, h⟩
  · rcases cond_of h with ⟨h2, h⟩ | ⟨h2, h⟩
    · obtain ⟨h3, h⟩ := need_of h
      obtain ⟨h4, h⟩ := need_of h
      rcases cond_of h with ⟨h5, h⟩ | ⟨h5, h⟩
      · obtain ⟨h6, h⟩ := need_of h
        obtain ⟨h7, h⟩ := need_of h
        have h := some_of h
        subst h
        have e_ := bits_Writer_Put_L0_2_q0_0 n i n2 l
        have e_ := Says.of2 e_ ⟨h1, rfl, h2, (Nat.beq_refl _), h3, h4, h5, rfl, rfl, rfl, rfl, h6, rfl, h7, h6, h6, rfl, rfl, rfl, rfl, h6, h7, h6, h7, trivial⟩
        exact ⟨_, _, e_, ⟨⟨⟨_, rfl, .eq rfl⟩, ⟨_, rfl, .eq rfl⟩, ⟨_, rfl, .eq rfl⟩, trivial⟩, ⟨⟨rfl, ⟨.own (by first | rfl | (simp only [List.take_length]; done) | (simp only [List.take_length, List.length_append, List.drop_zero, List.map_append, List.map_take, List.map_drop, List.map_cons, List.map_nil, List.append_nil, List.nil_append]; done) | (simp; done)), .eq rfl, trivial⟩⟩, trivial⟩, ⟨⟨rfl, .eq rfl⟩, trivial⟩⟩⟩
      · have h := some_of h
        subst h
        have e_ := bits_Writer_Put_L0_2_q0_1 n i n2 l
        have e_ := Says.of e_ ⟨h1, rfl, h2, (Nat.beq_refl _), h3, h4, h5, trivial⟩
        exact ⟨_, _, e_, ⟨⟨⟨_, rfl, .eq rfl⟩, ⟨_, rfl, .eq rfl⟩, ⟨_, rfl, .eq rfl⟩, trivial⟩, ⟨⟨rfl, ⟨.eq rfl, .eq rfl, trivial⟩⟩, trivial⟩, ⟨⟨rfl, .eq rfl⟩, trivial⟩⟩⟩
    · obtain ⟨h3, h⟩ := need_of h
      rcases cond_of h with ⟨h4, h⟩ | ⟨h4, h⟩
      · obtain ⟨h5, h⟩ := need_of h
        obtain ⟨h6, h⟩ := need_of h
        have h := some_of h
        subst h
        have e_ := bits_Writer_Put_L0_2_q0_2 n i n2 l
        have e_ := Says.of2 e_ ⟨h1, rfl, h2, h3, h4, rfl, rfl, rfl, rfl, h5, rfl, h6, h5, h5, rfl, rfl, rfl, rfl, h5, h6, h5, h6, trivial⟩
        exact ⟨_, _, e_, ⟨⟨⟨_, rfl, .eq rfl⟩, ⟨_, rfl, .eq rfl⟩, ⟨_, rfl, .eq rfl⟩, trivial⟩, ⟨⟨rfl, ⟨.own (by first | rfl | (simp only [List.take_length]; done) | (simp only [List.take_length, List.length_append, List.drop_zero, List.map_append, List.map_take, List.map_drop, List.map_cons, List.map_nil, List.append_nil, List.nil_append]; done) | (simp; done)), .eq rfl, trivial⟩⟩, trivial⟩, ⟨⟨rfl, .eq rfl⟩, trivial⟩⟩⟩
      · have h := some_of h
        subst h
        have e_ := bits_Writer_Put_L0_2_q0_3 n i n2 l
        have e_ := Says.of e_ ⟨h1, rfl, h2, h3, h4, trivial⟩
        exact ⟨_, _, e_, ⟨⟨⟨_, rfl, .eq rfl⟩, ⟨_, rfl, .eq rfl⟩, ⟨_, rfl, .eq rfl⟩, trivial⟩, ⟨⟨rfl, ⟨.eq rfl, .eq rfl, trivial⟩⟩, trivial⟩, ⟨⟨rfl, .eq rfl⟩, trivial⟩⟩⟩
  · have h := some_of h
    subst h
    have e_ := bits_Writer_Put_L0_2_q0_4 n i n2 l
    have e_ := Says.of e_ ⟨h1, trivial⟩
    exact ⟨_, _, e_, ⟨trivial, ⟨⟨rfl, ⟨.eq rfl, .eq rfl, trivial⟩⟩, trivial⟩, ⟨⟨rfl, .eq rfl⟩, trivial⟩⟩⟩
theorem bits_Writer_Put_L0_2_runs (n : Int) (s_ : Int × Int × List Int) (r_ : Int × List Int) (h : runL (bits_Writer_Put_L0_2_step n) s_ = some r_) : LRuns Try.prog (lEnv Try.prog cfg 18 1).nt 1 (.loop (loopAt Try.prog 18 0)) (bits_Writer_Put_L0_2_st n s_) (bits_Writer_Put_L0_2_ex n r_).1 (bits_Writer_Put_L0_2_ex n r_).2 :=
  loop_run h (bits_Writer_Put_L0_2_ok n) (by intro r_; rcases r_ with ⟨r1, r2⟩ <;> simp [bits_Writer_Put_L0_2_ex])
/-! ### bits_Writer_Put -/
theorem bits_Writer_Put_p0 (n : Int) (k : Int) (n2 : Int) (n3 : Int) (n4 : Int) (l_ : List Int) : evFn Try.prog cfg (Runs Try.prog) (LRuns Try.prog (lEnv Try.prog cfg 18 1).nt 1) 18 [(.one (.ref 0 0)), (.one (.pv (.int .u64 n))), (.one (.pv (.int .i64 k)))] [[(.pv .nils), (.pv (.int .i64 n2))]] []
    [.br false, .res ([(.one (.pv (.int .i64 n3)))], [], []), .lp (.exit 0) ⟨[], [(0, [(.own 0 0 (l_).length false), (.pv (.int .i64 n4))])], [(0, (.live (.ints .u8 l_)))]⟩] =
  some (([], [[(.own 0 0 (l_).length false), (.pv (.int .i64 n4))]], [(.ints .u8 l_)]), obs [
    false = false,
    Runs Try.prog 49 [(.one (.pv (.int .i64 k)))] [] [] ([(.one (.pv (.int .i64 n3)))], [], []),
    LRuns Try.prog (lEnv Try.prog cfg 18 1).nt 1 (.loop (loopAt Try.prog 18 0)) ⟨[(0, (.av (.one (.ref 0 0)))), (1, (.av (.one (.pv (.int .u64 n))))), (6, (.av (.one (.pv (.int .i64 (isub .i64 n3 1))))))], [(0, [(.own 0 0 0 false), (.pv (.int .i64 n2))])], [(0, (.live (.ints .u8 [])))]⟩ (.exit 0) ⟨[], [(0, [(.own 0 0 (l_).length false), (.pv (.int .i64 n4))])], [(0, (.live (.ints .u8 l_)))]⟩]) := by kernel_rfl
noncomputable def bits_Writer_Put (n : Int) (k : Int) (n2 : Int) : Option (Int × List Int) :=
  (bits_within k).bind fun n3 =>
  (runL (bits_Writer_Put_L0_2_step n) ((isub .i64 n3 1), n2, [])).bind fun (n4, l_) =>
  some (n4, l_)
theorem bits_Writer_Put_runs (n : Int) (k : Int) (n2 : Int) (r_ : Int × List Int) (h : bits_Writer_Put n k n2 = some r_) : Runs Try.prog 18 [(.one (.ref 0 0)), (.one (.pv (.int .u64 n))), (.one (.pv (.int .i64 k)))] [[(.pv .nils), (.pv (.int .i64 n2))]] [] (bits_Writer_Put_out n k n2 r_) := by
  unfold bits_Writer_Put at h
  obtain ⟨n3, h1, h⟩ := bind_of h
  obtain ⟨⟨n4, l_⟩, h2, h⟩ := bind_of h
  have h := some_of h
  subst h
  have e_ := bits_Writer_Put_p0 n k n2 n3 n4 l_
  have e_ := runs_of (objs := [[(.pv .nils), (.pv (.int .i64 n2))]]) (Says.of e_ ⟨rfl, (bits_within_runs k _ h1), ((bits_Writer_Put_L0_2_runs n _ _ h2).coe ⟨⟨⟨_, rfl, .eq rfl⟩, ⟨_, rfl, .eq rfl⟩, ⟨_, rfl, .eq rfl⟩, trivial⟩, ⟨⟨rfl, ⟨.own (by first | rfl | (simp only [List.take_length]; done) | (simp only [List.take_length, List.length_append, List.drop_zero, List.map_append, List.map_take, List.map_drop, List.map_cons, List.map_nil, List.append_nil, List.nil_append]; done) | (simp; done)), .eq rfl, trivial⟩⟩, trivial⟩, ⟨⟨rfl, .eq rfl⟩, trivial⟩⟩), trivial⟩)
  exact e_
/-! ### bits_Writer_Put_2_out -/
def bits_Writer_Put_2_out (n : Int) (k : Int) (n2 : Int) (l : List Int) : Int × List Int → Res
  | (r1, r2) => ([], [[(.own 0 0 (r2).length false), (.pv (.int .i64 r1))]], [(.ints .u8 r2)])
/-! ### bits_Writer_Put_L0_3 -/
def bits_Writer_Put_L0_3_st (n : Int) : Int × Int × List Int → St
  | (i, n2, l) => ⟨[(0, (.av (.one (.ref 0 0)))), (1, (.av (.one (.pv (.int .u64 n))))), (6, (.av (.one (.pv (.int .i64 i)))))], [(0, [(.own 0 0 (l).length false), (.pv (.int .i64 n2))])], [(0, (.live (.ints .u8 l)))]⟩
def bits_Writer_Put_L0_3_ex (n : Int) : Int × List Int → Ex × St
  | (r1, r2) => ((.exit 0), ⟨[], [(0, [(.own 0 0 (r2).length false), (.pv (.int .i64 r1))])], [(0, (.live (.ints .u8 r2)))]⟩)
theorem bits_Writer_Put_L0_3_q0_0 (n : Int) (i : Int) (n2 : Int) (l : List Int) : both (evRound (lEnv Try.prog cfg 18 1) (loopAt Try.prog 18 0) ⟨[(0, (.av (.one (.ref 0 0)))), (1, (.av (.one (.pv (.int .u64 n))))), (6, (.av (.one (.pv (.int .i64 i)))))], [(0, [(.own 0 0 (l).length false), (.pv (.int .i64 n2))])], [(0, (.live (.ints .u8 l)))]⟩
    [.br true, .br true, .br true]) ((.normal, ⟨[(0, (.av (.one (.ref 0 0)))), (1, (.av (.one (.pv (.int .u64 n))))), (6, (.av (.one (.pv (.int .i64 (isub .i64 i 1))))))], [(0, [(.own 0 0 ((l ++ [0])).length false), (.pv (.int .i64 (iadd .i64 n2 1)))])], [(0, (.live (.ints .u8 ((l ++ [0]).set (0 + ((iquo .i64 n2 8)).toNat) (ior .u8 ((l ++ [0]).getD (0 + ((iquo .i64 n2 8)).toNat) 0) (ishr .u8 128 (irem .i64 n2 8)))))))]⟩)) [
    (decide ((0 : Int) ≤ i)) = true,
    true = true,
    (decide (((irem .i64 n2 8) : Int) = 0)) = true,
    (Nat.beq (l).length (l).length) = true,
    (fits ((l ++ [0])).length) = true,
    (decide ((0 : Int) ≤ i)) = true,
    (decide (((iand .u64 (ishr .u64 n i) 1) : Int) = 1)) = true,
    true = true,
    true = true,
    true = true,
    true = true,
    (decide ((0 : Int) ≤ (irem .i64 n2 8))) = true,
    true = true,
    (decide ((0 : Int) ≤ (iquo .i64 n2 8)) && decide (((iquo .i64 n2 8) : Int) < (((l ++ [0])).length : Int))) = true,
    (decide ((0 : Int) ≤ (irem .i64 n2 8))) = true,
    (decide ((0 : Int) ≤ (irem .i64 n2 8))) = true,
    true = true,
    true = true,
    true = true,
    true = true,
    (decide ((0 : Int) ≤ (irem .i64 n2 8))) = true,
    (decide ((0 : Int) ≤ (iquo .i64 n2 8)) && decide (((iquo .i64 n2 8) : Int) < (((l ++ [0])).length : Int))) = true,
    (decide ((0 : Int) ≤ (irem .i64 n2 8))) = true,
    (decide ((0 : Int) ≤ (iquo .i64 n2 8)) && decide (((iquo .i64 n2 8) : Int) < (((l ++ [0])).length : Int))) = true] := ⟨by kernel_rfl, by kernel_rfl⟩
theorem bits_Writer_Put_L0_3_q0_1 (n : Int) (i : Int) (n2 : Int) (l : List Int) : evRound (lEnv Try.prog cfg 18 1) (loopAt Try.prog 18 0) ⟨[(0, (.av (.one (.ref 0 0)))), (1, (.av (.one (.pv (.int .u64 n))))), (6, (.av (.one (.pv (.int .i64 i)))))], [(0, [(.own 0 0 (l).length false), (.pv (.int .i64 n2))])], [(0, (.live (.ints .u8 l)))]⟩
    [.br true, .br true, .br false] =
  some ((.normal, ⟨[(0, (.av (.one (.ref 0 0)))), (1, (.av (.one (.pv (.int .u64 n))))), (6, (.av (.one (.pv (.int .i64 (isub .i64 i 1))))))], [(0, [(.own 0 0 ((l ++ [0])).length false), (.pv (.int .i64 (iadd .i64 n2 1)))])], [(0, (.live (.ints .u8 (l ++ [0]))))]⟩), obs [
    (decide ((0 : Int) ≤ i)) = true,
    true = true,
    (decide (((irem .i64 n2 8) : Int) = 0)) = true,
    (Nat.beq (l).length (l).length) = true,
    (fits ((l ++ [0])).length) = true,
    (decide ((0 : Int) ≤ i)) = true,
    (decide (((iand .u64 (ishr .u64 n i) 1) : Int) = 1)) = false]) := by kernel_rfl
theorem bits_Writer_Put_L0_3_q0_2 (n : Int) (i : Int) (n2 : Int) (l : List Int) : both (evRound (lEnv Try.prog cfg 18 1) (loopAt Try.prog 18 0) ⟨[(0, (.av (.one (.ref 0 0)))), (1, (.av (.one (.pv (.int .u64 n))))), (6, (.av (.one (.pv (.int .i64 i)))))], [(0, [(.own 0 0 (l).length false), (.pv (.int .i64 n2))])], [(0, (.live (.ints .u8 l)))]⟩
    [.br true, .br false, .br true]) ((.normal, ⟨[(0, (.av (.one (.ref 0 0)))), (1, (.av (.one (.pv (.int .u64 n))))), (6, (.av (.one (.pv (.int .i64 (isub .i64 i 1))))))], [(0, [(.own 0 0 (l).length false), (.pv (.int .i64 (iadd .i64 n2 1)))])], [(0, (.live (.ints .u8 (l.set (0 + ((iquo .i64 n2 8)).toNat) (ior .u8 (l.getD (0 + ((iquo .i64 n2 8)).toNat) 0) (ishr .u8 128 (irem .i64 n2 8)))))))]⟩)) [
    (decide ((0 : Int) ≤ i)) = true,
    true = true,
    (decide (((irem .i64 n2 8) : Int) = 0)) = false,
    (decide ((0 : Int) ≤ i)) = true,
    (decide (((iand .u64 (ishr .u64 n i) 1) : Int) = 1)) = true,
    true = true,
    true = true,
    true = true,
    true = true,
    (decide ((0 : Int) ≤ (irem .i64 n2 8))) = true,
    true = true,
    (decide ((0 : Int) ≤ (iquo .i64 n2 8)) && decide (((iquo .i64 n2 8) : Int) < ((l).length : Int))) = true,
    (decide ((0 : Int) ≤ (irem .i64 n2 8))) = true,
    (decide ((0 : Int) ≤ (irem .i64 n2 8))) = true,
    true = true,
    true = true,
    true = true,
    true = true,
    (decide ((0 : Int) ≤ (irem .i64 n2 8))) = true,
    (decide ((0 : Int) ≤ (iquo .i64 n2 8)) && decide (((iquo .i64 n2 8) : Int) < ((l).length : Int))) = true,
    (decide ((0 : Int) ≤ (irem .i64 n2 8))) = true,
    (decide ((0 : Int) ≤ (iquo .i64 n2 8)) && decide (((iquo .i64 n2 8) : Int) < ((l).length : Int))) = true] := ⟨by kernel_rfl, by kernel_rfl⟩
theorem bits_Writer_Put_L0_3_q0_3 (n : Int) (i : Int) (n2 : Int) (l : List Int) : evRound (lEnv Try.prog cfg 18 1) (loopAt Try.prog 18 0) ⟨[(0, (.av (.one (.ref 0 0)))), (1, (.av (.one (.pv (.int .u64 n))))), (6, (.av (.one (.pv (.int .i64 i)))))], [(0, [(.own 0 0 (l).length false), (.pv (.int .i64 n2))])], [(0, (.live (.ints .u8 l)))]⟩
    [.br true, .br false, .br false] =
  some ((.normal, ⟨[(0, (.av (.one (.ref 0 0)))), (1, (.av (.one (.pv (.int .u64 n))))), (6, (.av (.one (.pv (.int .i64 (isub .i64 i 1))))))], [(0, [(.own 0 0 (l).length false), (.pv (.int .i64 (iadd .i64 n2 1)))])], [(0, (.live (.ints .u8 l)))]⟩), obs [
    (decide ((0 : Int) ≤ i)) = true,
    true = true,
    (decide (((irem .i64 n2 8) : Int) = 0)) = false,
    (decide ((0 : Int) ≤ i)) = true,
    (decide (((iand .u64 (ishr .u64 n i) 1) : Int) = 1)) = false]) := by kernel_rfl
theorem bits_Writer_Put_L0_3_q0_4 (n : Int) (i : Int) (n2 : Int) (l : List Int) : evRound (lEnv Try.prog cfg 18 1) (loopAt Try.prog 18 0) ⟨[(0, (.av (.one (.ref 0 0)))), (1, (.av (.one (.pv (.int .u64 n))))), (6, (.av (.one (.pv (.int .i64 i)))))], [(0, [(.own 0 0 (l).length false), (.pv (.int .i64 n2))])], [(0, (.live (.ints .u8 l)))]⟩
    [.br false] =
  some (((.exit 0), ⟨[(13, (.av (.one (.pv (.bool false))))), (0, (.av (.one (.ref 0 0)))), (1, (.av (.one (.pv (.int .u64 n))))), (6, (.av (.one (.pv (.int .i64 i))))), (13, (.av (.one (.pv (.bool (decide ((0 : Int) ≤ i)))))))], [(0, [(.own 0 0 (l).length false), (.pv (.int .i64 n2))])], [(0, (.live (.ints .u8 l)))]⟩), obs [
    (decide ((0 : Int) ≤ i)) = false]) := by kernel_rfl
noncomputable def bits_Writer_Put_L0_3_step (n : Int) : Int × Int × List Int → Option ((Int × Int × List Int) ⊕ (Int × List Int))
  | (i, n2, l) =>
  bif (decide ((0 : Int) ≤ i)) then
    bif (decide (((irem .i64 n2 8) : Int) = 0)) then
      bif fits ((l ++ [0])).length then
      bif decide ((0 : Int) ≤ i) then
      bif (decide (((iand .u64 (ishr .u64 n i) 1) : Int) = 1)) then
        bif decide ((0 : Int) ≤ (irem .i64 n2 8)) then
        bif decide ((0 : Int) ≤ (iquo .i64 n2 8)) && decide (((iquo .i64 n2 8) : Int) < (((l ++ [0])).length : Int)) then
        some (.inl ((isub .i64 i 1), (iadd .i64 n2 1), ((l ++ [0]).set (0 + ((iquo .i64 n2 8)).toNat) (ior .u8 ((l ++ [0]).getD (0 + ((iquo .i64 n2 8)).toNat) 0) (ishr .u8 128 (irem .i64 n2 8))))))
        else none
        else none
      else
        some (.inl ((isub .i64 i 1), (iadd .i64 n2 1), (l ++ [0])))
      else none
      else none
    else
      bif decide ((0 : Int) ≤ i) then
      bif (decide (((iand .u64 (ishr .u64 n i) 1) : Int) = 1)) then
        bif decide ((0 : Int) ≤ (irem .i64 n2 8)) then
        bif decide ((0 : Int) ≤ (iquo .i64 n2 8)) && decide (((iquo .i64 n2 8) : Int) < ((l).length : Int)) then
        some (.inl ((isub .i64 i 1), (iadd .i64 n2 1), (l.set (0 + ((iquo .i64 n2 8)).toNat) (ior .u8 (l.getD (0 + ((iquo .i64 n2 8)).toNat) 0) (ishr .u8 128 (irem .i64 n2 8))))))
        else none
        else none
      else
        some (.inl ((isub .i64 i 1), (iadd .i64 n2 1), l))
      else none
  else
    some (.inr (n2, l))
theorem bits_Writer_Put_L0_3_ok (n : Int) (s_ : Int × Int × List Int) (z_ : (Int × Int × List Int) ⊕ (Int × List Int)) (h : bits_Writer_Put_L0_3_step n s_ = some z_) : RoundOk Try.prog cfg 18 1 (loopAt Try.prog 18 0) (bits_Writer_Put_L0_3_st n) (bits_Writer_Put_L0_3_ex n) s_ z_ := by
  rcases s_ with ⟨i, n2, l⟩
  rcases cond_of h with ⟨h1, h⟩ | ⟨h1, h⟩
  · rcases cond_of h with ⟨h2, h⟩ | ⟨h2, h⟩
    · obtain ⟨h3, h⟩ := need_of h
      obtain ⟨h4, h⟩ := need_of h
      rcases cond_of h with ⟨h5, h⟩ | ⟨h5, h⟩
      · obtain ⟨h6, h⟩ := need_of h
        obtain ⟨h7, h⟩ := need_of h
        have h := some_of h
        subst h
        have e_ := bits_Writer_Put_L0_3_q0_0 n i n2 l
        have e_ := Says.of2 e_ ⟨h1, rfl, h2, (Nat.beq_refl _), h3, h4, h5, rfl, rfl, rfl, rfl, h6, rfl, h7, h6, h6, rfl, rfl, rfl, rfl, h6, h7, h6, h7, trivial⟩
        exact ⟨_, _, e_, ⟨⟨⟨_, rfl, .eq rfl⟩, ⟨_, rfl, .eq rfl⟩, ⟨_, rfl, .eq rfl⟩, trivial⟩, ⟨⟨rfl, ⟨.own (by first | rfl | (simp only [List.take_length]; done) | (simp only [List.take_length, List.length_append, List.drop_zero, List.map_append, List.map_take, List.map_drop, List.map_cons, List.map_nil, List.append_nil, List.nil_append]; done) | (simp; done)), .eq rfl, trivial⟩⟩, trivial⟩, ⟨⟨rfl, .eq rfl⟩, trivial⟩⟩⟩
      · have h := some_of h
        subst h
        have e_ := bits_Writer_Put_L0_3_q0_1 n i n2 l
        have e_ := Says.of e_ ⟨h1, rfl, h2, (Nat.beq_refl _), h3, h4, h5, trivial⟩
        exact ⟨_, _, e_, ⟨⟨⟨_, rfl, .eq rfl⟩, ⟨_, rfl, .eq rfl⟩, ⟨_, rfl, .eq rfl⟩, trivial⟩, ⟨⟨rfl, ⟨.eq rfl, .eq rfl, trivial⟩⟩, trivial⟩, ⟨⟨rfl, .eq rfl⟩, trivial⟩⟩⟩
    · obtain ⟨h3, h⟩ := need_of h
      rcases cond_of h with ⟨h4, h⟩ | ⟨h4, h⟩
      · obtain ⟨h5, h⟩ := need_of h
        obtain ⟨h6, h⟩ := need_of h
        have h := some_of h
        subst h
        have e_ := bits_Writer_Put_L0_3_q0_2 n i n2 l
        have e_ := Says.of2 e_ ⟨h1, rfl, h2, h3, h4, rfl, rfl, rfl, rfl, h5, rfl, h6, h5, h5, rfl, rfl, rfl, rfl, h5, h6, h5, h6, trivial⟩
        exact ⟨_, _, e_, ⟨⟨⟨_, rfl, .eq rfl⟩, ⟨_, rfl, .eq rfl⟩, ⟨_, rfl, .eq rfl⟩, trivial⟩, ⟨⟨rfl, ⟨.own (by first | rfl | (simp only [List.take_length]; done) | (simp only [List.take_length, List.length_append, List.drop_zero, List.map_append, List.map_take, List.map_drop, List.map_cons, List.map_nil, List.append_nil, List.nil_append]; done) | (simp; done)), .eq rfl, trivial⟩⟩, trivial⟩, ⟨⟨rfl, .eq rfl⟩, trivial⟩⟩⟩
      · have h := some_of h
        subst h
        have e_ := bits_Writer_Put_L0_3_q0_3 n i n2 l
        have e_ := Says.of e_ ⟨h1, rfl, h2, h3, h4, trivial⟩
        exact ⟨_, _, e_, ⟨⟨⟨_, rfl, .eq rfl⟩, ⟨_, rfl, .eq rfl⟩, ⟨_, rfl, .eq rfl⟩, trivial⟩, ⟨⟨rfl, ⟨.eq rfl, .eq rfl, trivial⟩⟩, trivial⟩, ⟨⟨rfl, .eq rfl⟩, trivial⟩⟩⟩
  · have h := some_of h
    subst h
    have e_ := bits_Writer_Put_L0_3_q0_4 n i n2 l
    have e_ := Says.of e_ ⟨h1, trivial⟩
    exact ⟨_, _, e_, ⟨trivial, ⟨⟨rfl, ⟨.eq rfl, .eq rfl, trivial⟩⟩, trivial⟩, ⟨⟨rfl, .eq rfl⟩, trivial⟩⟩⟩
theorem bits_Writer_Put_L0_3_runs (n : Int) (s_ : Int × Int × List Int) (r_ : Int × List Int) (h : runL (bits_Writer_Put_L0_3_step n) s_ = some r_) : LRuns Try.prog (lEnv Try.prog cfg 18 1).nt 1 (.loop (loopAt Try.prog 18 0)) (bits_Writer_Put_L0_3_st n s_) (bits_Writer_Put_L0_3_ex n r_).1 (bits_Writer_Put_L0_3_ex n r_).2 :=
  loop_run h (bits_Writer_Put_L0_3_ok n) (by intro r_; rcases r_ with ⟨r1, r2⟩ <;> simp [bits_Writer_Put_L0_3_ex])
/-! ### bits_Writer_Put_2 -/
theorem bits_Writer_Put_2_p0 (n : Int) (k : Int) (n2 : Int) (l : List Int) (n3 : Int) (n4 : Int) (l_ : List Int) : evFn Try.prog cfg (Runs Try.prog) (LRuns Try.prog (lEnv Try.prog cfg 18 1).nt 1) 18 [(.one (.ref 0 0)), (.one (.pv (.int .u64 n))), (.one (.pv (.int .i64 k)))] [[(.own 0 0 (l).length false), (.pv (.int .i64 n2))]] [(.ints .u8 l)]
    [.br false, .res ([(.one (.pv (.int .i64 n3)))], [], []), .lp (.exit 0) ⟨[], [(0, [(.own 0 0 (l_).length false), (.pv (.int .i64 n4))])], [(0, (.live (.ints .u8 l_)))]⟩] =
  some (([], [[(.own 0 0 (l_).length false), (.pv (.int .i64 n4))]], [(.ints .u8 l_)]), obs [
    false = false,
    Runs Try.prog 49 [(.one (.pv (.int .i64 k)))] [] [] ([(.one (.pv (.int .i64 n3)))], [], []),
    LRuns Try.prog (lEnv Try.prog cfg 18 1).nt 1 (.loop (loopAt Try.prog 18 0)) ⟨[(0, (.av (.one (.ref 0 0)))), (1, (.av (.one (.pv (.int .u64 n))))), (6, (.av (.one (.pv (.int .i64 (isub .i64 n3 1))))))], [(0, [(.own 0 0 (l).length false), (.pv (.int .i64 n2))])], [(0, (.live (.ints .u8 l)))]⟩ (.exit 0) ⟨[], [(0, [(.own 0 0 (l_).length false), (.pv (.int .i64 n4))])], [(0, (.live (.ints .u8 l_)))]⟩]) := by kernel_rfl
noncomputable def bits_Writer_Put_2 (n : Int) (k : Int) (n2 : Int) (l : List Int) : Option (Int × List Int) :=
  (bits_within k).bind fun n3 =>
  (runL (bits_Writer_Put_L0_3_step n) ((isub .i64 n3 1), n2, l)).bind fun (n4, l_) =>
  some (n4, l_)
theorem bits_Writer_Put_2_runs (n : Int) (k : Int) (n2 : Int) (l : List Int) (r_ : Int × List Int) (h : bits_Writer_Put_2 n k n2 l = some r_) : Runs Try.prog 18 [(.one (.ref 0 0)), (.one (.pv (.int .u64 n))), (.one (.pv (.int .i64 k)))] [[(.own 0 0 (l).length false), (.pv (.int .i64 n2))]] [(.ints .u8 l)] (bits_Writer_Put_2_out n k n2 l r_) := by
  unfold bits_Writer_Put_2 at h
  obtain ⟨n3, h1, h⟩ := bind_of h
  obtain ⟨⟨n4, l_⟩, h2, h⟩ := bind_of h
  have h := some_of h
  subst h
  have e_ := bits_Writer_Put_2_p0 n k n2 l n3 n4 l_
  have e_ := runs_of (objs := [[(.own 0 0 (l).length false), (.pv (.int .i64 n2))]]) (Says.of e_ ⟨rfl, (bits_within_runs k _ h1), (bits_Writer_Put_L0_3_runs n _ _ h2), trivial⟩)
  exact e_
/-! ### id_ID_IsOne_out -/
def id_ID_IsOne_out (i : Bool) (i2 : T_id_halves) : Unit → Res
  | _ => ([(.one (.pv (.bool i)))], [], [])
/-! ### id_ID_IsOne -/
theorem id_ID_IsOne_p0 (i : Bool) (i2 : T_id_halves) : evFn Try.prog cfg (Runs Try.prog) (LRuns Try.prog (lEnv Try.prog cfg 48 0).nt 0) 48 [(.agg [(.pv (.bool i)), (.pv (T_id_halves.pv i2))])] [] []
    [] =
  some (([(.one (.pv (.bool i)))], [], []), obs [
    ]) := by kernel_rfl
noncomputable def id_ID_IsOne (i : Bool) (i2 : T_id_halves) : Option (Unit) :=
  some ()
theorem id_ID_IsOne_runs (i : Bool) (i2 : T_id_halves) (r_ : Unit) (h : id_ID_IsOne i i2 = some r_) : Runs Try.prog 48 [(.agg [(.pv (.bool i)), (.pv (T_id_halves.pv i2))])] [] [] (id_ID_IsOne_out i i2 r_) := by
  unfold id_ID_IsOne at h
  have h := some_of h
  subst h
  have e_ := id_ID_IsOne_p0 i i2
  have e_ := runs_of (objs := []) (Says.of e_ trivial)
  exact e_
/-! ### code_PutID_2_out -/
def code_PutID_2_out (i : Bool) (i2 : T_id_halves) (n : Int) (l : List Int) : Int × List Int → Res
  | (r1, r2) => ([], [[(.own 0 0 (r2).length false), (.pv (.int .i64 r1))]], [(.ints .u8 r2)])
/-! ### code_PutID_2 -/
theorem code_PutID_2_p0 (i : Bool) (i2 : T_id_halves) (n : Int) (l : List Int) (b : Bool) (t : T_id_halves) (b2 : Bool) (t2 : T_id_halves) (b3 : Bool) (n2 : Int) (l_ : List Int) (n3 : Int) (l_2 : List Int) : both (evFn Try.prog cfg (Runs Try.prog) (LRuns Try.prog (lEnv Try.prog cfg 17 1).nt 1) 17 [(.one (.ref 0 0)), (.agg [(.pv (.bool i)), (.pv (T_id_halves.pv i2))])] [[(.own 0 0 (l).length false), (.pv (.int .i64 n))]] [(.ints .u8 l)]
    [.res ([(.agg [(.pv (.bool b)), (.pv (T_id_halves.pv t))])], [], []), .res ([(.agg [(.pv (.bool b)), (.pv (T_id_halves.pv t))])], [], []), .res ([(.agg [(.pv (.bool b)), (.pv (T_id_halves.pv t))])], [], []), .res ([(.agg [(.pv (.bool b)), (.pv (T_id_halves.pv t))])], [], []), .res ([(.agg [(.pv (.bool b)), (.pv (T_id_halves.pv t))])], [], []), .res ([(.agg [(.pv (.bool b)), (.pv (T_id_halves.pv t))])], [], []), .res ([(.agg [(.pv (.bool b)), (.pv (T_id_halves.pv t))])], [], []), .res ([(.agg [(.pv (.bool b2)), (.pv (T_id_halves.pv t2))])], [], []), .res ([(.agg [(.pv (.bool b2)), (.pv (T_id_halves.pv t2))])], [], []), .res ([(.agg [(.pv (.bool b2)), (.pv (T_id_halves.pv t2))])], [], []), .res ([(.agg [(.pv (.bool b)), (.pv (T_id_halves.pv t))])], [], []), .res ([(.agg [(.pv (.bool b2)), (.pv (T_id_halves.pv t2))])], [], []), .res ([(.one (.pv (.bool b3)))], [], []), .br true, .res ([], [[(.own 0 0 (l_).length false), (.pv (.int .i64 n2))]], [(.ints .u8 l_)]), .res ([], [[(.own 0 0 (l_2).length false), (.pv (.int .i64 n3))]], [(.ints .u8 l_2)])]) (([], [[(.own 0 0 (l_2).length false), (.pv (.int .i64 n3))]], [(.ints .u8 l_2)])) [
    Runs Try.prog 45 [(.agg [(.pv (.bool i)), (.pv (T_id_halves.pv i2))])] [] [] ([(.agg [(.pv (.bool b)), (.pv (T_id_halves.pv t))])], [], []),
    Runs Try.prog 45 [(.agg [(.pv (.bool i)), (.pv (T_id_halves.pv i2))])] [] [] ([(.agg [(.pv (.bool b)), (.pv (T_id_halves.pv t))])], [], []),
    Runs Try.prog 45 [(.agg [(.pv (.bool i)), (.pv (T_id_halves.pv i2))])] [] [] ([(.agg [(.pv (.bool b)), (.pv (T_id_halves.pv t))])], [], []),
    Runs Try.prog 45 [(.agg [(.pv (.bool i)), (.pv (T_id_halves.pv i2))])] [] [] ([(.agg [(.pv (.bool b)), (.pv (T_id_halves.pv t))])], [], []),
    Runs Try.prog 45 [(.agg [(.pv (.bool i)), (.pv (T_id_halves.pv i2))])] [] [] ([(.agg [(.pv (.bool b)), (.pv (T_id_halves.pv t))])], [], []),
    Runs Try.prog 45 [(.agg [(.pv (.bool i)), (.pv (T_id_halves.pv i2))])] [] [] ([(.agg [(.pv (.bool b)), (.pv (T_id_halves.pv t))])], [], []),
    Runs Try.prog 45 [(.agg [(.pv (.bool i)), (.pv (T_id_halves.pv i2))])] [] [] ([(.agg [(.pv (.bool b)), (.pv (T_id_halves.pv t))])], [], []),
    Runs Try.prog 46 [(.agg [(.pv (.bool i)), (.pv (T_id_halves.pv i2))])] [] [] ([(.agg [(.pv (.bool b2)), (.pv (T_id_halves.pv t2))])], [], []),
    Runs Try.prog 46 [(.agg [(.pv (.bool i)), (.pv (T_id_halves.pv i2))])] [] [] ([(.agg [(.pv (.bool b2)), (.pv (T_id_halves.pv t2))])], [], []),
    Runs Try.prog 46 [(.agg [(.pv (.bool i)), (.pv (T_id_halves.pv i2))])] [] [] ([(.agg [(.pv (.bool b2)), (.pv (T_id_halves.pv t2))])], [], []),
    Runs Try.prog 45 [(.agg [(.pv (.bool i)), (.pv (T_id_halves.pv i2))])] [] [] ([(.agg [(.pv (.bool b)), (.pv (T_id_halves.pv t))])], [], []),
    Runs Try.prog 46 [(.agg [(.pv (.bool i)), (.pv (T_id_halves.pv i2))])] [] [] ([(.agg [(.pv (.bool b2)), (.pv (T_id_halves.pv t2))])], [], []),
    Runs Try.prog 47 [(.agg [(.pv (.bool i)), (.pv (T_id_halves.pv i2))])] [] [] ([(.one (.pv (.bool b3)))], [], []),
    b3 = true,
    Runs Try.prog 18 [(.one (.ref 0 0)), (.one (.pv (.int .u64 0))), (.one (.pv (.int .i64 2)))] [[(.own 0 0 (l).length false), (.pv (.int .i64 n))]] [(.ints .u8 l)] ([], [[(.own 0 0 (l_).length false), (.pv (.int .i64 n2))]], [(.ints .u8 l_)]),
    Runs Try.prog 18 [(.one (.ref 0 0)), (.one (.pv (.int .u64 0))), (.one (.pv (.int .i64 1)))] [[(.own 0 0 (l_).length false), (.pv (.int .i64 n2))]] [(.ints .u8 l_)] ([], [[(.own 0 0 (l_2).length false), (.pv (.int .i64 n3))]], [(.ints .u8 l_2)])] := ⟨by kernel_rfl, by kernel_rfl⟩
theorem code_PutID_2_p1 (i : Bool) (i2 : T_id_halves) (n : Int) (l : List Int) (b : Bool) (t : T_id_halves) (b2 : Bool) (t2 : T_id_halves) (b3 : Bool) (n2 : Int) (l_ : List Int) (n3 : Int) (l_2 : List Int) : both (evFn Try.prog cfg (Runs Try.prog) (LRuns Try.prog (lEnv Try.prog cfg 17 1).nt 1) 17 [(.one (.ref 0 0)), (.agg [(.pv (.bool i)), (.pv (T_id_halves.pv i2))])] [[(.own 0 0 (l).length false), (.pv (.int .i64 n))]] [(.ints .u8 l)]
    [.res ([(.agg [(.pv (.bool b)), (.pv (T_id_halves.pv t))])], [], []), .res ([(.agg [(.pv (.bool b)), (.pv (T_id_halves.pv t))])], [], []), .res ([(.agg [(.pv (.bool b)), (.pv (T_id_halves.pv t))])], [], []), .res ([(.agg [(.pv (.bool b)), (.pv (T_id_halves.pv t))])], [], []), .res ([(.agg [(.pv (.bool b)), (.pv (T_id_halves.pv t))])], [], []), .res ([(.agg [(.pv (.bool b)), (.pv (T_id_halves.pv t))])], [], []), .res ([(.agg [(.pv (.bool b)), (.pv (T_id_halves.pv t))])], [], []), .res ([(.agg [(.pv (.bool b2)), (.pv (T_id_halves.pv t2))])], [], []), .res ([(.agg [(.pv (.bool b2)), (.pv (T_id_halves.pv t2))])], [], []), .res ([(.agg [(.pv (.bool b2)), (.pv (T_id_halves.pv t2))])], [], []), .res ([(.agg [(.pv (.bool b)), (.pv (T_id_halves.pv t))])], [], []), .res ([(.agg [(.pv (.bool b2)), (.pv (T_id_halves.pv t2))])], [], []), .res ([(.one (.pv (.bool b3)))], [], []), .br false, .res ([(.one (.pv (.bool i)))], [], []), .br true, .res ([], [[(.own 0 0 (l_).length false), (.pv (.int .i64 n2))]], [(.ints .u8 l_)]), .res ([], [[(.own 0 0 (l_2).length false), (.pv (.int .i64 n3))]], [(.ints .u8 l_2)])]) (([], [[(.own 0 0 (l_2).length false), (.pv (.int .i64 n3))]], [(.ints .u8 l_2)])) [
    Runs Try.prog 45 [(.agg [(.pv (.bool i)), (.pv (T_id_halves.pv i2))])] [] [] ([(.agg [(.pv (.bool b)), (.pv (T_id_halves.pv t))])], [], []),
    Runs Try.prog 45 [(.agg [(.pv (.bool i)), (.pv (T_id_halves.pv i2))])] [] [] ([(.agg [(.pv (.bool b)), (.pv (T_id_halves.pv t))])], [], []),
    Runs Try.prog 45 [(.agg [(.pv (.bool i)), (.pv (T_id_halves.pv i2))])] [] [] ([(.agg [(.pv (.bool b)), (.pv (T_id_halves.pv t))])], [], []),
    Runs Try.prog 45 [(.agg [(.pv (.bool i)), (.pv (T_id_halves.pv i2))])] [] [] ([(.agg [(.pv (.bool b)), (.pv (T_id_halves.pv t))])], [], []),
    Runs Try.prog 45 [(.agg [(.pv (.bool i)), (.pv (T_id_halves.pv i2))])] [] [] ([(.agg [(.pv (.bool b)), (.pv (T_id_halves.pv t))])], [], []),
    Runs Try.prog 45 [(.agg [(.pv (.bool i)), (.pv (T_id_halves.pv i2))])] [] [] ([(.agg [(.pv (.bool b)), (.pv (T_id_halves.pv t))])], [], []),
    Runs Try.prog 45 [(.agg [(.pv (.bool i)), (.pv (T_id_halves.pv i2))])] [] [] ([(.agg [(.pv (.bool b)), (.pv (T_id_halves.pv t))])], [], []),
    Runs Try.prog 46 [(.agg [(.pv (.bool i)), (.pv (T_id_halves.pv i2))])] [] [] ([(.agg [(.pv (.bool b2)), (.pv (T_id_halves.pv t2))])], [], []),
    Runs Try.prog 46 [(.agg [(.pv (.bool i)), (.pv (T_id_halves.pv i2))])] [] [] ([(.agg [(.pv (.bool b2)), (.pv (T_id_halves.pv t2))])], [], []),
    Runs Try.prog 46 [(.agg [(.pv (.bool i)), (.pv (T_id_halves.pv i2))])] [] [] ([(.agg [(.pv (.bool b2)), (.pv (T_id_halves.pv t2))])], [], []),
    Runs Try.prog 45 [(.agg [(.pv (.bool i)), (.pv (T_id_halves.pv i2))])] [] [] ([(.agg [(.pv (.bool b)), (.pv (T_id_halves.pv t))])], [], []),
    Runs Try.prog 46 [(.agg [(.pv (.bool i)), (.pv (T_id_halves.pv i2))])] [] [] ([(.agg [(.pv (.bool b2)), (.pv (T_id_halves.pv t2))])], [], []),
    Runs Try.prog 47 [(.agg [(.pv (.bool i)), (.pv (T_id_halves.pv i2))])] [] [] ([(.one (.pv (.bool b3)))], [], []),
    b3 = false,
    Runs Try.prog 48 [(.agg [(.pv (.bool i)), (.pv (T_id_halves.pv i2))])] [] [] ([(.one (.pv (.bool i)))], [], []),
    i = true,
    Runs Try.prog 18 [(.one (.ref 0 0)), (.one (.pv (.int .u64 0))), (.one (.pv (.int .i64 2)))] [[(.own 0 0 (l).length false), (.pv (.int .i64 n))]] [(.ints .u8 l)] ([], [[(.own 0 0 (l_).length false), (.pv (.int .i64 n2))]], [(.ints .u8 l_)]),
    Runs Try.prog 18 [(.one (.ref 0 0)), (.one (.pv (.int .u64 1))), (.one (.pv (.int .i64 1)))] [[(.own 0 0 (l_).length false), (.pv (.int .i64 n2))]] [(.ints .u8 l_)] ([], [[(.own 0 0 (l_2).length false), (.pv (.int .i64 n3))]], [(.ints .u8 l_2)])] := ⟨by kernel_rfl, by kernel_rfl⟩
theorem code_PutID_2_p2 (i : Bool) (i2 : T_id_halves) (n : Int) (l : List Int) (b : Bool) (t : T_id_halves) (b2 : Bool) (t2 : T_id_halves) (b3 : Bool) (b4 : Bool) (n2 : Int) (l_ : List Int) (n3 : Int) (l_2 : List Int) : both (evFn Try.prog cfg (Runs Try.prog) (LRuns Try.prog (lEnv Try.prog cfg 17 1).nt 1) 17 [(.one (.ref 0 0)), (.agg [(.pv (.bool i)), (.pv (T_id_halves.pv i2))])] [[(.own 0 0 (l).length false), (.pv (.int .i64 n))]] [(.ints .u8 l)]
    [.res ([(.agg [(.pv (.bool b)), (.pv (T_id_halves.pv t))])], [], []), .res ([(.agg [(.pv (.bool b)), (.pv (T_id_halves.pv t))])], [], []), .res ([(.agg [(.pv (.bool b)), (.pv (T_id_halves.pv t))])], [], []), .res ([(.agg [(.pv (.bool b)), (.pv (T_id_halves.pv t))])], [], []), .res ([(.agg [(.pv (.bool b)), (.pv (T_id_halves.pv t))])], [], []), .res ([(.agg [(.pv (.bool b)), (.pv (T_id_halves.pv t))])], [], []), .res ([(.agg [(.pv (.bool b)), (.pv (T_id_halves.pv t))])], [], []), .res ([(.agg [(.pv (.bool b2)), (.pv (T_id_halves.pv t2))])], [], []), .res ([(.agg [(.pv (.bool b2)), (.pv (T_id_halves.pv t2))])], [], []), .res ([(.agg [(.pv (.bool b2)), (.pv (T_id_halves.pv t2))])], [], []), .res ([(.agg [(.pv (.bool b)), (.pv (T_id_halves.pv t))])], [], []), .res ([(.agg [(.pv (.bool b2)), (.pv (T_id_halves.pv t2))])], [], []), .res ([(.one (.pv (.bool b3)))], [], []), .br false, .res ([(.one (.pv (.bool i)))], [], []), .br false, .res ([(.one (.pv (.bool b4)))], [], []), .br true, .res ([], [[(.own 0 0 (l_).length false), (.pv (.int .i64 n2))]], [(.ints .u8 l_)]), .res ([], [[(.own 0 0 (l_2).length false), (.pv (.int .i64 n3))]], [(.ints .u8 l_2)])]) (([], [[(.own 0 0 (l_2).length false), (.pv (.int .i64 n3))]], [(.ints .u8 l_2)])) [
    Runs Try.prog 45 [(.agg [(.pv (.bool i)), (.pv (T_id_halves.pv i2))])] [] [] ([(.agg [(.pv (.bool b)), (.pv (T_id_halves.pv t))])], [], []),
    Runs Try.prog 45 [(.agg [(.pv (.bool i)), (.pv (T_id_halves.pv i2))])] [] [] ([(.agg [(.pv (.bool b)), (.pv (T_id_halves.pv t))])], [], []),
    Runs Try.prog 45 [(.agg [(.pv (.bool i)), (.pv (T_id_halves.pv i2))])] [] [] ([(.agg [(.pv (.bool b)), (.pv (T_id_halves.pv t))])], [], []),
    Runs Try.prog 45 [(.agg [(.pv (.bool i)), (.pv (T_id_halves.pv i2))])] [] [] ([(.agg [(.pv (.bool b)), (.pv (T_id_halves.pv t))])], [], []),
    Runs Try.prog 45 [(.agg [(.pv (.bool i)), (.pv (T_id_halves.pv i2))])] [] [] ([(.agg [(.pv (.bool b)), (.pv (T_id_halves.pv t))])], [], []),
    Runs Try.prog 45 [(.agg [(.pv (.bool i)), (.pv (T_id_halves.pv i2))])] [] [] ([(.agg [(.pv (.bool b)), (.pv (T_id_halves.pv t))])], [], []),
    Runs Try.prog 45 [(.agg [(.pv (.bool i)), (.pv (T_id_halves.pv i2))])] [] [] ([(.agg [(.pv (.bool b)), (.pv (T_id_halves.pv t))])], [], []),
    Runs Try.prog 46 [(.agg [(.pv (.bool i)), (.pv (T_id_halves.pv i2))])] [] [] ([(.agg [(.pv (.bool b2)), (.pv (T_id_halves.pv t2))])], [], []),
    Runs Try.prog 46 [(.agg [(.pv (.bool i)), (.pv (T_id_halves.pv i2))])] [] [] ([(.agg [(.pv (.bool b2)), (.pv (T_id_halves.pv t2))])], [], []),
    Runs Try.prog 46 [(.agg [(.pv (.bool i)), (.pv (T_id_halves.pv i2))])] [] [] ([(.agg [(.pv (.bool b2)), (.pv (T_id_halves.pv t2))])], [], []),
    Runs Try.prog 45 [(.agg [(.pv (.bool i)), (.pv (T_id_halves.pv i2))])] [] [] ([(.agg [(.pv (.bool b)), (.pv (T_id_halves.pv t))])], [], []),
    Runs Try.prog 46 [(.agg [(.pv (.bool i)), (.pv (T_id_halves.pv i2))])] [] [] ([(.agg [(.pv (.bool b2)), (.pv (T_id_halves.pv t2))])], [], []),
    Runs Try.prog 47 [(.agg [(.pv (.bool i)), (.pv (T_id_halves.pv i2))])] [] [] ([(.one (.pv (.bool b3)))], [], []),
    b3 = false,
    Runs Try.prog 48 [(.agg [(.pv (.bool i)), (.pv (T_id_halves.pv i2))])] [] [] ([(.one (.pv (.bool i)))], [], []),
    i = false,
    Runs Try.prog 47 [(.agg [(.pv (.bool b)), (.pv (T_id_halves.pv t))])] [] [] ([(.one (.pv (.bool b4)))], [], []),
    b4 = true,
    Runs Try.prog 18 [(.one (.ref 0 0)), (.one (.pv (.int .u64 1))), (.one (.pv (.int .i64 2)))] [[(.own 0 0 (l).length false), (.pv (.int .i64 n))]] [(.ints .u8 l)] ([], [[(.own 0 0 (l_).length false), (.pv (.int .i64 n2))]], [(.ints .u8 l_)]),
    Runs Try.prog 17 [(.one (.ref 0 0)), (.agg [(.pv (.bool b2)), (.pv (T_id_halves.pv t2))])] [[(.own 0 0 (l_).length false), (.pv (.int .i64 n2))]] [(.ints .u8 l_)] ([], [[(.own 0 0 (l_2).length false), (.pv (.int .i64 n3))]], [(.ints .u8 l_2)])] := ⟨by kernel_rfl, by kernel_rfl⟩
theorem code_PutID_2_p3 (i : Bool) (i2 : T_id_halves) (n : Int) (l : List Int) (b : Bool) (t : T_id_halves) (b2 : Bool) (t2 : T_id_halves) (b3 : Bool) (b4 : Bool) (b5 : Bool) (n2 : Int) (l_ : List Int) (n3 : Int) (l_2 : List Int) : both (evFn Try.prog cfg (Runs Try.prog) (LRuns Try.prog (lEnv Try.prog cfg 17 1).nt 1) 17 [(.one (.ref 0 0)), (.agg [(.pv (.bool i)), (.pv (T_id_halves.pv i2))])] [[(.own 0 0 (l).length false), (.pv (.int .i64 n))]] [(.ints .u8 l)]
    [.res ([(.agg [(.pv (.bool b)), (.pv (T_id_halves.pv t))])], [], []), .res ([(.agg [(.pv (.bool b)), (.pv (T_id_halves.pv t))])], [], []), .res ([(.agg [(.pv (.bool b)), (.pv (T_id_halves.pv t))])], [], []), .res ([(.agg [(.pv (.bool b)), (.pv (T_id_halves.pv t))])], [], []), .res ([(.agg [(.pv (.bool b)), (.pv (T_id_halves.pv t))])], [], []), .res ([(.agg [(.pv (.bool b)), (.pv (T_id_halves.pv t))])], [], []), .res ([(.agg [(.pv (.bool b)), (.pv (T_id_halves.pv t))])], [], []), .res ([(.agg [(.pv (.bool b2)), (.pv (T_id_halves.pv t2))])], [], []), .res ([(.agg [(.pv (.bool b2)), (.pv (T_id_halves.pv t2))])], [], []), .res ([(.agg [(.pv (.bool b2)), (.pv (T_id_halves.pv t2))])], [], []), .res ([(.agg [(.pv (.bool b)), (.pv (T_id_halves.pv t))])], [], []), .res ([(.agg [(.pv (.bool b2)), (.pv (T_id_halves.pv t2))])], [], []), .res ([(.one (.pv (.bool b3)))], [], []), .br false, .res ([(.one (.pv (.bool i)))], [], []), .br false, .res ([(.one (.pv (.bool b4)))], [], []), .br false, .res ([(.one (.pv (.bool b5)))], [], []), .br true, .res ([], [[(.own 0 0 (l_).length false), (.pv (.int .i64 n2))]], [(.ints .u8 l_)]), .res ([], [[(.own 0 0 (l_2).length false), (.pv (.int .i64 n3))]], [(.ints .u8 l_2)])]) (([], [[(.own 0 0 (l_2).length false), (.pv (.int .i64 n3))]], [(.ints .u8 l_2)])) [
    Runs Try.prog 45 [(.agg [(.pv (.bool i)), (.pv (T_id_halves.pv i2))])] [] [] ([(.agg [(.pv (.bool b)), (.pv (T_id_halves.pv t))])], [], []),
    Runs Try.prog 45 [(.agg [(.pv (.bool i)), (.pv (T_id_halves.pv i2))])] [] [] ([(.agg [(.pv (.bool b)), (.pv (T_id_halves.pv t))])], [], []),
    Runs Try.prog 45 [(.agg [(.pv (.bool i)), (.pv (T_id_halves.pv i2))])] [] [] ([(.agg [(.pv (.bool b)), (.pv (T_id_halves.pv t))])], [], []),
    Runs Try.prog 45 [(.agg [(.pv (.bool i)), (.pv (T_id_halves.pv i2))])] [] [] ([(.agg [(.pv (.bool b)), (.pv (T_id_halves.pv t))])], [], []),
    Runs Try.prog 45 [(.agg [(.pv (.bool i)), (.pv (T_id_halves.pv i2))])] [] [] ([(.agg [(.pv (.bool b)), (.pv (T_id_halves.pv t))])], [], []),
    Runs Try.prog 45 [(.agg [(.pv (.bool i)), (.pv (T_id_halves.pv i2))])] [] [] ([(.agg [(.pv (.bool b)), (.pv (T_id_halves.pv t))])], [], []),
    Runs Try.prog 45 [(.agg [(.pv (.bool i)), (.pv (T_id_halves.pv i2))])] [] [] ([(.agg [(.pv (.bool b)), (.pv (T_id_halves.pv t))])], [], []),
    Runs Try.prog 46 [(.agg [(.pv (.bool i)), (.pv (T_id_halves.pv i2))])] [] [] ([(.agg [(.pv (.bool b2)), (.pv (T_id_halves.pv t2))])], [], []),
    Runs Try.prog 46 [(.agg [(.pv (.bool i)), (.pv (T_id_halves.pv i2))])] [] [] ([(.agg [(.pv (.bool b2)), (.pv (T_id_halves.pv t2))])], [], []),
    Runs Try.prog 46 [(.agg [(.pv (.bool i)), (.pv (T_id_halves.pv i2))])] [] [] ([(.agg [(.pv (.bool b2)), (.pv (T_id_halves.pv t2))])], [], []),
    Runs Try.prog 45 [(.agg [(.pv (.bool i)), (.pv (T_id_halves.pv i2))])] [] [] ([(.agg [(.pv (.bool b)), (.pv (T_id_halves.pv t))])], [], []),
    Runs Try.prog 46 [(.agg [(.pv (.bool i)), (.pv (T_id_halves.pv i2))])] [] [] ([(.agg [(.pv (.bool b2)), (.pv (T_id_halves.pv t2))])], [], []),
    Runs Try.prog 47 [(.agg [(.pv (.bool i)), (.pv (T_id_halves.pv i2))])] [] [] ([(.one (.pv (.bool b3)))], [], []),
    b3 = false,
    Runs Try.prog 48 [(.agg [(.pv (.bool i)), (.pv (T_id_halves.pv i2))])] [] [] ([(.one (.pv (.bool i)))], [], []),
    i = false,
    Runs Try.prog 47 [(.agg [(.pv (.bool b)), (.pv (T_id_halves.pv t))])] [] [] ([(.one (.pv (.bool b4)))], [], []),
    b4 = false,
    Runs Try.prog 47 [(.agg [(.pv (.bool b2)), (.pv (T_id_halves.pv t2))])] [] [] ([(.one (.pv (.bool b5)))], [], []),
    b5 = true,
    Runs Try.prog 18 [(.one (.ref 0 0)), (.one (.pv (.int .u64 2))), (.one (.pv (.int .i64 2)))] [[(.own 0 0 (l).length false), (.pv (.int .i64 n))]] [(.ints .u8 l)] ([], [[(.own 0 0 (l_).length false), (.pv (.int .i64 n2))]], [(.ints .u8 l_)]),
    Runs Try.prog 17 [(.one (.ref 0 0)), (.agg [(.pv (.bool b)), (.pv (T_id_halves.pv t))])] [[(.own 0 0 (l_).length false), (.pv (.int .i64 n2))]] [(.ints .u8 l_)] ([], [[(.own 0 0 (l_2).length false), (.pv (.int .i64 n3))]], [(.ints .u8 l_2)])] := ⟨by kernel_rfl, by kernel_rfl⟩
theorem code_PutID_2_p4 (i : Bool) (i2 : T_id_halves) (n : Int) (l : List Int) (b : Bool) (t : T_id_halves) (b2 : Bool) (t2 : T_id_halves) (b3 : Bool) (b4 : Bool) (b5 : Bool) (n2 : Int) (l_ : List Int) (n3 : Int) (l_2 : List Int) (n4 : Int) (l_3 : List Int) : both (evFn Try.prog cfg (Runs Try.prog) (LRuns Try.prog (lEnv Try.prog cfg 17 1).nt 1) 17 [(.one (.ref 0 0)), (.agg [(.pv (.bool i)), (.pv (T_id_halves.pv i2))])] [[(.own 0 0 (l).length false), (.pv (.int .i64 n))]] [(.ints .u8 l)]
    [.res ([(.agg [(.pv (.bool b)), (.pv (T_id_halves.pv t))])], [], []), .res ([(.agg [(.pv (.bool b)), (.pv (T_id_halves.pv t))])], [], []), .res ([(.agg [(.pv (.bool b)), (.pv (T_id_halves.pv t))])], [], []), .res ([(.agg [(.pv (.bool b)), (.pv (T_id_halves.pv t))])], [], []), .res ([(.agg [(.pv (.bool b)), (.pv (T_id_halves.pv t))])], [], []), .res ([(.agg [(.pv (.bool b)), (.pv (T_id_halves.pv t))])], [], []), .res ([(.agg [(.pv (.bool b)), (.pv (T_id_halves.pv t))])], [], []), .res ([(.agg [(.pv (.bool b2)), (.pv (T_id_halves.pv t2))])], [], []), .res ([(.agg [(.pv (.bool b2)), (.pv (T_id_halves.pv t2))])], [], []), .res ([(.agg [(.pv (.bool b2)), (.pv (T_id_halves.pv t2))])], [], []), .res ([(.agg [(.pv (.bool b)), (.pv (T_id_halves.pv t))])], [], []), .res ([(.agg [(.pv (.bool b2)), (.pv (T_id_halves.pv t2))])], [], []), .res ([(.one (.pv (.bool b3)))], [], []), .br false, .res ([(.one (.pv (.bool i)))], [], []), .br false, .res ([(.one (.pv (.bool b4)))], [], []), .br false, .res ([(.one (.pv (.bool b5)))], [], []), .br false, .res ([], [[(.own 0 0 (l_).length false), (.pv (.int .i64 n2))]], [(.ints .u8 l_)]), .res ([], [[(.own 0 0 (l_2).length false), (.pv (.int .i64 n3))]], [(.ints .u8 l_2)]), .res ([], [[(.own 0 0 (l_3).length false), (.pv (.int .i64 n4))]], [(.ints .u8 l_3)])]) (([], [[(.own 0 0 (l_3).length false), (.pv (.int .i64 n4))]], [(.ints .u8 l_3)])) [
    Runs Try.prog 45 [(.agg [(.pv (.bool i)), (.pv (T_id_halves.pv i2))])] [] [] ([(.agg [(.pv (.bool b)), (.pv (T_id_halves.pv t))])], [], []),
    Runs Try.prog 45 [(.agg [(.pv (.bool i)), (.pv (T_id_halves.pv i2))])] [] [] ([(.agg [(.pv (.bool b)), (.pv (T_id_halves.pv t))])], [], []),
    Runs Try.prog 45 [(.agg [(.pv (.bool i)), (.pv (T_id_halves.pv i2))])] [] [] ([(.agg [(.pv (.bool b)), (.pv (T_id_halves.pv t))])], [], []),
    Runs Try.prog 45 [(.agg [(.pv (.bool i)), (.pv (T_id_halves.pv i2))])] [] [] ([(.agg [(.pv (.bool b)), (.pv (T_id_halves.pv t))])], [], []),
    Runs Try.prog 45 [(.agg [(.pv (.bool i)), (.pv (T_id_halves.pv i2))])] [] [] ([(.agg [(.pv (.bool b)), (.pv (T_id_halves.pv t))])], [], []),
    Runs Try.prog 45 [(.agg [(.pv (.bool i)), (.pv (T_id_halves.pv i2))])] [] [] ([(.agg [(.pv (.bool b)), (.pv (T_id_halves.pv t))])], [], []),
    Runs Try.prog 45 [(.agg [(.pv (.bool i)), (.pv (T_id_halves.pv i2))])] [] [] ([(.agg [(.pv (.bool b)), (.pv (T_id_halves.pv t))])], [], []),
    Runs Try.prog 46 [(.agg [(.pv (.bool i)), (.pv (T_id_halves.pv i2))])] [] [] ([(.agg [(.pv (.bool b2)), (.pv (T_id_halves.pv t2))])], [], []),
    Runs Try.prog 46 [(.agg [(.pv (.bool i)), (.pv (T_id_halves.pv i2))])] [] [] ([(.agg [(.pv (.bool b2)), (.pv (T_id_halves.pv t2))])], [], []),
    Runs Try.prog 46 [(.agg [(.pv (.bool i)), (.pv (T_id_halves.pv i2))])] [] [] ([(.agg [(.pv (.bool b2)), (.pv (T_id_halves.pv t2))])], [], []),
    Runs Try.prog 45 [(.agg [(.pv (.bool i)), (.pv (T_id_halves.pv i2))])] [] [] ([(.agg [(.pv (.bool b)), (.pv (T_id_halves.pv t))])], [], []),
    Runs Try.prog 46 [(.agg [(.pv (.bool i)), (.pv (T_id_halves.pv i2))])] [] [] ([(.agg [(.pv (.bool b2)), (.pv (T_id_halves.pv t2))])], [], []),
    Runs Try.prog 47 [(.agg [(.pv (.bool i)), (.pv (T_id_halves.pv i2))])] [] [] ([(.one (.pv (.bool b3)))], [], []),
    b3 = false,
    Runs Try.prog 48 [(.agg [(.pv (.bool i)), (.pv (T_id_halves.pv i2))])] [] [] ([(.one (.pv (.bool i)))], [], []),
    i = false,
    Runs Try.prog 47 [(.agg [(.pv (.bool b)), (.pv (T_id_halves.pv t))])] [] [] ([(.one (.pv (.bool b4)))], [], []),
    b4 = false,
    Runs Try.prog 47 [(.agg [(.pv (.bool b2)), (.pv (T_id_halves.pv t2))])] [] [] ([(.one (.pv (.bool b5)))], [], []),
    b5 = false,
    Runs Try.prog 18 [(.one (.ref 0 0)), (.one (.pv (.int .u64 3))), (.one (.pv (.int .i64 2)))] [[(.own 0 0 (l).length false), (.pv (.int .i64 n))]] [(.ints .u8 l)] ([], [[(.own 0 0 (l_).length false), (.pv (.int .i64 n2))]], [(.ints .u8 l_)]),
    Runs Try.prog 17 [(.one (.ref 0 0)), (.agg [(.pv (.bool b)), (.pv (T_id_halves.pv t))])] [[(.own 0 0 (l_).length false), (.pv (.int .i64 n2))]] [(.ints .u8 l_)] ([], [[(.own 0 0 (l_2).length false), (.pv (.int .i64 n3))]], [(.ints .u8 l_2)]),
    Runs Try.prog 17 [(.one (.ref 0 0)), (.agg [(.pv (.bool b2)), (.pv (T_id_halves.pv t2))])] [[(.own 0 0 (l_2).length false), (.pv (.int .i64 n3))]] [(.ints .u8 l_2)] ([], [[(.own 0 0 (l_3).length false), (.pv (.int .i64 n4))]], [(.ints .u8 l_3)])] := ⟨by kernel_rfl, by kernel_rfl⟩
noncomputable def code_PutID_2_b (rec_code_PutID_2 : Bool → T_id_halves → Int → List Int → Option (Int × List Int)) (i : Bool) (i2 : T_id_halves) (n : Int) (l : List Int) : Option (Int × List Int) :=
  (id_ID_Left i i2).bind fun (b, t) =>
  (id_ID_Right i i2).bind fun (b2, t2) =>
  (id_ID_IsZero i i2).bind fun b3 =>
  bif b3 then
    (bits_Writer_Put_2 0 2 n l).bind fun (n2, l_) =>
    (bits_Writer_Put_2 0 1 n2 l_).bind fun (n3, l_2) =>
    some (n3, l_2)
  else
    (id_ID_IsOne i i2).bind fun _ =>
    bif i then
      (bits_Writer_Put_2 0 2 n l).bind fun (n2, l_) =>
      (bits_Writer_Put_2 1 1 n2 l_).bind fun (n3, l_2) =>
      some (n3, l_2)
    else
      (id_ID_IsZero b t).bind fun b4 =>
      bif b4 then
        (bits_Writer_Put_2 1 2 n l).bind fun (n2, l_) =>
        (rec_code_PutID_2 b2 t2 n2 l_).bind fun (n3, l_2) =>
        some (n3, l_2)
      else
        (id_ID_IsZero b2 t2).bind fun b5 =>
        bif b5 then
          (bits_Writer_Put_2 2 2 n l).bind fun (n2, l_) =>
          (rec_code_PutID_2 b t n2 l_).bind fun (n3, l_2) =>
          some (n3, l_2)
        else
          (bits_Writer_Put_2 3 2 n l).bind fun (n2, l_) =>
          (rec_code_PutID_2 b t n2 l_).bind fun (n3, l_2) =>
          (rec_code_PutID_2 b2 t2 n3 l_2).bind fun (n4, l_3) =>
          some (n4, l_3)
theorem code_PutID_2_b_runs (rec_code_PutID_2 : Bool → T_id_halves → Int → List Int → Option (Int × List Int)) (hrec_code_PutID_2 : ∀ i i2 n l r_, rec_code_PutID_2 i i2 n l = some r_ → Runs Try.prog 17 [(.one (.ref 0 0)), (.agg [(.pv (.bool i)), (.pv (T_id_halves.pv i2))])] [[(.own 0 0 (l).length false), (.pv (.int .i64 n))]] [(.ints .u8 l)] (code_PutID_2_out i i2 n l r_)) (i : Bool) (i2 : T_id_halves) (n : Int) (l : List Int) (r_ : Int × List Int) (h : code_PutID_2_b rec_code_PutID_2 i i2 n l = some r_) : Runs Try.prog 17 [(.one (.ref 0 0)), (.agg [(.pv (.bool i)), (.pv (T_id_halves.pv i2))])] [[(.own 0 0 (l).length false), (.pv (.int .i64 n))]] [(.ints .u8 l)] (code_PutID_2_out i i2 n l r_) := by
  unfold code_PutID_2_b at h
  obtain ⟨⟨b, t⟩, h1, h⟩ := bind_of h
  obtain ⟨⟨b2, t2⟩, h2, h⟩ := bind_of h
  obtain ⟨b3, h3, h⟩ := bind_of h
  rcases cond_of h with ⟨h4, h⟩ | ⟨h4, h⟩
  · obtain ⟨⟨n2, l_⟩, h5, h⟩ := bind_of h
    obtain ⟨⟨n3, l_2⟩, h6, h⟩ := bind_of h
    have h := some_of h
    subst h
    have e_ := code_PutID_2_p0 i i2 n l b t b2 t2 b3 n2 l_ n3 l_2
    have e_ := runs_of (objs := [[(.own 0 0 (l).length false), (.pv (.int .i64 n))]]) (Says.of2 e_ ⟨(id_ID_Left_runs i i2 _ h1), (id_ID_Left_runs i i2 _ h1), (id_ID_Left_runs i i2 _ h1), (id_ID_Left_runs i i2 _ h1), (id_ID_Left_runs i i2 _ h1), (id_ID_Left_runs i i2 _ h1), (id_ID_Left_runs i i2 _ h1), (id_ID_Right_runs i i2 _ h2), (id_ID_Right_runs i i2 _ h2), (id_ID_Right_runs i i2 _ h2), (id_ID_Left_runs i i2 _ h1), (id_ID_Right_runs i i2 _ h2), (id_ID_IsZero_runs i i2 _ h3), h4, (bits_Writer_Put_2_runs 0 2 n l _ h5), (bits_Writer_Put_2_runs 0 1 n2 l_ _ h6), trivial⟩)
    exact e_
  · obtain ⟨_, h5, h⟩ := bind_of h
    rcases cond_of h with ⟨h6, h⟩ | ⟨h6, h⟩
    · obtain ⟨⟨n2, l_⟩, h7, h⟩ := bind_of h
      obtain ⟨⟨n3, l_2⟩, h8, h⟩ := bind_of h
      have h := some_of h
      subst h
      have e_ := code_PutID_2_p1 i i2 n l b t b2 t2 b3 n2 l_ n3 l_2
      have e_ := runs_of (objs := [[(.own 0 0 (l).length false), (.pv (.int .i64 n))]]) (Says.of2 e_ ⟨(id_ID_Left_runs i i2 _ h1), (id_ID_Left_runs i i2 _ h1), (id_ID_Left_runs i i2 _ h1), (id_ID_Left_runs i i2 _ h1), (id_ID_Left_runs i i2 _ h1), (id_ID_Left_runs i i2 _ h1), (id_ID_Left_runs i i2 _ h1), (id_ID_Right_runs i i2 _ h2), (id_ID_Right_runs i i2 _ h2), (id_ID_Right_runs i i2 _ h2), (id_ID_Left_runs i i2 _ h1), (id_ID_Right_runs i i2 _ h2), (id_ID_IsZero_runs i i2 _ h3), h4, (id_ID_IsOne_runs i i2 _ h5), h6, (bits_Writer_Put_2_runs 0 2 n l _ h7), (bits_Writer_Put_2_runs 1 1 n2 l_ _ h8), trivial⟩)
      exact e_
    · obtain ⟨b4, h7, h⟩ := bind_of h
      rcases cond_of h with ⟨h8, h⟩ | ⟨h8, h⟩
      · obtain ⟨⟨n2, l_⟩, h9, h⟩ := bind_of h
        obtain ⟨⟨n3, l_2⟩, h10, h⟩ := bind_of h
        have h := some_of h
        subst h
        have e_ := code_PutID_2_p2 i i2 n l b t b2 t2 b3 b4 n2 l_ n3 l_2
        have e_ := runs_of (objs := [[(.own 0 0 (l).length false), (.pv (.int .i64 n))]]) (Says.of2 e_ ⟨(id_ID_Left_runs i i2 _ h1), (id_ID_Left_runs i i2 _ h1), (id_ID_Left_runs i i2 _ h1), (id_ID_Left_runs i i2 _ h1), (id_ID_Left_runs i i2 _ h1), (id_ID_Left_runs i i2 _ h1), (id_ID_Left_runs i i2 _ h1), (id_ID_Right_runs i i2 _ h2), (id_ID_Right_runs i i2 _ h2), (id_ID_Right_runs i i2 _ h2), (id_ID_Left_runs i i2 _ h1), (id_ID_Right_runs i i2 _ h2), (id_ID_IsZero_runs i i2 _ h3), h4, (id_ID_IsOne_runs i i2 _ h5), h6, (id_ID_IsZero_runs b t _ h7), h8, (bits_Writer_Put_2_runs 1 2 n l _ h9), (hrec_code_PutID_2 b2 t2 n2 l_ _ h10), trivial⟩)
        exact e_
      · obtain ⟨b5, h9, h⟩ := bind_of h
        rcases cond_of h with ⟨h10, h⟩ | ⟨h10, h⟩
        · obtain ⟨⟨n2, l_⟩, h11, h⟩ := bind_of h
          obtain ⟨⟨n3, l_2⟩, h12, h⟩ := bind_of h
          have h := some_of h
          subst h
          have e_ := code_PutID_2_p3 i i2 n l b t b2 t2 b3 b4 b5 n2 l_ n3 l_2
          have e_ := runs_of (objs := [[(.own 0 0 (l).length false), (.pv (.int .i64 n))]]) (Says.of2 e_ ⟨(id_ID_Left_runs i i2 _ h1), (id_ID_Left_runs i i2 _ h1), (id_ID_Left_runs i i2 _ h1), (id_ID_Left_runs i i2 _ h1), (id_ID_Left_runs i i2 _ h1), (id_ID_Left_runs i i2 _ h1), (id_ID_Left_runs i i2 _ h1), (id_ID_Right_runs i i2 _ h2), (id_ID_Right_runs i i2 _ h2), (id_ID_Right_runs i i2 _ h2), (id_ID_Left_runs i i2 _ h1), (id_ID_Right_runs i i2 _ h2), (id_ID_IsZero_runs i i2 _ h3), h4, (id_ID_IsOne_runs i i2 _ h5), h6, (id_ID_IsZero_runs b t _ h7), h8, (id_ID_IsZero_runs b2 t2 _ h9), h10, (bits_Writer_Put_2_runs 2 2 n l _ h11), (hrec_code_PutID_2 b t n2 l_ _ h12), trivial⟩)
          exact e_
        · obtain ⟨⟨n2, l_⟩, h11, h⟩ := bind_of h
          obtain ⟨⟨n3, l_2⟩, h12, h⟩ := bind_of h
          obtain ⟨⟨n4, l_3⟩, h13, h⟩ := bind_of h
          have h := some_of h
          subst h
          have e_ := code_PutID_2_p4 i i2 n l b t b2 t2 b3 b4 b5 n2 l_ n3 l_2 n4 l_3
          have e_ := runs_of (objs := [[(.own 0 0 (l).length false), (.pv (.int .i64 n))]]) (Says.of2 e_ ⟨(id_ID_Left_runs i i2 _ h1), (id_ID_Left_runs i i2 _ h1), (id_ID_Left_runs i i2 _ h1), (id_ID_Left_runs i i2 _ h1), (id_ID_Left_runs i i2 _ h1), (id_ID_Left_runs i i2 _ h1), (id_ID_Left_runs i i2 _ h1), (id_ID_Right_runs i i2 _ h2), (id_ID_Right_runs i i2 _ h2), (id_ID_Right_runs i i2 _ h2), (id_ID_Left_runs i i2 _ h1), (id_ID_Right_runs i i2 _ h2), (id_ID_IsZero_runs i i2 _ h3), h4, (id_ID_IsOne_runs i i2 _ h5), h6, (id_ID_IsZero_runs b t _ h7), h8, (id_ID_IsZero_runs b2 t2 _ h9), h10, (bits_Writer_Put_2_runs 3 2 n l _ h11), (hrec_code_PutID_2 b t n2 l_ _ h12), (hrec_code_PutID_2 b2 t2 n3 l_2 _ h13), trivial⟩)
          exact e_
noncomputable def code_PutID_2 : Nat → Bool → T_id_halves → Int → List Int → Option (Int × List Int)
  | 0, _, _, _, _ => none
  | N + 1, i, i2, n, l => code_PutID_2_b (code_PutID_2 N) i i2 n l
theorem code_PutID_2_runs : ∀ (N : Nat) (i : Bool) (i2 : T_id_halves) (n : Int) (l : List Int) (r_ : Int × List Int), code_PutID_2 N i i2 n l = some r_ → Runs Try.prog 17 [(.one (.ref 0 0)), (.agg [(.pv (.bool i)), (.pv (T_id_halves.pv i2))])] [[(.own 0 0 (l).length false), (.pv (.int .i64 n))]] [(.ints .u8 l)] (code_PutID_2_out i i2 n l r_)
  | 0, _, _, _, _, _, h => by cases h
  | N + 1, i, i2, n, l, r_, h => code_PutID_2_b_runs (code_PutID_2 N) (code_PutID_2_runs N) i i2 n l r_ h
/-! ### code_PutID -/
theorem code_PutID_p0 (i : Bool) (i2 : T_id_halves) (n : Int) (b : Bool) (t : T_id_halves) (b2 : Bool) (t2 : T_id_halves) (b3 : Bool) (n2 : Int) (l_ : List Int) (n3 : Int) (l_2 : List Int) : both (evFn Try.prog cfg (Runs Try.prog) (LRuns Try.prog (lEnv Try.prog cfg 17 1).nt 1) 17 [(.one (.ref 0 0)), (.agg [(.pv (.bool i)), (.pv (T_id_halves.pv i2))])] [[(.pv .nils), (.pv (.int .i64 n))]] []
    [.res ([(.agg [(.pv (.bool b)), (.pv (T_id_halves.pv t))])], [], []), .res ([(.agg [(.pv (.bool b)), (.pv (T_id_halves.pv t))])], [], []), .res ([(.agg [(.pv (.bool b)), (.pv (T_id_halves.pv t))])], [], []), .res ([(.agg [(.pv (.bool b)), (.pv (T_id_halves.pv t))])], [], []), .res ([(.agg [(.pv (.bool b)), (.pv (T_id_halves.pv t))])], [], []), .res ([(.agg [(.pv (.bool b)), (.pv (T_id_halves.pv t))])], [], []), .res ([(.agg [(.pv (.bool b)), (.pv (T_id_halves.pv t))])], [], []), .res ([(.agg [(.pv (.bool b2)), (.pv (T_id_halves.pv t2))])], [], []), .res ([(.agg [(.pv (.bool b2)), (.pv (T_id_halves.pv t2))])], [], []), .res ([(.agg [(.pv (.bool b2)), (.pv (T_id_halves.pv t2))])], [], []), .res ([(.agg [(.pv (.bool b)), (.pv (T_id_halves.pv t))])], [], []), .res ([(.agg [(.pv (.bool b2)), (.pv (T_id_halves.pv t2))])], [], []), .res ([(.one (.pv (.bool b3)))], [], []), .br true, .res ([], [[(.own 0 0 (l_).length false), (.pv (.int .i64 n2))]], [(.ints .u8 l_)]), .res ([], [[(.own 0 0 (l_2).length false), (.pv (.int .i64 n3))]], [(.ints .u8 l_2)])]) (([], [[(.own 0 0 (l_2).length false), (.pv (.int .i64 n3))]], [(.ints .u8 l_2)])) [
    Runs Try.prog 45 [(.agg [(.pv (.bool i)), (.pv (T_id_halves.pv i2))])] [] [] ([(.agg [(.pv (.bool b)), (.pv (T_id_halves.pv t))])], [], []),
    Runs Try.prog 45 [(.agg [(.pv (.bool i)), (.pv (T_id_halves.pv i2))])] [] [] ([(.agg [(.pv (.bool b)), (.pv (T_id_halves.pv t))])], [], []),
    Runs Try.prog 45 [(.agg [(.pv (.bool i)), (.pv (T_id_halves.pv i2))])] [] [] ([(.agg [(.pv (.bool b)), (.pv (T_id_halves.pv t))])], [], []),
    Runs Try.prog 45 [(.agg [(.pv (.bool i)), (.pv (T_id_halves.pv i2))])] [] [] ([(.agg [(.pv (.bool b)), (.pv (T_id_halves.pv t))])], [], []),
    Runs Try.prog 45 [(.agg [(.pv (.bool i)), (.pv (T_id_halves.pv i2))])] [] [] ([(.agg [(.pv (.bool b)), (.pv (T_id_halves.pv t))])], [], []),
    Runs Try.prog 45 [(.agg [(.pv (.bool i)), (.pv (T_id_halves.pv i2))])] [] [] ([(.agg [(.pv (.bool b)), (.pv (T_id_halves.pv t))])], [], []),
    Runs Try.prog 45 [(.agg [(.pv (.bool i)), (.pv (T_id_halves.pv i2))])] [] [] ([(.agg [(.pv (.bool b)), (.pv (T_id_halves.pv t))])], [], []),
    Runs Try.prog 46 [(.agg [(.pv (.bool i)), (.pv (T_id_halves.pv i2))])] [] [] ([(.agg [(.pv (.bool b2)), (.pv (T_id_halves.pv t2))])], [], []),
    Runs Try.prog 46 [(.agg [(.pv (.bool i)), (.pv (T_id_halves.pv i2))])] [] [] ([(.agg [(.pv (.bool b2)), (.pv (T_id_halves.pv t2))])], [], []),
    Runs Try.prog 46 [(.agg [(.pv (.bool i)), (.pv (T_id_halves.pv i2))])] [] [] ([(.agg [(.pv (.bool b2)), (.pv (T_id_halves.pv t2))])], [], []),
    Runs Try.prog 45 [(.agg [(.pv (.bool i)), (.pv (T_id_halves.pv i2))])] [] [] ([(.agg [(.pv (.bool b)), (.pv (T_id_halves.pv t))])], [], []),
    Runs Try.prog 46 [(.agg [(.pv (.bool i)), (.pv (T_id_halves.pv i2))])] [] [] ([(.agg [(.pv (.bool b2)), (.pv (T_id_halves.pv t2))])], [], []),
    Runs Try.prog 47 [(.agg [(.pv (.bool i)), (.pv (T_id_halves.pv i2))])] [] [] ([(.one (.pv (.bool b3)))], [], []),
    b3 = true,
    Runs Try.prog 18 [(.one (.ref 0 0)), (.one (.pv (.int .u64 0))), (.one (.pv (.int .i64 2)))] [[(.pv .nils), (.pv (.int .i64 n))]] [] ([], [[(.own 0 0 (l_).length false), (.pv (.int .i64 n2))]], [(.ints .u8 l_)]),
    Runs Try.prog 18 [(.one (.ref 0 0)), (.one (.pv (.int .u64 0))), (.one (.pv (.int .i64 1)))] [[(.own 0 0 (l_).length false), (.pv (.int .i64 n2))]] [(.ints .u8 l_)] ([], [[(.own 0 0 (l_2).length false), (.pv (.int .i64 n3))]], [(.ints .u8 l_2)])] := ⟨by kernel_rfl, by kernel_rfl⟩
theorem code_PutID_p1 (i : Bool) (i2 : T_id_halves) (n : Int) (b : Bool) (t : T_id_halves) (b2 : Bool) (t2 : T_id_halves) (b3 : Bool) (n2 : Int) (l_ : List Int) (n3 : Int) (l_2 : List Int) : both (evFn Try.prog cfg (Runs Try.prog) (LRuns Try.prog (lEnv Try.prog cfg 17 1).nt 1) 17 [(.one (.ref 0 0)), (.agg [(.pv (.bool i)), (.pv (T_id_halves.pv i2))])] [[(.pv .nils), (.pv (.int .i64 n))]] []
    [.res ([(.agg [(.pv (.bool b)), (.pv (T_id_halves.pv t))])], [], []), .res ([(.agg [(.pv (.bool b)), (.pv (T_id_halves.pv t))])], [], []), .res ([(.agg [(.pv (.bool b)), (.pv (T_id_halves.pv t))])], [], []), .res ([(.agg [(.pv (.bool b)), (.pv (T_id_halves.pv t))])], [], []), .res ([(.agg [(.pv (.bool b)), (.pv (T_id_halves.pv t))])], [], []), .res ([(.agg [(.pv (.bool b)), (.pv (T_id_halves.pv t))])], [], []), .res ([(.agg [(.pv (.bool b)), (.pv (T_id_halves.pv t))])], [], []), .res ([(.agg [(.pv (.bool b2)), (.pv (T_id_halves.pv t2))])], [], []), .res ([(.agg [(.pv (.bool b2)), (.pv (T_id_halves.pv t2))])], [], []), .res ([(.agg [(.pv (.bool b2)), (.pv (T_id_halves.pv t2))])], [], []), .res ([(.agg [(.pv (.bool b)), (.pv (T_id_halves.pv t))])], [], []), .res ([(.agg [(.pv (.bool b2)), (.pv (T_id_halves.pv t2))])], [], []), .res ([(.one (.pv (.bool b3)))], [], []), .br false, .res ([(.one (.pv (.bool i)))], [], []), .br true, .res ([], [[(.own 0 0 (l_).length false), (.pv (.int .i64 n2))]], [(.ints .u8 l_)]), .res ([], [[(.own 0 0 (l_2).length false), (.pv (.int .i64 n3))]], [(.ints .u8 l_2)])]) (([], [[(.own 0 0 (l_2).length false), (.pv (.int .i64 n3))]], [(.ints .u8 l_2)])) [
    Runs Try.prog 45 [(.agg [(.pv (.bool i)), (.pv (T_id_halves.pv i2))])] [] [] ([(.agg [(.pv (.bool b)), (.pv (T_id_halves.pv t))])], [], []),
    Runs Try.prog 45 [(.agg [(.pv (.bool i)), (.pv (T_id_halves.pv i2))])] [] [] ([(.agg [(.pv (.bool b)), (.pv (T_id_halves.pv t))])], [], []),
    Runs Try.prog 45 [(.agg [(.pv (.bool i)), (.pv (T_id_halves.pv i2))])] [] [] ([(.agg [(.pv (.bool b)), (.pv (T_id_halves.pv t))])], [], []),
    Runs Try.prog 45 [(.agg [(.pv (.bool i)), (.pv (T_id_halves.pv i2))])] [] [] ([(.agg [(.pv (.bool b)), (.pv (T_id_halves.pv t))])], [], []),
    Runs Try.prog 45 [(.agg [(.pv (.bool i)), (.pv (T_id_halves.pv i2))])] [] [] ([(.agg [(.pv (.bool b)), (.pv (T_id_halves.pv t))])], [], []),
    Runs Try.prog 45 [(.agg [(.pv (.bool i)), (.pv (T_id_halves.pv i2))])] [] [] ([(.agg [(.pv (.bool b)), (.pv (T_id_halves.pv t))])], [], []),
    Runs Try.prog 45 [(.agg [(.pv (.bool i)), (.pv (T_id_halves.pv i2))])] [] [] ([(.agg [(.pv (.bool b)), (.pv (T_id_halves.pv t))])], [], []),
    Runs Try.prog 46 [(.agg [(.pv (.bool i)), (.pv (T_id_halves.pv i2))])] [] [] ([(.agg [(.pv (.bool b2)), (.pv (T_id_halves.pv t2))])], [], []),
    Runs Try.prog 46 [(.agg [(.pv (.bool i)), (.pv (T_id_halves.pv i2))])] [] [] ([(.agg [(.pv (.bool b2)), (.pv (T_id_halves.pv t2))])], [], []),
    Runs Try.prog 46 [(.agg [(.pv (.bool i)), (.pv (T_id_halves.pv i2))])] [] [] ([(.agg [(.pv (.bool b2)), (.pv (T_id_halves.pv t2))])], [], []),
    Runs Try.prog 45 [(.agg [(.pv (.bool i)), (.pv (T_id_halves.pv i2))])] [] [] ([(.agg [(.pv (.bool b)), (.pv (T_id_halves.pv t))])], [], []),
    Runs Try.prog 46 [(.agg [(.pv (.bool i)), (.pv (T_id_halves.pv i2))])] [] [] ([(.agg [(.pv (.bool b2)), (.pv (T_id_halves.pv t2))])], [], []),
    Runs Try.prog 47 [(.agg [(.pv (.bool i)), (.pv (T_id_halves.pv i2))])] [] [] ([(.one (.pv (.bool b3)))], [], []),
    b3 = false,
    Runs Try.prog 48 [(.agg [(.pv (.bool i)), (.pv (T_id_halves.pv i2))])] [] [] ([(.one (.pv (.bool i)))], [], []),
    i = true,
    Runs Try.prog 18 [(.one (.ref 0 0)), (.one (.pv (.int .u64 0))), (.one (.pv (.int .i64 2)))] [[(.pv .nils), (.pv (.int .i64 n))]] [] ([], [[(.own 0 0 (l_).length false), (.pv (.int .i64 n2))]], [(.ints .u8 l_)]),
    Runs Try.prog 18 [(.one (.ref 0 0)), (.one (.pv (.int .u64 1))), (.one (.pv (.int .i64 1)))] [[(.own 0 0 (l_).length false), (.pv (.int .i64 n2))]] [(.ints .u8 l_)] ([], [[(.own 0 0 (l_2).length false), (.pv (.int .i64 n3))]], [(.ints .u8 l_2)])] := ⟨by kernel_rfl, by kernel_rfl⟩
theorem code_PutID_p2 (i : Bool) (i2 : T_id_halves) (n : Int) (b : Bool) (t : T_id_halves) (b2 : Bool) (t2 : T_id_halves) (b3 : Bool) (b4 : Bool) (n2 : Int) (l_ : List Int) (n3 : Int) (l_2 : List Int) : both (evFn Try.prog cfg (Runs Try.prog) (LRuns Try.prog (lEnv Try.prog cfg 17 1).nt 1) 17 [(.one (.ref 0 0)), (.agg [(.pv (.bool i)), (.pv (T_id_halves.pv i2))])] [[(.pv .nils), (.pv (.int .i64 n))]] []
    [.res ([(.agg [(.pv (.bool b)), (.pv (T_id_halves.pv t))])], [], []), .res ([(.agg [(.pv (.bool b)), (.pv (T_id_halves.pv t))])], [], []), .res ([(.agg [(.pv (.bool b)), (.pv (T_id_halves.pv t))])], [], []), .res ([(.agg [(.pv (.bool b)), (.pv (T_id_halves.pv t))])], [], []), .res ([(.agg [(.pv (.bool b)), (.pv (T_id_halves.pv t))])], [], []), .res ([(.agg [(.pv (.bool b)), (.pv (T_id_halves.pv t))])], [], []), .res ([(.agg [(.pv (.bool b)), (.pv (T_id_halves.pv t))])], [], []), .res ([(.agg [(.pv (.bool b2)), (.pv (T_id_halves.pv t2))])], [], []), .res ([(.agg [(.pv (.bool b2)), (.pv (T_id_halves.pv t2))])], [], []), .res ([(.agg [(.pv (.bool b2)), (.pv (T_id_halves.pv t2))])], [], []), .res ([(.agg [(.pv (.bool b)), (.pv (T_id_halves.pv t))])], [], []), .res ([(.agg [(.pv (.bool b2)), (.pv (T_id_halves.pv t2))])], [], []), .res ([(.one (.pv (.bool b3)))], [], []), .br false, .res ([(.one (.pv (.bool i)))], [], []), .br false, .res ([(.one (.pv (.bool b4)))], [], []), .br true, .res ([], [[(.own 0 0 (l_).length false), (.pv (.int .i64 n2))]], [(.ints .u8 l_)]), .res ([], [[(.own 0 0 (l_2).length false), (.pv (.int .i64 n3))]], [(.ints .u8 l_2)])]) (([], [[(.own 0 0 (l_2).length false), (.pv (.int .i64 n3))]], [(.ints .u8 l_2)])) [
    Runs Try.prog 45 [(.agg [(.pv (.bool i)), (.pv (T_id_halves.pv i2))])] [] [] ([(.agg [(.pv (.bool b)), (.pv (T_id_halves.pv t))])], [], []),
    Runs Try.prog 45 [(.agg [(.pv (.bool i)), (.pv (T_id_halves.pv i2))])] [] [] ([(.agg [(.pv (.bool b)), (.pv (T_id_halves.pv t))])], [], []),
    Runs Try.prog 45 [(.agg [(.pv (.bool i)), (.pv (T_id_halves.pv i2))])] [] [] ([(.agg [(.pv (.bool b)), (.pv (T_id_halves.pv t))])], [], []),
    Runs Try.prog 45 [(.agg [(.pv (.bool i)), (.pv (T_id_halves.pv i2))])] [] [] ([(.agg [(.pv (.bool b)), (.pv (T_id_halves.pv t))])], [], []),
    Runs Try.prog 45 [(.agg [(.pv (.bool i)), (.pv (T_id_halves.pv i2))])] [] [] ([(.agg [(.pv (.bool b)), (.pv (T_id_halves.pv t))])], [], []),
    Runs Try.prog 45 [(.agg [(.pv (.bool i)), (.pv (T_id_halves.pv i2))])] [] [] ([(.agg [(.pv (.bool b)), (.pv (T_id_halves.pv t))])], [], []),
    Runs Try.prog 45 [(.agg [(.pv (.bool i)), (.pv (T_id_halves.pv i2))])] [] [] ([(.agg [(.pv (.bool b)), (.pv (T_id_halves.pv t))])], [], []),
    Runs Try.prog 46 [(.agg [(.pv (.bool i)), (.pv (T_id_halves.pv i2))])] [] [] ([(.agg [(.pv (.bool b2)), (.pv (T_id_halves.pv t2))])], [], []),
    Runs Try.prog 46 [(.agg [(.pv (.bool i)), (.pv (T_id_halves.pv i2))])] [] [] ([(.agg [(.pv (.bool b2)), (.pv (T_id_halves.pv t2))])], [], []),
    Runs Try.prog 46 [(.agg [(.pv (.bool i)), (.pv (T_id_halves.pv i2))])] [] [] ([(.agg [(.pv (.bool b2)), (.pv (T_id_halves.pv t2))])], [], []),
    Runs Try.prog 45 [(.agg [(.pv (.bool i)), (.pv (T_id_halves.pv i2))])] [] [] ([(.agg [(.pv (.bool b)), (.pv (T_id_halves.pv t))])], [], []),
    Runs Try.prog 46 [(.agg [(.pv (.bool i)), (.pv (T_id_halves.pv i2))])] [] [] ([(.agg [(.pv (.bool b2)), (.pv (T_id_halves.pv t2))])], [], []),
    Runs Try.prog 47 [(.agg [(.pv (.bool i)), (.pv (T_id_halves.pv i2))])] [] [] ([(.one (.pv (.bool b3)))], [], []),
    b3 = false,
    Runs Try.prog 48 [(.agg [(.pv (.bool i)), (.pv (T_id_halves.pv i2))])] [] [] ([(.one (.pv (.bool i)))], [], []),
    i = false,
    Runs Try.prog 47 [(.agg [(.pv (.bool b)), (.pv (T_id_halves.pv t))])] [] [] ([(.one (.pv (.bool b4)))], [], []),
    b4 = true,
    Runs Try.prog 18 [(.one (.ref 0 0)), (.one (.pv (.int .u64 1))), (.one (.pv (.int .i64 2)))] [[(.pv .nils), (.pv (.int .i64 n))]] [] ([], [[(.own 0 0 (l_).length false), (.pv (.int .i64 n2))]], [(.ints .u8 l_)]),
    Runs Try.prog 17 [(.one (.ref 0 0)), (.agg [(.pv (.bool b2)), (.pv (T_id_halves.pv t2))])] [[(.own 0 0 (l_).length false), (.pv (.int .i64 n2))]] [(.ints .u8 l_)] ([], [[(.own 0 0 (l_2).length false), (.pv (.int .i64 n3))]], [(.ints .u8 l_2)])] := ⟨by kernel_rfl, by kernel_rfl⟩
theorem code_PutID_p3 (i : Bool) (i2 : T_id_halves) (n : Int) (b : Bool) (t : T_id_halves) (b2 : Bool) (t2 : T_id_halves) (b3 : Bool) (b4 : Bool) (b5 : Bool) (n2 : Int) (l_ : List Int) (n3 : Int) (l_2 : List Int) : both (evFn Try.prog cfg (Runs Try.prog) (LRuns Try.prog (lEnv Try.prog cfg 17 1).nt 1) 17 [(.one (.ref 0 0)), (.agg [(.pv (.bool i)), (.pv (T_id_halves.pv i2))])] [[(.pv .nils), (.pv (.int .i64 n))]] []
    [.res ([(.agg [(.pv (.bool b)), (.pv (T_id_halves.pv t))])], [], []), .res ([(.agg [(.pv (.bool b)), (.pv (T_id_halves.pv t))])], [], []), .res ([(.agg [(.pv (.bool b)), (.pv (T_id_halves.pv t))])], [], []), .res ([(.agg [(.pv (.bool b)), (.pv (T_id_halves.pv t))])], [], []), .res ([(.agg [(.pv (.bool b)), (.pv (T_id_halves.pv t))])], [], []), .res ([(.agg [(.pv (.bool b)), (.pv (T_id_halves.pv t))])], [], []), .res ([(.agg [(.pv (.bool b)), (.pv (T_id_halves.pv t))])], [], []), .res ([(.agg [(.pv (.bool b2)), (.pv (T_id_halves.pv t2))])], [], []), .res ([(.agg [(.pv (.bool b2)), (.pv (T_id_halves.pv t2))])], [], []), .res ([(.agg [(.pv (.bool b2)), (.pv (T_id_halves.pv t2))])], [], []), .res ([(.agg [(.pv (.bool b)), (.pv (T_id_halves.pv t))])], [], []), .res ([(.agg [(.pv (.bool b2)), (.pv (T_id_halves.pv t2))])], [], []), .res ([(.one (.pv (.bool b3)))], [], []), .br false, .res ([(.one (.pv (.bool i)))], [], []), .br false, .res ([(.one (.pv (.bool b4)))], [], []), .br false, .res ([(.one (.pv (.bool b5)))], [], []), .br true, .res ([], [[(.own 0 0 (l_).length false), (.pv (.int .i64 n2))]], [(.ints .u8 l_)]), .res ([], [[(.own 0 0 (l_2).length false), (.pv (.int .i64 n3))]], [(.ints .u8 l_2)])]) (([], [[(.own 0 0 (l_2).length false), (.pv (.int .i64 n3))]], [(.ints .u8 l_2)])) [
    Runs Try.prog 45 [(.agg [(.pv (.bool i)), (.pv (T_id_halves.pv i2))])] [] [] ([(.agg [(.pv (.bool b)), (.pv (T_id_halves.pv t))])], [], []),
    Runs Try.prog 45 [(.agg [(.pv (.bool i)), (.pv (T_id_halves.pv i2))])] [] [] ([(.agg [(.pv (.bool b)), (.pv (T_id_halves.pv t))])], [], []),
    Runs Try.prog 45 [(.agg [(.pv (.bool i)), (.pv (T_id_halves.pv i2))])] [] [] ([(.agg [(.pv (.bool b)), (.pv (T_id_halves.pv t))])], [], []),
    Runs Try.prog 45 [(.agg [(.pv (.bool i)), (.pv (T_id_halves.pv i2))])] [] [] ([(.agg [(.pv (.bool b)), (.pv (T_id_halves.pv t))])], [], []),
    Runs Try.prog 45 [(.agg [(.pv (.bool i)), (.pv (T_id_halves.pv i2))])] [] [] ([(.agg [(.pv (.bool b)), (.pv (T_id_halves.pv t))])], [], []),
    Runs Try.prog 45 [(.agg [(.pv (.bool i)), (.pv (T_id_halves.pv i2))])] [] [] ([(.agg [(.pv (.bool b)), (.pv (T_id_halves.pv t))])], [], []),
    Runs Try.prog 45 [(.agg [(.pv (.bool i)), (.pv (T_id_halves.pv i2))])] [] [] ([(.agg [(.pv (.bool b)), (.pv (T_id_halves.pv t))])], [], []),
    Runs Try.prog 46 [(.agg [(.pv (.bool i)), (.pv (T_id_halves.pv i2))])] [] [] ([(.agg [(.pv (.bool b2)), (.pv (T_id_halves.pv t2))])], [], []),
    Runs Try.prog 46 [(.agg [(.pv (.bool i)), (.pv (T_id_halves.pv i2))])] [] [] ([(.agg [(.pv (.bool b2)), (.pv (T_id_halves.pv t2))])], [], []),
    Runs Try.prog 46 [(.agg [(.pv (.bool i)), (.pv (T_id_halves.pv i2))])] [] [] ([(.agg [(.pv (.bool b2)), (.pv (T_id_halves.pv t2))])], [], []),
    Runs Try.prog 45 [(.agg [(.pv (.bool i)), (.pv (T_id_halves.pv i2))])] [] [] ([(.agg [(.pv (.bool b)), (.pv (T_id_halves.pv t))])], [], []),
    Runs Try.prog 46 [(.agg [(.pv (.bool i)), (.pv (T_id_halves.pv i2))])] [] [] ([(.agg [(.pv (.bool b2)), (.pv (T_id_halves.pv t2))])], [], []),
    Runs Try.prog 47 [(.agg [(.pv (.bool i)), (.pv (T_id_halves.pv i2))])] [] [] ([(.one (.pv (.bool b3)))], [], []),
    b3 = false,
    Runs Try.prog 48 [(.agg [(.pv (.bool i)), (.pv (T_id_halves.pv i2))])] [] [] ([(.one (.pv (.bool i)))], [], []),
    i = false,
    Runs Try.prog 47 [(.agg [(.pv (.bool b)), (.pv (T_id_halves.pv t))])] [] [] ([(.one (.pv (.bool b4)))], [], []),
    b4 = false,
    Runs Try.prog 47 [(.agg [(.pv (.bool b2)), (.pv (T_id_halves.pv t2))])] [] [] ([(.one (.pv (.bool b5)))], [], []),
    b5 = true,
    Runs Try.prog 18 [(.one (.ref 0 0)), (.one (.pv (.int .u64 2))), (.one (.pv (.int .i64 2)))] [[(.pv .nils), (.pv (.int .i64 n))]] [] ([], [[(.own 0 0 (l_).length false), (.pv (.int .i64 n2))]], [(.ints .u8 l_)]),
    Runs Try.prog 17 [(.one (.ref 0 0)), (.agg [(.pv (.bool b)), (.pv (T_id_halves.pv t))])] [[(.own 0 0 (l_).length false), (.pv (.int .i64 n2))]] [(.ints .u8 l_)] ([], [[(.own 0 0 (l_2).length false), (.pv (.int .i64 n3))]], [(.ints .u8 l_2)])] := ⟨by kernel_rfl, by kernel_rfl⟩
theorem code_PutID_p4 (i : Bool) (i2 : T_id_halves) (n : Int) (b : Bool) (t : T_id_halves) (b2 : Bool) (t2 : T_id_halves) (b3 : Bool) (b4 : Bool) (b5 : Bool) (n2 : Int) (l_ : List Int) (n3 : Int) (l_2 : List Int) (n4 : Int) (l_3 : List Int) : both (evFn Try.prog cfg (Runs Try.prog) (LRuns Try.prog (lEnv Try.prog cfg 17 1).nt 1) 17 [(.one (.ref 0 0)), (.agg [(.pv (.bool i)), (.pv (T_id_halves.pv i2))])] [[(.pv .nils), (.pv (.int .i64 n))]] []
    [.res ([(.agg [(.pv (.bool b)), (.pv (T_id_halves.pv t))])], [], []), .res ([(.agg [(.pv (.bool b)), (.pv (T_id_halves.pv t))])], [], []), .res ([(.agg [(.pv (.bool b)), (.pv (T_id_halves.pv t))])], [], []), .res ([(.agg [(.pv (.bool b)), (.pv (T_id_halves.pv t))])], [], []), .res ([(.agg [(.pv (.bool b)), (.pv (T_id_halves.pv t))])], [], []), .res ([(.agg [(.pv (.bool b)), (.pv (T_id_halves.pv t))])], [], []), .res ([(.agg [(.pv (.bool b)), (.pv (T_id_halves.pv t))])], [], []), .res ([(.agg [(.pv (.bool b2)), (.pv (T_id_halves.pv t2))])], [], []), .res ([(.agg [(.pv (.bool b2)), (.pv (T_id_halves.pv t2))])], [], []), .res ([(.agg [(.pv (.bool b2)), (.pv (T_id_halves.pv t2))])], [], []), .res ([(.agg [(.pv (.bool b)), (.pv (T_id_halves.pv t))])], [], []), .res ([(.agg [(.pv (.bool b2)), (.pv (T_id_halves.pv t2))])], [], []), .res ([(.one (.pv (.bool b3)))], [], []), .br false, .res ([(.one (.pv (.bool i)))], [], []), .br false, .res ([(.one (.pv (.bool b4)))], [], []), .br false, .res ([(.one (.pv (.bool b5)))], [], []), .br false, .res ([], [[(.own 0 0 (l_).length false), (.pv (.int .i64 n2))]], [(.ints .u8 l_)]), .res ([], [[(.own 0 0 (l_2).length false), (.pv (.int .i64 n3))]], [(.ints .u8 l_2)]), .res ([], [[(.own 0 0 (l_3).length false), (.pv (.int .i64 n4))]], [(.ints .u8 l_3)])]) (([], [[(.own 0 0 (l_3).length false), (.pv (.int .i64 n4))]], [(.ints .u8 l_3)])) [
    Runs Try.prog 45 [(.agg [(.pv (.bool i)), (.pv (T_id_halves.pv i2))])] [] [] ([(.agg [(.pv (.bool b)), (.pv (T_id_halves.pv t))])], [], []),
    Runs Try.prog 45 [(.agg [(.pv (.bool i)), (.pv (T_id_halves.pv i2))])] [] [] ([(.agg [(.pv (.bool b)), (.pv (T_id_halves.pv t))])], [], []),
    Runs Try.prog 45 [(.agg [(.pv (.bool i)), (.pv (T_id_halves.pv i2))])] [] [] ([(.agg [(.pv (.bool b)), (.pv (T_id_halves.pv t))])], [], []),
    Runs Try.prog 45 [(.agg [(.pv (.bool i)), (.pv (T_id_halves.pv i2))])] [] [] ([(.agg [(.pv (.bool b)), (.pv (T_id_halves.pv t))])], [], []),
    Runs Try.prog 45 [(.agg [(.pv (.bool i)), (.pv (T_id_halves.pv i2))])] [] [] ([(.agg [(.pv (.bool b)), (.pv (T_id_halves.pv t))])], [], []),
    Runs Try.prog 45 [(.agg [(.pv (.bool i)), (.pv (T_id_halves.pv i2))])] [] [] ([(.agg [(.pv (.bool b)), (.pv (T_id_halves.pv t))])], [], []),
    Runs Try.prog 45 [(.agg [(.pv (.bool i)), (.pv (T_id_halves.pv i2))])] [] [] ([(.agg [(.pv (.bool b)), (.pv (T_id_halves.pv t))])], [], []),
    Runs Try.prog 46 [(.agg [(.pv (.bool i)), (.pv (T_id_halves.pv i2))])] [] [] ([(.agg [(.pv (.bool b2)), (.pv (T_id_halves.pv t2))])], [], []),
    Runs Try.prog 46 [(.agg [(.pv (.bool i)), (.pv (T_id_halves.pv i2))])] [] [] ([(.agg [(.pv (.bool b2)), (.pv (T_id_halves.pv t2))])], [], []),
    Runs Try.prog 46 [(.agg [(.pv (.bool i)), (.pv (T_id_halves.pv i2))])] [] [] ([(.agg [(.pv (.bool b2)), (.pv (T_id_halves.pv t2))])], [], []),
    Runs Try.prog 45 [(.agg [(.pv (.bool i)), (.pv (T_id_halves.pv i2))])] [] [] ([(.agg [(.pv (.bool b)), (.pv (T_id_halves.pv t))])], [], []),
    Runs Try.prog 46 [(.agg [(.pv (.bool i)), (.pv (T_id_halves.pv i2))])] [] [] ([(.agg [(.pv (.bool b2)), (.pv (T_id_halves.pv t2))])], [], []),
    Runs Try.prog 47 [(.agg [(.pv (.bool i)), (.pv (T_id_halves.pv i2))])] [] [] ([(.one (.pv (.bool b3)))], [], []),
    b3 = false,
    Runs Try.prog 48 [(.agg [(.pv (.bool i)), (.pv (T_id_halves.pv i2))])] [] [] ([(.one (.pv (.bool i)))], [], []),
    i = false,
    Runs Try.prog 47 [(.agg [(.pv (.bool b)), (.pv (T_id_halves.pv t))])] [] [] ([(.one (.pv (.bool b4)))], [], []),
    b4 = false,
    Runs Try.prog 47 [(.agg [(.pv (.bool b2)), (.pv (T_id_halves.pv t2))])] [] [] ([(.one (.pv (.bool b5)))], [], []),
    b5 = false,
    Runs Try.prog 18 [(.one (.ref 0 0)), (.one (.pv (.int .u64 3))), (.one (.pv (.int .i64 2)))] [[(.pv .nils), (.pv (.int .i64 n))]] [] ([], [[(.own 0 0 (l_).length false), (.pv (.int .i64 n2))]], [(.ints .u8 l_)]),
    Runs Try.prog 17 [(.one (.ref 0 0)), (.agg [(.pv (.bool b)), (.pv (T_id_halves.pv t))])] [[(.own 0 0 (l_).length false), (.pv (.int .i64 n2))]] [(.ints .u8 l_)] ([], [[(.own 0 0 (l_2).length false), (.pv (.int .i64 n3))]], [(.ints .u8 l_2)]),
    Runs Try.prog 17 [(.one (.ref 0 0)), (.agg [(.pv (.bool b2)), (.pv (T_id_halves.pv t2))])] [[(.own 0 0 (l_2).length false), (.pv (.int .i64 n3))]] [(.ints .u8 l_2)] ([], [[(.own 0 0 (l_3).length false), (.pv (.int .i64 n4))]], [(.ints .u8 l_3)])] := ⟨by kernel_rfl, by kernel_rfl⟩
noncomputable def code_PutID (N : Nat) (i : Bool) (i2 : T_id_halves) (n : Int) : Option (Int × List Int) :=
  (id_ID_Left i i2).bind fun (b, t) =>
  (id_ID_Right i i2).bind fun (b2, t2) =>
  (id_ID_IsZero i i2).bind fun b3 =>
  bif b3 then
    (bits_Writer_Put 0 2 n).bind fun (n2, l_) =>
    (bits_Writer_Put_2 0 1 n2 l_).bind fun (n3, l_2) =>
    some (n3, l_2)
  else
    (id_ID_IsOne i i2).bind fun _ =>
    bif i then
      (bits_Writer_Put 0 2 n).bind fun (n2, l_) =>
      (bits_Writer_Put_2 1 1 n2 l_).bind fun (n3, l_2) =>
      some (n3, l_2)
    else
      (id_ID_IsZero b t).bind fun b4 =>
      bif b4 then
        (bits_Writer_Put 1 2 n).bind fun (n2, l_) =>
        (code_PutID_2 N b2 t2 n2 l_).bind fun (n3, l_2) =>
        some (n3, l_2)
      else
        (id_ID_IsZero b2 t2).bind fun b5 =>
        bif b5 then
          (bits_Writer_Put 2 2 n).bind fun (n2, l_) =>
          (code_PutID_2 N b t n2 l_).bind fun (n3, l_2) =>
          some (n3, l_2)
        else
          (bits_Writer_Put 3 2 n).bind fun (n2, l_) =>
          (code_PutID_2 N b t n2 l_).bind fun (n3, l_2) =>
          (code_PutID_2 N b2 t2 n3 l_2).bind fun (n4, l_3) =>
          some (n4, l_3)
theorem code_PutID_runs (N : Nat) (i : Bool) (i2 : T_id_halves) (n : Int) (r_ : Int × List Int) (h : code_PutID N i i2 n = some r_) : Runs Try.prog 17 [(.one (.ref 0 0)), (.agg [(.pv (.bool i)), (.pv (T_id_halves.pv i2))])] [[(.pv .nils), (.pv (.int .i64 n))]] [] (code_PutID_out i i2 n r_) := by
  unfold code_PutID at h
  obtain ⟨⟨b, t⟩, h1, h⟩ := bind_of h
  obtain ⟨⟨b2, t2⟩, h2, h⟩ := bind_of h
  obtain ⟨b3, h3, h⟩ := bind_of h
  rcases cond_of h with ⟨h4, h⟩ | ⟨h4, h⟩
  · obtain ⟨⟨n2, l_⟩, h5, h⟩ := bind_of h
    obtain ⟨⟨n3, l_2⟩, h6, h⟩ := bind_of h
    have h := some_of h
    subst h
    have e_ := code_PutID_p0 i i2 n b t b2 t2 b3 n2 l_ n3 l_2
    have e_ := runs_of (objs := [[(.pv .nils), (.pv (.int .i64 n))]]) (Says.of2 e_ ⟨(id_ID_Left_runs i i2 _ h1), (id_ID_Left_runs i i2 _ h1), (id_ID_Left_runs i i2 _ h1), (id_ID_Left_runs i i2 _ h1), (id_ID_Left_runs i i2 _ h1), (id_ID_Left_runs i i2 _ h1), (id_ID_Left_runs i i2 _ h1), (id_ID_Right_runs i i2 _ h2), (id_ID_Right_runs i i2 _ h2), (id_ID_Right_runs i i2 _ h2), (id_ID_Left_runs i i2 _ h1), (id_ID_Right_runs i i2 _ h2), (id_ID_IsZero_runs i i2 _ h3), h4, (bits_Writer_Put_runs 0 2 n _ h5), (bits_Writer_Put_2_runs 0 1 n2 l_ _ h6), trivial⟩)
    exact e_
  · obtain ⟨_, h5, h⟩ := bind_of h
    rcases cond_of h with ⟨h6, h⟩ | ⟨h6, h⟩
    · obtain ⟨⟨n2, l_⟩, h7, h⟩ := bind_of h
      obtain ⟨⟨n3, l_2⟩, h8, h⟩ := bind_of h
      have h := some_of h
      subst h
      have e_ := code_PutID_p1 i i2 n b t b2 t2 b3 n2 l_ n3 l_2
      have e_ := runs_of (objs := [[(.pv .nils), (.pv (.int .i64 n))]]) (Says.of2 e_ ⟨(id_ID_Left_runs i i2 _ h1), (id_ID_Left_runs i i2 _ h1), (id_ID_Left_runs i i2 _ h1), (id_ID_Left_runs i i2 _ h1), (id_ID_Left_runs i i2 _ h1), (id_ID_Left_runs i i2 _ h1), (id_ID_Left_runs i i2 _ h1), (id_ID_Right_runs i i2 _ h2), (id_ID_Right_runs i i2 _ h2), (id_ID_Right_runs i i2 _ h2), (id_ID_Left_runs i i2 _ h1), (id_ID_Right_runs i i2 _ h2), (id_ID_IsZero_runs i i2 _ h3), h4, (id_ID_IsOne_runs i i2 _ h5), h6, (bits_Writer_Put_runs 0 2 n _ h7), (bits_Writer_Put_2_runs 1 1 n2 l_ _ h8), trivial⟩)
      exact e_
    · obtain ⟨b4, h7, h⟩ := bind_of h
      rcases cond_of h with ⟨h8, h⟩ | ⟨h8, h⟩
      · obtain ⟨⟨n2, l_⟩, h9, h⟩ := bind_of h
        obtain ⟨⟨n3, l_2⟩, h10, h⟩ := bind_of h
        have h := some_of h
        subst h
        have e_ := code_PutID_p2 i i2 n b t b2 t2 b3 b4 n2 l_ n3 l_2
        have e_ := runs_of (objs := [[(.pv .nils), (.pv (.int .i64 n))]]) (Says.of2 e_ ⟨(id_ID_Left_runs i i2 _ h1), (id_ID_Left_runs i i2 _ h1), (id_ID_Left_runs i i2 _ h1), (id_ID_Left_runs i i2 _ h1), (id_ID_Left_runs i i2 _ h1), (id_ID_Left_runs i i2 _ h1), (id_ID_Left_runs i i2 _ h1), (id_ID_Right_runs i i2 _ h2), (id_ID_Right_runs i i2 _ h2), (id_ID_Right_runs i i2 _ h2), (id_ID_Left_runs i i2 _ h1), (id_ID_Right_runs i i2 _ h2), (id_ID_IsZero_runs i i2 _ h3), h4, (id_ID_IsOne_runs i i2 _ h5), h6, (id_ID_IsZero_runs b t _ h7), h8, (bits_Writer_Put_runs 1 2 n _ h9), (code_PutID_2_runs N b2 t2 n2 l_ _ h10), trivial⟩)
        exact e_
      · obtain ⟨b5, h9, h⟩ := bind_of h
        rcases cond_of h with ⟨h10, h⟩ | ⟨h10, h⟩
        · obtain ⟨⟨n2, l_⟩, h11, h⟩ := bind_of h
          obtain ⟨⟨n3, l_2⟩, h12, h⟩ := bind_of h
          have h := some_of h
          subst h
          have e_ := code_PutID_p3 i i2 n b t b2 t2 b3 b4 b5 n2 l_ n3 l_2
          have e_ := runs_of (objs := [[(.pv .nils), (.pv (.int .i64 n))]]) (Says.of2 e_ ⟨(id_ID_Left_runs i i2 _ h1), (id_ID_Left_runs i i2 _ h1), (id_ID_Left_runs i i2 _ h1), (id_ID_Left_runs i i2 _ h1), (id_ID_Left_runs i i2 _ h1), (id_ID_Left_runs i i2 _ h1), (id_ID_Left_runs i i2 _ h1), (id_ID_Right_runs i i2 _ h2), (id_ID_Right_runs i i2 _ h2), (id_ID_Right_runs i i2 _ h2), (id_ID_Left_runs i i2 _ h1), (id_ID_Right_runs i i2 _ h2), (id_ID_IsZero_runs i i2 _ h3), h4, (id_ID_IsOne_runs i i2 _ h5), h6, (id_ID_IsZero_runs b t _ h7), h8, (id_ID_IsZero_runs b2 t2 _ h9), h10, (bits_Writer_Put_runs 2 2 n _ h11), (code_PutID_2_runs N b t n2 l_ _ h12), trivial⟩)
          exact e_
        · obtain ⟨⟨n2, l_⟩, h11, h⟩ := bind_of h
          obtain ⟨⟨n3, l_2⟩, h12, h⟩ := bind_of h
          obtain ⟨⟨n4, l_3⟩, h13, h⟩ := bind_of h
          have h := some_of h
          subst h
          have e_ := code_PutID_p4 i i2 n b t b2 t2 b3 b4 b5 n2 l_ n3 l_2 n4 l_3
          have e_ := runs_of (objs := [[(.pv .nils), (.pv (.int .i64 n))]]) (Says.of2 e_ ⟨(id_ID_Left_runs i i2 _ h1), (id_ID_Left_runs i i2 _ h1), (id_ID_Left_runs i i2 _ h1), (id_ID_Left_runs i i2 _ h1), (id_ID_Left_runs i i2 _ h1), (id_ID_Left_runs i i2 _ h1), (id_ID_Left_runs i i2 _ h1), (id_ID_Right_runs i i2 _ h2), (id_ID_Right_runs i i2 _ h2), (id_ID_Right_runs i i2 _ h2), (id_ID_Left_runs i i2 _ h1), (id_ID_Right_runs i i2 _ h2), (id_ID_IsZero_runs i i2 _ h3), h4, (id_ID_IsOne_runs i i2 _ h5), h6, (id_ID_IsZero_runs b t _ h7), h8, (id_ID_IsZero_runs b2 t2 _ h9), h10, (bits_Writer_Put_runs 3 2 n _ h11), (code_PutID_2_runs N b t n2 l_ _ h12), (code_PutID_2_runs N b2 t2 n3 l_2 _ h13), trivial⟩)
          exact e_
/-! ### code_PutEvent_out -/
def code_PutEvent_out (e : Int) (e2 : T_event_halves) (n : Int) (l : List Int) : Int × List Int → Res
  | (r1, r2) => ([], [[(.own 0 0 (r2).length false), (.pv (.int .i64 r1))]], [(.ints .u8 r2)])
/-! ### event_Event_Left_out -/
def event_Event_Left_out (e : Int) (e2 : T_event_halves) : Int × T_event_halves → Res
  | (r1, r2) => ([(.agg [(.pv (.int .u64 r1)), (.pv (T_event_halves.pv r2))])], [], [])
/-! ### event_Event_Left -/
theorem event_Event_Left_p0 (e : Int) : evFn Try.prog cfg (Runs Try.prog) (LRuns Try.prog (lEnv Try.prog cfg 39 0).nt 0) 39 [(.agg [(.pv (.int .u64 e)), (.pv (T_event_halves.pv T_event_halves.nil))])] [] []
    [.br true] =
  some (([(.agg [(.pv (.int .u64 0)), (.pv .nilp)])], [], []), obs [
    true = true]) := by kernel_rfl
theorem event_Event_Left_p1 (e : Int) (n : Int) (t : T_event_halves) (n2 : Int) (t2 : T_event_halves) : evFn Try.prog cfg (Runs Try.prog) (LRuns Try.prog (lEnv Try.prog cfg 39 0).nt 0) 39 [(.agg [(.pv (.int .u64 e)), (.pv (T_event_halves.pv (T_event_halves.mk n t n2 t2)))])] [] []
    [.br false] =
  some (([(.agg [(.pv (.int .u64 n)), (.pv (T_event_halves.pv t))])], [], []), obs [
    false = false]) := by kernel_rfl
noncomputable def event_Event_Left (e : Int) (e2 : T_event_halves) : Option (Int × T_event_halves) :=
  match e2 with
  | .nil =>
    some (0, T_event_halves.nil)
  | .mk n t n2 t2 =>
    some (n, t)
theorem event_Event_Left_runs (e : Int) (e2 : T_event_halves) (r_ : Int × T_event_halves) (h : event_Event_Left e e2 = some r_) : Runs Try.prog 39 [(.agg [(.pv (.int .u64 e)), (.pv (T_event_halves.pv e2))])] [] [] (event_Event_Left_out e e2 r_) := by
  unfold event_Event_Left at h
  cases e2 with
  | nil =>
    have h := some_of h
    subst h
    have e_ := event_Event_Left_p0 e
    have e_ := runs_of (objs := []) (Says.of e_ ⟨rfl, trivial⟩)
    exact e_.out ⟨⟨.eq rfl, .eq rfl, trivial⟩, trivial⟩ trivial trivial rfl
  | mk n t n2 t2 =>
    have h := some_of h
    subst h
    have e_ := event_Event_Left_p1 e n t n2 t2
    have e_ := runs_of (objs := []) (Says.of e_ ⟨rfl, trivial⟩)
    exact e_
/-! ### event_Event_Right_out -/
def event_Event_Right_out (e : Int) (e2 : T_event_halves) : Int × T_event_halves → Res
  | (r1, r2) => ([(.agg [(.pv (.int .u64 r1)), (.pv (T_event_halves.pv r2))])], [], [])
/-! ### event_Event_Right -/
theorem event_Event_Right_p0 (e : Int) : evFn Try.prog cfg (Runs Try.prog) (LRuns Try.prog (lEnv Try.prog cfg 40 0).nt 0) 40 [(.agg [(.pv (.int .u64 e)), (.pv (T_event_halves.pv T_event_halves.nil))])] [] []
    [.br true] =
  some (([(.agg [(.pv (.int .u64 0)), (.pv .nilp)])], [], []), obs [
    true = true]) := by kernel_rfl
theorem event_Event_Right_p1 (e : Int) (n : Int) (t : T_event_halves) (n2 : Int) (t2 : T_event_halves) : evFn Try.prog cfg (Runs Try.prog) (LRuns Try.prog (lEnv Try.prog cfg 40 0).nt 0) 40 [(.agg [(.pv (.int .u64 e)), (.pv (T_event_halves.pv (T_event_halves.mk n t n2 t2)))])] [] []
    [.br false] =
  some (([(.agg [(.pv (.int .u64 n2)), (.pv (T_event_halves.pv t2))])], [], []), obs [
    false = false]) := by kernel_rfl
noncomputable def event_Event_Right (e : Int) (e2 : T_event_halves) : Option (Int × T_event_halves) :=
  match e2 with
  | .nil =>
    some (0, T_event_halves.nil)
  | .mk n t n2 t2 =>
    some (n2, t2)
theorem event_Event_Right_runs (e : Int) (e2 : T_event_halves) (r_ : Int × T_event_halves) (h : event_Event_Right e e2 = some r_) : Runs Try.prog 40 [(.agg [(.pv (.int .u64 e)), (.pv (T_event_halves.pv e2))])] [] [] (event_Event_Right_out e e2 r_) := by
  unfold event_Event_Right at h
  cases e2 with
  | nil =>
    have h := some_of h
    subst h
    have e_ := event_Event_Right_p0 e
    have e_ := runs_of (objs := []) (Says.of e_ ⟨rfl, trivial⟩)
    exact e_.out ⟨⟨.eq rfl, .eq rfl, trivial⟩, trivial⟩ trivial trivial rfl
  | mk n t n2 t2 =>
    have h := some_of h
    subst h
    have e_ := event_Event_Right_p1 e n t n2 t2
    have e_ := runs_of (objs := []) (Says.of e_ ⟨rfl, trivial⟩)
    exact e_
/-! ### event_Event_IsLeaf_out -/
def event_Event_IsLeaf_out (e : Int) (e2 : T_event_halves) : Bool → Res
  | r1 => ([(.one (.pv (.bool r1)))], [], [])
/-! ### event_Event_IsLeaf -/
theorem event_Event_IsLeaf_p0 (e : Int) : evFn Try.prog cfg (Runs Try.prog) (LRuns Try.prog (lEnv Try.prog cfg 41 0).nt 0) 41 [(.agg [(.pv (.int .u64 e)), (.pv (T_event_halves.pv T_event_halves.nil))])] [] []
    [] =
  some (([(.one (.pv (.bool true)))], [], []), obs [
    ]) := by kernel_rfl
theorem event_Event_IsLeaf_p1 (e : Int) (n : Int) (t : T_event_halves) (n2 : Int) (t2 : T_event_halves) : evFn Try.prog cfg (Runs Try.prog) (LRuns Try.prog (lEnv Try.prog cfg 41 0).nt 0) 41 [(.agg [(.pv (.int .u64 e)), (.pv (T_event_halves.pv (T_event_halves.mk n t n2 t2)))])] [] []
    [] =
  some (([(.one (.pv (.bool false)))], [], []), obs [
    ]) := by kernel_rfl
noncomputable def event_Event_IsLeaf (e : Int) (e2 : T_event_halves) : Option (Bool) :=
  match e2 with
  | .nil =>
    some true
  | .mk n t n2 t2 =>
    some false
theorem event_Event_IsLeaf_runs (e : Int) (e2 : T_event_halves) (r_ : Bool) (h : event_Event_IsLeaf e e2 = some r_) : Runs Try.prog 41 [(.agg [(.pv (.int .u64 e)), (.pv (T_event_halves.pv e2))])] [] [] (event_Event_IsLeaf_out e e2 r_) := by
  unfold event_Event_IsLeaf at h
  cases e2 with
  | nil =>
    have h := some_of h
    subst h
    have e_ := event_Event_IsLeaf_p0 e
    have e_ := runs_of (objs := []) (Says.of e_ trivial)
    exact e_
  | mk n t n2 t2 =>
    have h := some_of h
    subst h
    have e_ := event_Event_IsLeaf_p1 e n t n2 t2
    have e_ := runs_of (objs := []) (Says.of e_ trivial)
    exact e_
/-! ### event_Event_Base_out -/
def event_Event_Base_out (e : Int) (e2 : T_event_halves) : Unit → Res
  | _ => ([(.one (.pv (.int .u64 e)))], [], [])
/-! ### event_Event_Base -/
theorem event_Event_Base_p0 (e : Int) (e2 : T_event_halves) : evFn Try.prog cfg (Runs Try.prog) (LRuns Try.prog (lEnv Try.prog cfg 43 0).nt 0) 43 [(.agg [(.pv (.int .u64 e)), (.pv (T_event_halves.pv e2))])] [] []
    [] =
  some (([(.one (.pv (.int .u64 e)))], [], []), obs [
    ]) := by kernel_rfl
noncomputable def event_Event_Base (e : Int) (e2 : T_event_halves) : Option (Unit) :=
  some ()
theorem event_Event_Base_runs (e : Int) (e2 : T_event_halves) (r_ : Unit) (h : event_Event_Base e e2 = some r_) : Runs Try.prog 43 [(.agg [(.pv (.int .u64 e)), (.pv (T_event_halves.pv e2))])] [] [] (event_Event_Base_out e e2 r_) := by
  unfold event_Event_Base at h
  have h := some_of h
  subst h
  have e_ := event_Event_Base_p0 e e2
  have e_ := runs_of (objs := []) (Says.of e_ trivial)
  exact e_
/-! ### bits_Writer_Num_out -/
def bits_Writer_Num_out (n : Int) (n2 : Int) (l : List Int) : Int × List Int → Res
  | (r1, r2) => ([], [[(.own 0 0 (r2).length false), (.pv (.int .i64 r1))]], [(.ints .u8 r2)])
/-! ### bits_Writer_Num_L0 -/
def bits_Writer_Num_L0_st : Int × Int × Int × List Int → St
  | (n, b, n2, l) => ⟨[(0, (.av (.one (.ref 0 0)))), (1, (.av (.one (.pv (.int .u64 n))))), (4, (.av (.one (.pv (.int .i64 b)))))], [(0, [(.own 0 0 (l).length false), (.pv (.int .i64 n2))])], [(0, (.live (.ints .u8 l)))]⟩
def bits_Writer_Num_L0_ex : Int × Int × Int × List Int → Ex × St
  | (r1, r2, r3, r4) => ((.exit 0), ⟨[(0, (.av (.one (.ref 0 0)))), (1, (.av (.one (.pv (.int .u64 r1))))), (4, (.av (.one (.pv (.int .i64 r2)))))], [(0, [(.own 0 0 (r4).length false), (.pv (.int .i64 r3))])], [(0, (.live (.ints .u8 r4)))]⟩)
theorem bits_Writer_Num_L0_q0_0 (n : Int) (b : Int) (n2 : Int) (l : List Int) (n3 : Int) (l_ : List Int) : evRound (lEnv Try.prog cfg 42 1) (loopAt Try.prog 42 0) ⟨[(0, (.av (.one (.ref 0 0)))), (1, (.av (.one (.pv (.int .u64 n))))), (4, (.av (.one (.pv (.int .i64 b)))))], [(0, [(.own 0 0 (l).length false), (.pv (.int .i64 n2))])], [(0, (.live (.ints .u8 l)))]⟩
    [.br true, .br true, .res ([], [[(.own 0 0 (l_).length false), (.pv (.int .i64 n3))]], [(.ints .u8 l_)])] =
  some ((.normal, ⟨[(0, (.av (.one (.ref 0 0)))), (1, (.av (.one (.pv (.int .u64 (isub .u64 n (ishl .u64 1 b))))))), (4, (.av (.one (.pv (.int .i64 (iadd .i64 b 1))))))], [(0, [(.own 0 0 (l_).length false), (.pv (.int .i64 n3))])], [(0, (.live (.ints .u8 l_)))]⟩), obs [
    (decide ((b : Int) < 64)) = true,
    (decide ((0 : Int) ≤ b)) = true,
    (decide ((0 : Int) < (ishr .u64 n b))) = true,
    Runs Try.prog 18 [(.one (.ref 0 0)), (.one (.pv (.int .u64 1))), (.one (.pv (.int .i64 1)))] [[(.own 0 0 (l).length false), (.pv (.int .i64 n2))]] [(.ints .u8 l)] ([], [[(.own 0 0 (l_).length false), (.pv (.int .i64 n3))]], [(.ints .u8 l_)]),
    (decide ((0 : Int) ≤ b)) = true]) := by kernel_rfl
theorem bits_Writer_Num_L0_q0_1 (n : Int) (b : Int) (n2 : Int) (l : List Int) : evRound (lEnv Try.prog cfg 42 1) (loopAt Try.prog 42 0) ⟨[(0, (.av (.one (.ref 0 0)))), (1, (.av (.one (.pv (.int .u64 n))))), (4, (.av (.one (.pv (.int .i64 b)))))], [(0, [(.own 0 0 (l).length false), (.pv (.int .i64 n2))])], [(0, (.live (.ints .u8 l)))]⟩
    [.br true, .br false] =
  some (((.exit 0), ⟨[(12, (.av (.one (.pv (.bool false))))), (0, (.av (.one (.ref 0 0)))), (1, (.av (.one (.pv (.int .u64 n))))), (4, (.av (.one (.pv (.int .i64 b))))), (12, (.av (.one (.pv (.bool (decide ((0 : Int) < (ishr .u64 n b))))))))], [(0, [(.own 0 0 (l).length false), (.pv (.int .i64 n2))])], [(0, (.live (.ints .u8 l)))]⟩), obs [
    (decide ((b : Int) < 64)) = true,
    (decide ((0 : Int) ≤ b)) = true,
    (decide ((0 : Int) < (ishr .u64 n b))) = false]) := by kernel_rfl
theorem bits_Writer_Num_L0_q0_2 (n : Int) (b : Int) (n2 : Int) (l : List Int) : evRound (lEnv Try.prog cfg 42 1) (loopAt Try.prog 42 0) ⟨[(0, (.av (.one (.ref 0 0)))), (1, (.av (.one (.pv (.int .u64 n))))), (4, (.av (.one (.pv (.int .i64 b)))))], [(0, [(.own 0 0 (l).length false), (.pv (.int .i64 n2))])], [(0, (.live (.ints .u8 l)))]⟩
    [.br false, .br false] =
  some (((.exit 0), ⟨[(12, (.av (.one (.pv (.bool false))))), (0, (.av (.one (.ref 0 0)))), (1, (.av (.one (.pv (.int .u64 n))))), (4, (.av (.one (.pv (.int .i64 b))))), (12, (.av (.one (.pv (.bool false)))))], [(0, [(.own 0 0 (l).length false), (.pv (.int .i64 n2))])], [(0, (.live (.ints .u8 l)))]⟩), obs [
    (decide ((b : Int) < 64)) = false,
    false = false]) := by kernel_rfl
noncomputable def bits_Writer_Num_L0_step : Int × Int × Int × List Int → Option ((Int × Int × Int × List Int) ⊕ (Int × Int × Int × List Int))
  | (n, b, n2, l) =>
  bif (decide ((b : Int) < 64)) then
    bif decide ((0 : Int) ≤ b) then
    bif (decide ((0 : Int) < (ishr .u64 n b))) then
      (bits_Writer_Put_2 1 1 n2 l).bind fun (n3, l_) =>
      some (.inl ((isub .u64 n (ishl .u64 1 b)), (iadd .i64 b 1), n3, l_))
    else
      some (.inr (n, b, n2, l))
    else none
  else
    some (.inr (n, b, n2, l))
theorem bits_Writer_Num_L0_ok (s_ : Int × Int × Int × List Int) (z_ : (Int × Int × Int × List Int) ⊕ (Int × Int × Int × List Int)) (h : bits_Writer_Num_L0_step s_ = some z_) : RoundOk Try.prog cfg 42 1 (loopAt Try.prog 42 0) (bits_Writer_Num_L0_st) (bits_Writer_Num_L0_ex) s_ z_ := by
  rcases s_ with ⟨n, b, n2, l⟩
  rcases cond_of h with ⟨h1, h⟩ | ⟨h1, h⟩
  · obtain ⟨h2, h⟩ := need_of h
    rcases cond_of h with ⟨h3, h⟩ | ⟨h3, h⟩
    · obtain ⟨⟨n3, l_⟩, h4, h⟩ := bind_of h
      have h := some_of h
      subst h
      have e_ := bits_Writer_Num_L0_q0_0 n b n2 l n3 l_
      have e_ := Says.of e_ ⟨h1, h2, h3, (bits_Writer_Put_2_runs 1 1 n2 l _ h4), h2, trivial⟩
      exact ⟨_, _, e_, ⟨⟨⟨_, rfl, .eq rfl⟩, ⟨_, rfl, .eq rfl⟩, ⟨_, rfl, .eq rfl⟩, trivial⟩, ⟨⟨rfl, ⟨.eq rfl, .eq rfl, trivial⟩⟩, trivial⟩, ⟨⟨rfl, .eq rfl⟩, trivial⟩⟩⟩
    · have h := some_of h
      subst h
      have e_ := bits_Writer_Num_L0_q0_1 n b n2 l
      have e_ := Says.of e_ ⟨h1, h2, h3, trivial⟩
      exact ⟨_, _, e_, ⟨⟨⟨_, rfl, .eq rfl⟩, ⟨_, rfl, .eq rfl⟩, ⟨_, rfl, .eq rfl⟩, trivial⟩, ⟨⟨rfl, ⟨.eq rfl, .eq rfl, trivial⟩⟩, trivial⟩, ⟨⟨rfl, .eq rfl⟩, trivial⟩⟩⟩
  · have h := some_of h
    subst h
    have e_ := bits_Writer_Num_L0_q0_2 n b n2 l
    have e_ := Says.of e_ ⟨h1, rfl, trivial⟩
    exact ⟨_, _, e_, ⟨⟨⟨_, rfl, .eq rfl⟩, ⟨_, rfl, .eq rfl⟩, ⟨_, rfl, .eq rfl⟩, trivial⟩, ⟨⟨rfl, ⟨.eq rfl, .eq rfl, trivial⟩⟩, trivial⟩, ⟨⟨rfl, .eq rfl⟩, trivial⟩⟩⟩
theorem bits_Writer_Num_L0_runs (s_ : Int × Int × Int × List Int) (r_ : Int × Int × Int × List Int) (h : runL (bits_Writer_Num_L0_step) s_ = some r_) : LRuns Try.prog (lEnv Try.prog cfg 42 1).nt 1 (.loop (loopAt Try.prog 42 0)) (bits_Writer_Num_L0_st s_) (bits_Writer_Num_L0_ex r_).1 (bits_Writer_Num_L0_ex r_).2 :=
  loop_run h (bits_Writer_Num_L0_ok) (by intro r_; rcases r_ with ⟨r1, r2, r3, r4⟩ <;> simp [bits_Writer_Num_L0_ex])
/-! ### bits_Writer_Num -/
theorem bits_Writer_Num_p0 (n : Int) (n2 : Int) (l : List Int) (n3 : Int) (n4 : Int) (n5 : Int) (l_ : List Int) (n6 : Int) (l_2 : List Int) (n7 : Int) (l_3 : List Int) : evFn Try.prog cfg (Runs Try.prog) (LRuns Try.prog (lEnv Try.prog cfg 42 1).nt 1) 42 [(.one (.ref 0 0)), (.one (.pv (.int .u64 n)))] [[(.own 0 0 (l).length false), (.pv (.int .i64 n2))]] [(.ints .u8 l)]
    [.lp (.exit 0) ⟨[(0, (.av (.one (.ref 0 0)))), (1, (.av (.one (.pv (.int .u64 n3))))), (4, (.av (.one (.pv (.int .i64 n4)))))], [(0, [(.own 0 0 (l_).length false), (.pv (.int .i64 n5))])], [(0, (.live (.ints .u8 l_)))]⟩, .res ([], [[(.own 0 0 (l_2).length false), (.pv (.int .i64 n6))]], [(.ints .u8 l_2)]), .res ([], [[(.own 0 0 (l_3).length false), (.pv (.int .i64 n7))]], [(.ints .u8 l_3)])] =
  some (([], [[(.own 0 0 (l_3).length false), (.pv (.int .i64 n7))]], [(.ints .u8 l_3)]), obs [
    LRuns Try.prog (lEnv Try.prog cfg 42 1).nt 1 (.loop (loopAt Try.prog 42 0)) ⟨[(0, (.av (.one (.ref 0 0)))), (1, (.av (.one (.pv (.int .u64 n))))), (4, (.av (.one (.pv (.int .i64 2)))))], [(0, [(.own 0 0 (l).length false), (.pv (.int .i64 n2))])], [(0, (.live (.ints .u8 l)))]⟩ (.exit 0) ⟨[(0, (.av (.one (.ref 0 0)))), (1, (.av (.one (.pv (.int .u64 n3))))), (4, (.av (.one (.pv (.int .i64 n4)))))], [(0, [(.own 0 0 (l_).length false), (.pv (.int .i64 n5))])], [(0, (.live (.ints .u8 l_)))]⟩,
    Runs Try.prog 18 [(.one (.ref 0 0)), (.one (.pv (.int .u64 0))), (.one (.pv (.int .i64 1)))] [[(.own 0 0 (l_).length false), (.pv (.int .i64 n5))]] [(.ints .u8 l_)] ([], [[(.own 0 0 (l_2).length false), (.pv (.int .i64 n6))]], [(.ints .u8 l_2)]),
    Runs Try.prog 18 [(.one (.ref 0 0)), (.one (.pv (.int .u64 n3))), (.one (.pv (.int .i64 n4)))] [[(.own 0 0 (l_2).length false), (.pv (.int .i64 n6))]] [(.ints .u8 l_2)] ([], [[(.own 0 0 (l_3).length false), (.pv (.int .i64 n7))]], [(.ints .u8 l_3)])]) := by kernel_rfl
noncomputable def bits_Writer_Num (n : Int) (n2 : Int) (l : List Int) : Option (Int × List Int) :=
  (runL (bits_Writer_Num_L0_step) (n, 2, n2, l)).bind fun (n3, n4, n5, l_) =>
  (bits_Writer_Put_2 0 1 n5 l_).bind fun (n6, l_2) =>
  (bits_Writer_Put_2 n3 n4 n6 l_2).bind fun (n7, l_3) =>
  some (n7, l_3)
theorem bits_Writer_Num_runs (n : Int) (n2 : Int) (l : List Int) (r_ : Int × List Int) (h : bits_Writer_Num n n2 l = some r_) : Runs Try.prog 42 [(.one (.ref 0 0)), (.one (.pv (.int .u64 n)))] [[(.own 0 0 (l).length false), (.pv (.int .i64 n2))]] [(.ints .u8 l)] (bits_Writer_Num_out n n2 l r_) := by
  unfold bits_Writer_Num at h
  obtain ⟨⟨n3, n4, n5, l_⟩, h1, h⟩ := bind_of h
  obtain ⟨⟨n6, l_2⟩, h2, h⟩ := bind_of h
  obtain ⟨⟨n7, l_3⟩, h3, h⟩ := bind_of h
  have h := some_of h
  subst h
  have e_ := bits_Writer_Num_p0 n n2 l n3 n4 n5 l_ n6 l_2 n7 l_3
  have e_ := runs_of (objs := [[(.own 0 0 (l).length false), (.pv (.int .i64 n2))]]) (Says.of e_ ⟨(bits_Writer_Num_L0_runs _ _ h1), (bits_Writer_Put_2_runs 0 1 n5 l_ _ h2), (bits_Writer_Put_2_runs n3 n4 n6 l_2 _ h3), trivial⟩)
  exact e_
/-! ### code_zero_out -/
def code_zero_out (e : Int) (e2 : T_event_halves) : Bool → Res
  | r1 => ([(.one (.pv (.bool r1)))], [], [])
/-! ### code_zero -/
theorem code_zero_p0 (e : Int) (e2 : T_event_halves) (b : Bool) : evFn Try.prog cfg (Runs Try.prog) (LRuns Try.prog (lEnv Try.prog cfg 44 0).nt 0) 44 [(.agg [(.pv (.int .u64 e)), (.pv (T_event_halves.pv e2))])] [] []
    [.res ([(.one (.pv (.bool b)))], [], []), .br true, .res ([(.one (.pv (.int .u64 e)))], [], [])] =
  some (([(.one (.pv (.bool (decide ((e : Int) = 0)))))], [], []), obs [
    Runs Try.prog 41 [(.agg [(.pv (.int .u64 e)), (.pv (T_event_halves.pv e2))])] [] [] ([(.one (.pv (.bool b)))], [], []),
    b = true,
    Runs Try.prog 43 [(.agg [(.pv (.int .u64 e)), (.pv (T_event_halves.pv e2))])] [] [] ([(.one (.pv (.int .u64 e)))], [], [])]) := by kernel_rfl
theorem code_zero_p1 (e : Int) (e2 : T_event_halves) (b : Bool) : evFn Try.prog cfg (Runs Try.prog) (LRuns Try.prog (lEnv Try.prog cfg 44 0).nt 0) 44 [(.agg [(.pv (.int .u64 e)), (.pv (T_event_halves.pv e2))])] [] []
    [.res ([(.one (.pv (.bool b)))], [], []), .br false] =
  some (([(.one (.pv (.bool false)))], [], []), obs [
    Runs Try.prog 41 [(.agg [(.pv (.int .u64 e)), (.pv (T_event_halves.pv e2))])] [] [] ([(.one (.pv (.bool b)))], [], []),
    b = false]) := by kernel_rfl
noncomputable def code_zero (e : Int) (e2 : T_event_halves) : Option (Bool) :=
  (event_Event_IsLeaf e e2).bind fun b =>
  bif b then
    (event_Event_Base e e2).bind fun _ =>
    some (decide ((e : Int) = 0))
  else
    some false
theorem code_zero_runs (e : Int) (e2 : T_event_halves) (r_ : Bool) (h : code_zero e e2 = some r_) : Runs Try.prog 44 [(.agg [(.pv (.int .u64 e)), (.pv (T_event_halves.pv e2))])] [] [] (code_zero_out e e2 r_) := by
  unfold code_zero at h
  obtain ⟨b, h1, h⟩ := bind_of h
  rcases cond_of h with ⟨h2, h⟩ | ⟨h2, h⟩
  · obtain ⟨_, h3, h⟩ := bind_of h
    have h := some_of h
    subst h
    have e_ := code_zero_p0 e e2 b
    have e_ := runs_of (objs := []) (Says.of e_ ⟨(event_Event_IsLeaf_runs e e2 _ h1), h2, (event_Event_Base_runs e e2 _ h3), trivial⟩)
    exact e_
  · have h := some_of h
    subst h
    have e_ := code_zero_p1 e e2 b
    have e_ := runs_of (objs := []) (Says.of e_ ⟨(event_Event_IsLeaf_runs e e2 _ h1), h2, trivial⟩)
    exact e_

end Go.Proofs.Ytjjakdmcnkldoaa
