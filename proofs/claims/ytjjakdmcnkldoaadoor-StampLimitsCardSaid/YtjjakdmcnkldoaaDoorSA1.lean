/- What functions compute, and that they do. -/
import Derived.Test.YtjjakdmcnkldoaaDoorSCfg
import Derived.Test.YtjjakdmcnkldoaaDoorSM2
set_option linter.unusedVariables false
set_option linter.unusedSimpArgs false
set_option maxRecDepth 100000
namespace Go.Proofs.YtjjakdmcnkldoaaDoor
open Go.Ev

/-! ### bytes_Clone -/
theorem bytes_Clone_nil  : evFn Tryd.prog cfg (Runs Tryd.prog) (LRuns Tryd.prog (lEnv Tryd.prog cfg 120 0).nt 0) 120 [(.one (.pv .nils))] [] []
    [.br true] =
  some (([(.one (.pv .nils))], [], []), obs [
    true = true]) := by kernel_rfl
theorem bytes_Clone_emp  : evFn Tryd.prog cfg (Runs Tryd.prog) (LRuns Tryd.prog (lEnv Tryd.prog cfg 120 0).nt 0) 120 [(.one (.pv .emp))] [] []
    [.br false, .br true] =
  some (([(.one (.own 0 0 0 false))], [], [(.ints .u8 [])]), obs [
    false = false,
    true = true]) := by kernel_rfl
theorem bytes_Clone_fn (l : List Int) (t : Bool) : evFn Tryd.prog cfg (Runs Tryd.prog) (LRuns Tryd.prog (lEnv Tryd.prog cfg 120 0).nt 0) 120 [(.one (.pv (.ints .u8 l t)))] [] []
    [.br false, .br false] =
  some (([(.one (.own 0 0 (([] ++ l)).length false))], [], [(.ints .u8 ([] ++ l))]), obs [
    (!(Nat.beq (l).length 0)) = true,
    false = false,
    (!(Nat.beq (l).length 0)) = true,
    (fits (([] ++ l)).length) = true]) := by kernel_rfl
theorem bytes_Clone_runs {l : List Int} {t : Bool} (hl : fits l.length = true) : Runs Tryd.prog 120 [.one (.pv (.ints .u8 l t))] [] [] ([.one (.pv (.ints .u8 l false))], [], []) := by
  cases l with
  | nil =>
    have h1 : Runs Tryd.prog 120 [.one (.pv .nils)] [] [] ([.one (.pv (.ints .u8 [] false))], [], []) := by
      have h0 : Runs Tryd.prog 120 [.one (.pv .nils)] [] [] ([.one (.pv .nils)], [], []) := runs_of (Says.of bytes_Clone_nil ⟨rfl, trivial⟩)
      refine h0.res rfl (Nat.zero_le _) fun y v hs hv => ⟨y, rfl, Ext.refl y, rfl, hs, nils_ints hv⟩
    have h2 : Runs Tryd.prog 120 [.one (.pv .emp)] [] [] ([.one (.pv (.ints .u8 [] false))], [], []) :=
      Runs.close0 (rw := .ints .u8 []) (runs_of (Says.of bytes_Clone_emp ⟨rfl, rfl, trivial⟩)) rfl
    refine h1.split h2 fun x vals hr => ?_
    match vals, hr with
    | [v], hr =>
      rcases rep_empty hr.1 with h | h
      · exact .inl ⟨h, trivial⟩
      · exact .inr ⟨h, trivial⟩
  | cons a l =>
    have H := bytes_Clone_fn (a :: l) t
    rw [List.nil_append] at H
    exact Runs.close0 (rw := .ints .u8 (a :: l)) (runs_of (Says.of H ⟨by simp [Nat.beq], rfl, by simp [Nat.beq], hl, trivial⟩)) rfl
/-! ### kinfolklaw04_StampGrows_out -/
def kinfolklaw04_StampGrows_out (p : List Int) (q : List Int) : Bool → Res
  | r1 => ([(.one (.pv (.bool r1)))], [], [])
/-! ### kinfolklaw04_awake_out -/
def kinfolklaw04_awake_out : Bool → Res
  | r1 => ([(.one (.pv (.bool r1)))], [], [])
/-! ### stamp_Seed_out -/
def stamp_Seed_out : Unit → Res
  | _ => ([(.agg [(.pv (.bool true)), (.pv (T_id_halves.pv T_id_halves.nil)), (.pv (.int .u64 0)), (.pv (T_event_halves.pv T_event_halves.nil))])], [], [])
/-! ### id_One_out -/
def id_One_out : Unit → Res
  | _ => ([(.agg [(.pv (.bool true)), (.pv (T_id_halves.pv T_id_halves.nil))])], [], [])
/-! ### id_One -/
noncomputable def id_One : Option (Unit) :=
  some ()
theorem id_One_runs (r_ : Unit) (h : id_One = some r_) : Runs Tryd.prog 32 [] [] [] (id_One_out r_) := by
  unfold id_One at h
  have h := some_of h
  subst h
  have e_ : Runs Tryd.prog 32 [] [] [] ([(.agg [(.pv (.bool true)), (.pv .nilp)])], [], []) := runs_of (C := cfg) (objs := []) (sc := []) (.k0 (trivial) (by kernel_rfl))
  exact e_.out ⟨⟨.eq rfl, .eq rfl, trivial⟩, trivial⟩ trivial trivial rfl
/-! ### stamp_Seed -/
noncomputable def stamp_Seed : Option (Unit) :=
  (id_One).bind fun _ =>
  some ()
theorem stamp_Seed_runs (r_ : Unit) (h : stamp_Seed = some r_) : Runs Tryd.prog 35 [] [] [] (stamp_Seed_out r_) := by
  unfold stamp_Seed at h
  obtain ⟨_, h1, h⟩ := bind_of h
  have h := some_of h
  subst h
  have e_ : Runs Tryd.prog 35 [] [] [] ([(.agg [(.pv (.bool true)), (.pv (T_id_halves.pv T_id_halves.nil)), (.pv (.int .u64 0)), (.pv .nilp)])], [], []) := runs_of (C := cfg) (objs := []) (sc := [.res (id_One_out ())]) (.k0 (an_ (id_One_runs _ h1) trivial) (by kernel_rfl))
  exact e_.out ⟨⟨.eq rfl, .eq rfl, .eq rfl, .eq rfl, trivial⟩, trivial⟩ trivial trivial rfl
/-! ### stamp_Stamp_Fork_out -/
def stamp_Stamp_Fork_out (s : Bool) (s2 : T_id_halves) (s3 : Int) (s4 : T_event_halves) : Bool × T_id_halves × Int × T_event_halves × Bool × T_id_halves × Int × T_event_halves × Int → Res
  | (r1, r2, r3, r4, r5, r6, r7, r8, r9) => ([(.agg [(.pv (.bool r1)), (.pv (T_id_halves.pv r2)), (.pv (.int .u64 r3)), (.pv (T_event_halves.pv r4))]), (.agg [(.pv (.bool r5)), (.pv (T_id_halves.pv r6)), (.pv (.int .u64 r7)), (.pv (T_event_halves.pv r8))]), (.one (.pv (.int .i64 r9)))], [], [])
/-! ### id_ID_Split_out -/
def id_ID_Split_out (i : Bool) (i2 : T_id_halves) : Bool × T_id_halves × Bool × T_id_halves × Int → Res
  | (r1, r2, r3, r4, r5) => ([(.agg [(.pv (.bool r1)), (.pv (T_id_halves.pv r2))]), (.agg [(.pv (.bool r3)), (.pv (T_id_halves.pv r4))]), (.one (.pv (.int .i64 r5)))], [], [])
/-! ### id_ID_split_out -/
def id_ID_split_out (i : Bool) (i2 : T_id_halves) : Bool × T_id_halves × Bool × T_id_halves → Res
  | (r1, r2, r3, r4) => ([(.agg [(.pv (.bool r1)), (.pv (T_id_halves.pv r2))]), (.agg [(.pv (.bool r3)), (.pv (T_id_halves.pv r4))])], [], [])
/-! ### id_ID_Left_out -/
def id_ID_Left_out (i : Bool) (i2 : T_id_halves) : Bool × T_id_halves → Res
  | (r1, r2) => ([(.agg [(.pv (.bool r1)), (.pv (T_id_halves.pv r2))])], [], [])
/-! ### id_ID_Left -/
noncomputable def id_ID_Left (i : Bool) (i2 : T_id_halves) : Option (Bool × T_id_halves) :=
  match i2 with
  | .nil =>
    some (i, i2)
  | .mk b t b2 t2 =>
    some (b, t)
theorem id_ID_Left_runs (i : Bool) (i2 : T_id_halves) (r_ : Bool × T_id_halves) (h : id_ID_Left i i2 = some r_) : Runs Tryd.prog 93 [(.agg [(.pv (.bool i)), (.pv (T_id_halves.pv i2))])] [] [] (id_ID_Left_out i i2 r_) := by
  unfold id_ID_Left at h
  cases i2 with
  | nil =>
    have h := some_of h
    subst h
    exact runs_of (C := cfg) (objs := []) (sc := [.br true]) (.k0 (an_ (rfl : true = true) trivial) (by kernel_rfl))
  | mk b t b2 t2 =>
    have h := some_of h
    subst h
    exact runs_of (C := cfg) (objs := []) (sc := [.br false]) (.k0 (an_ (rfl : false = false) trivial) (by kernel_rfl))
/-! ### id_ID_Right_out -/
def id_ID_Right_out (i : Bool) (i2 : T_id_halves) : Bool × T_id_halves → Res
  | (r1, r2) => ([(.agg [(.pv (.bool r1)), (.pv (T_id_halves.pv r2))])], [], [])
/-! ### id_ID_Right -/
noncomputable def id_ID_Right (i : Bool) (i2 : T_id_halves) : Option (Bool × T_id_halves) :=
  match i2 with
  | .nil =>
    some (i, i2)
  | .mk b t b2 t2 =>
    some (b2, t2)
theorem id_ID_Right_runs (i : Bool) (i2 : T_id_halves) (r_ : Bool × T_id_halves) (h : id_ID_Right i i2 = some r_) : Runs Tryd.prog 94 [(.agg [(.pv (.bool i)), (.pv (T_id_halves.pv i2))])] [] [] (id_ID_Right_out i i2 r_) := by
  unfold id_ID_Right at h
  cases i2 with
  | nil =>
    have h := some_of h
    subst h
    exact runs_of (C := cfg) (objs := []) (sc := [.br true]) (.k0 (an_ (rfl : true = true) trivial) (by kernel_rfl))
  | mk b t b2 t2 =>
    have h := some_of h
    subst h
    exact runs_of (C := cfg) (objs := []) (sc := [.br false]) (.k0 (an_ (rfl : false = false) trivial) (by kernel_rfl))
/-! ### id_ID_IsZero_out -/
def id_ID_IsZero_out (i : Bool) (i2 : T_id_halves) : Bool → Res
  | r1 => ([(.one (.pv (.bool r1)))], [], [])
/-! ### id_ID_IsZero -/
noncomputable def id_ID_IsZero (i : Bool) (i2 : T_id_halves) : Option (Bool) :=
  bif i then
    some false
  else
    match i2 with
    | .nil =>
      some true
    | .mk b t b2 t2 =>
      some false
theorem id_ID_IsZero_runs (i : Bool) (i2 : T_id_halves) (r_ : Bool) (h : id_ID_IsZero i i2 = some r_) : Runs Tryd.prog 40 [(.agg [(.pv (.bool i)), (.pv (T_id_halves.pv i2))])] [] [] (id_ID_IsZero_out i i2 r_) := by
  unfold id_ID_IsZero at h
  rcases cond_of h with ⟨h1, h⟩ | ⟨h1, h⟩
  · have h := some_of h
    subst h
    exact runs_of (C := cfg) (objs := []) (sc := [.br false]) (.k0 (an_ (not_of2 h1) trivial) (by kernel_rfl))
  · cases i2 with
    | nil =>
      have h := some_of h
      subst h
      exact runs_of (C := cfg) (objs := []) (sc := [.br true]) (.k0 (an_ (not_of h1) trivial) (by kernel_rfl))
    | mk b t b2 t2 =>
      have h := some_of h
      subst h
      exact runs_of (C := cfg) (objs := []) (sc := [.br true]) (.k0 (an_ (not_of h1) trivial) (by kernel_rfl))
/-! ### id_ID_IsOne_out -/
def id_ID_IsOne_out (i : Bool) (i2 : T_id_halves) : Unit → Res
  | _ => ([(.one (.pv (.bool i)))], [], [])
/-! ### id_ID_IsOne -/
noncomputable def id_ID_IsOne (i : Bool) (i2 : T_id_halves) : Option (Unit) :=
  some ()
theorem id_ID_IsOne_runs (i : Bool) (i2 : T_id_halves) (r_ : Unit) (h : id_ID_IsOne i i2 = some r_) : Runs Tryd.prog 91 [(.agg [(.pv (.bool i)), (.pv (T_id_halves.pv i2))])] [] [] (id_ID_IsOne_out i i2 r_) := by
  unfold id_ID_IsOne at h
  have h := some_of h
  subst h
  exact runs_of (C := cfg) (objs := []) (sc := []) (.k0 (trivial) (by kernel_rfl))
/-! ### id_Zero_out -/
def id_Zero_out : Unit → Res
  | _ => ([(.agg [(.pv (.bool false)), (.pv (T_id_halves.pv T_id_halves.nil))])], [], [])
/-! ### id_Zero -/
noncomputable def id_Zero : Option (Unit) :=
  some ()
theorem id_Zero_runs (r_ : Unit) (h : id_Zero = some r_) : Runs Tryd.prog 122 [] [] [] (id_Zero_out r_) := by
  unfold id_Zero at h
  have h := some_of h
  subst h
  have e_ : Runs Tryd.prog 122 [] [] [] ([(.agg [(.pv (.bool false)), (.pv .nilp)])], [], []) := runs_of (C := cfg) (objs := []) (sc := []) (.k0 (trivial) (by kernel_rfl))
  exact e_.out ⟨⟨.eq rfl, .eq rfl, trivial⟩, trivial⟩ trivial trivial rfl
/-! ### id_pair_out -/
def id_pair_out (l : Bool) (l2 : T_id_halves) (r : Bool) (r2 : T_id_halves) : Bool × T_id_halves → Res
  | (r1, r2) => ([(.agg [(.pv (.bool r1)), (.pv (T_id_halves.pv r2))])], [], [])
/-! ### id_pair -/
noncomputable def id_pair (l : Bool) (l2 : T_id_halves) (r : Bool) (r2 : T_id_halves) : Option (Bool × T_id_halves) :=
  (id_ID_IsZero l l2).bind fun b =>
  bif b then
    (id_ID_IsZero r r2).bind fun b2 =>
    bif b2 then
      (id_Zero).bind fun _ =>
      some (false, T_id_halves.nil)
    else
      (id_ID_IsOne l l2).bind fun _ =>
      bif l then
        (id_ID_IsOne r r2).bind fun _ =>
        bif r then
          (id_One).bind fun _ =>
          some (true, T_id_halves.nil)
        else
          some (false, (T_id_halves.mk l l2 r r2))
      else
        some (false, (T_id_halves.mk l l2 r r2))
  else
    (id_ID_IsOne l l2).bind fun _ =>
    bif l then
      (id_ID_IsOne r r2).bind fun _ =>
      bif r then
        (id_One).bind fun _ =>
        some (true, T_id_halves.nil)
      else
        some (false, (T_id_halves.mk l l2 r r2))
    else
      some (false, (T_id_halves.mk l l2 r r2))
theorem id_pair_runs (l : Bool) (l2 : T_id_halves) (r : Bool) (r2 : T_id_halves) (r_ : Bool × T_id_halves) (h : id_pair l l2 r r2 = some r_) : Runs Tryd.prog 159 [(.agg [(.pv (.bool l)), (.pv (T_id_halves.pv l2))]), (.agg [(.pv (.bool r)), (.pv (T_id_halves.pv r2))])] [] [] (id_pair_out l l2 r r2 r_) := by
  unfold id_pair at h
  obtain ⟨b, h1, h⟩ := bind_of h
  rcases cond_of h with ⟨h2, h⟩ | ⟨h2, h⟩
  · obtain ⟨b2, h3, h⟩ := bind_of h
    rcases cond_of h with ⟨h4, h⟩ | ⟨h4, h⟩
    · obtain ⟨_, h5, h⟩ := bind_of h
      have h := some_of h
      subst h
      exact runs_of (C := cfg) (objs := []) (sc := [.res (id_ID_IsZero_out l l2 b), .br true, .res (id_ID_IsZero_out r r2 b2), .br true, .res (id_Zero_out ())]) (.k0 (an_ (id_ID_IsZero_runs l l2 _ h1) (an_ h2 (an_ (id_ID_IsZero_runs r r2 _ h3) (an_ h4 (an_ (id_Zero_runs _ h5) trivial))))) (by kernel_rfl))
    · obtain ⟨_, h5, h⟩ := bind_of h
      rcases cond_of h with ⟨h6, h⟩ | ⟨h6, h⟩
      · obtain ⟨_, h7, h⟩ := bind_of h
        rcases cond_of h with ⟨h8, h⟩ | ⟨h8, h⟩
        · obtain ⟨_, h9, h⟩ := bind_of h
          have h := some_of h
          subst h
          exact runs_of (C := cfg) (objs := []) (sc := [.res (id_ID_IsZero_out l l2 b), .br true, .res (id_ID_IsZero_out r r2 b2), .br false, .res (id_ID_IsOne_out l l2 ()), .br true, .res (id_ID_IsOne_out r r2 ()), .br true, .res (id_One_out ())]) (.k0 (an_ (id_ID_IsZero_runs l l2 _ h1) (an_ h2 (an_ (id_ID_IsZero_runs r r2 _ h3) (an_ h4 (an_ (id_ID_IsOne_runs l l2 _ h5) (an_ h6 (an_ (id_ID_IsOne_runs r r2 _ h7) (an_ h8 (an_ (id_One_runs _ h9) trivial))))))))) (by kernel_rfl))
        · have h := some_of h
          subst h
          have e_ : Runs Tryd.prog 159 [(.agg [(.pv (.bool l)), (.pv (T_id_halves.pv l2))]), (.agg [(.pv (.bool r)), (.pv (T_id_halves.pv r2))])] [] [] ([(.agg [(.pv (.bool false)), (.pv (.imm [(.bool l), (T_id_halves.pv l2), (.bool r), (T_id_halves.pv r2)] 0))])], [], []) := runs_of (C := cfg) (objs := []) (sc := [.res (id_ID_IsZero_out l l2 b), .br true, .res (id_ID_IsZero_out r r2 b2), .br false, .res (id_ID_IsOne_out l l2 ()), .br true, .res (id_ID_IsOne_out r r2 ()), .br false]) (.k0 (an_ (id_ID_IsZero_runs l l2 _ h1) (an_ h2 (an_ (id_ID_IsZero_runs r r2 _ h3) (an_ h4 (an_ (id_ID_IsOne_runs l l2 _ h5) (an_ h6 (an_ (id_ID_IsOne_runs r r2 _ h7) (an_ h8 trivial)))))))) (by kernel_rfl))
          exact e_.out ⟨⟨.eq rfl, .eq rfl, trivial⟩, trivial⟩ trivial trivial rfl
      · have h := some_of h
        subst h
        have e_ : Runs Tryd.prog 159 [(.agg [(.pv (.bool l)), (.pv (T_id_halves.pv l2))]), (.agg [(.pv (.bool r)), (.pv (T_id_halves.pv r2))])] [] [] ([(.agg [(.pv (.bool false)), (.pv (.imm [(.bool l), (T_id_halves.pv l2), (.bool r), (T_id_halves.pv r2)] 0))])], [], []) := runs_of (C := cfg) (objs := []) (sc := [.res (id_ID_IsZero_out l l2 b), .br true, .res (id_ID_IsZero_out r r2 b2), .br false, .res (id_ID_IsOne_out l l2 ()), .br false, .br false]) (.k0 (an_ (id_ID_IsZero_runs l l2 _ h1) (an_ h2 (an_ (id_ID_IsZero_runs r r2 _ h3) (an_ h4 (an_ (id_ID_IsOne_runs l l2 _ h5) (an_ h6 (an_ (rfl : false = false) trivial))))))) (by kernel_rfl))
        exact e_.out ⟨⟨.eq rfl, .eq rfl, trivial⟩, trivial⟩ trivial trivial rfl
  · obtain ⟨_, h3, h⟩ := bind_of h
    rcases cond_of h with ⟨h4, h⟩ | ⟨h4, h⟩
    · obtain ⟨_, h5, h⟩ := bind_of h
      rcases cond_of h with ⟨h6, h⟩ | ⟨h6, h⟩
      · obtain ⟨_, h7, h⟩ := bind_of h
        have h := some_of h
        subst h
        exact runs_of (C := cfg) (objs := []) (sc := [.res (id_ID_IsZero_out l l2 b), .br false, .br false, .res (id_ID_IsOne_out l l2 ()), .br true, .res (id_ID_IsOne_out r r2 ()), .br true, .res (id_One_out ())]) (.k0 (an_ (id_ID_IsZero_runs l l2 _ h1) (an_ h2 (an_ (rfl : false = false) (an_ (id_ID_IsOne_runs l l2 _ h3) (an_ h4 (an_ (id_ID_IsOne_runs r r2 _ h5) (an_ h6 (an_ (id_One_runs _ h7) trivial)))))))) (by kernel_rfl))
      · have h := some_of h
        subst h
        have e_ : Runs Tryd.prog 159 [(.agg [(.pv (.bool l)), (.pv (T_id_halves.pv l2))]), (.agg [(.pv (.bool r)), (.pv (T_id_halves.pv r2))])] [] [] ([(.agg [(.pv (.bool false)), (.pv (.imm [(.bool l), (T_id_halves.pv l2), (.bool r), (T_id_halves.pv r2)] 0))])], [], []) := runs_of (C := cfg) (objs := []) (sc := [.res (id_ID_IsZero_out l l2 b), .br false, .br false, .res (id_ID_IsOne_out l l2 ()), .br true, .res (id_ID_IsOne_out r r2 ()), .br false]) (.k0 (an_ (id_ID_IsZero_runs l l2 _ h1) (an_ h2 (an_ (rfl : false = false) (an_ (id_ID_IsOne_runs l l2 _ h3) (an_ h4 (an_ (id_ID_IsOne_runs r r2 _ h5) (an_ h6 trivial))))))) (by kernel_rfl))
        exact e_.out ⟨⟨.eq rfl, .eq rfl, trivial⟩, trivial⟩ trivial trivial rfl
    · have h := some_of h
      subst h
      have e_ : Runs Tryd.prog 159 [(.agg [(.pv (.bool l)), (.pv (T_id_halves.pv l2))]), (.agg [(.pv (.bool r)), (.pv (T_id_halves.pv r2))])] [] [] ([(.agg [(.pv (.bool false)), (.pv (.imm [(.bool l), (T_id_halves.pv l2), (.bool r), (T_id_halves.pv r2)] 0))])], [], []) := runs_of (C := cfg) (objs := []) (sc := [.res (id_ID_IsZero_out l l2 b), .br false, .br false, .res (id_ID_IsOne_out l l2 ()), .br false, .br false]) (.k0 (an_ (id_ID_IsZero_runs l l2 _ h1) (an_ h2 (an_ (rfl : false = false) (an_ (id_ID_IsOne_runs l l2 _ h3) (an_ h4 (an_ (rfl : false = false) trivial)))))) (by kernel_rfl))
      exact e_.out ⟨⟨.eq rfl, .eq rfl, trivial⟩, trivial⟩ trivial trivial rfl
/-! ### id_ID_split -/
noncomputable def id_ID_split_b (rec_id_ID_split : Bool → T_id_halves → Option (Bool × T_id_halves × Bool × T_id_halves)) (i : Bool) (i2 : T_id_halves) : Option (Bool × T_id_halves × Bool × T_id_halves) :=
  (id_ID_Left i i2).bind fun (b, t) =>
  (id_ID_Right i i2).bind fun (b2, t2) =>
  (id_ID_IsZero i i2).bind fun b3 =>
  bif b3 then
    some (i, i2, i, i2)
  else
    (id_ID_IsOne i i2).bind fun _ =>
    bif i then
      (id_Zero).bind fun _ =>
      (id_pair i i2 false T_id_halves.nil).bind fun (b4, t3) =>
      (id_pair false T_id_halves.nil i i2).bind fun (b5, t4) =>
      some (b4, t3, b5, t4)
    else
      (id_ID_IsZero b t).bind fun b4 =>
      bif b4 then
        (rec_id_ID_split b2 t2).bind fun (b5, t3, b6, t4) =>
        (id_pair b t b5 t3).bind fun (b7, t5) =>
        (id_pair b t b6 t4).bind fun (b8, t6) =>
        some (b7, t5, b8, t6)
      else
        (id_ID_IsZero b2 t2).bind fun b5 =>
        bif b5 then
          (rec_id_ID_split b t).bind fun (b6, t3, b7, t4) =>
          (id_pair b6 t3 b2 t2).bind fun (b8, t5) =>
          (id_pair b7 t4 b2 t2).bind fun (b9, t6) =>
          some (b8, t5, b9, t6)
        else
          (id_Zero).bind fun _ =>
          (id_pair b t false T_id_halves.nil).bind fun (b6, t3) =>
          (id_pair false T_id_halves.nil b2 t2).bind fun (b7, t4) =>
          some (b6, t3, b7, t4)
theorem id_ID_split_b_runs (rec_id_ID_split : Bool → T_id_halves → Option (Bool × T_id_halves × Bool × T_id_halves)) (hrec_id_ID_split : ∀ i i2 r_, rec_id_ID_split i i2 = some r_ → Runs Tryd.prog 140 [(.agg [(.pv (.bool i)), (.pv (T_id_halves.pv i2))])] [] [] (id_ID_split_out i i2 r_)) (i : Bool) (i2 : T_id_halves) (r_ : Bool × T_id_halves × Bool × T_id_halves) (h : id_ID_split_b rec_id_ID_split i i2 = some r_) : Runs Tryd.prog 140 [(.agg [(.pv (.bool i)), (.pv (T_id_halves.pv i2))])] [] [] (id_ID_split_out i i2 r_) := by
  unfold id_ID_split_b at h
  obtain ⟨⟨b, t⟩, h1, h⟩ := bind_of h
  obtain ⟨⟨b2, t2⟩, h2, h⟩ := bind_of h
  obtain ⟨b3, h3, h⟩ := bind_of h
  rcases cond_of h with ⟨h4, h⟩ | ⟨h4, h⟩
  · have h := some_of h
    subst h
    exact runs_of (C := cfg) (objs := []) (sc := [.res (id_ID_Left_out i i2 (b, t)), .res (id_ID_Left_out i i2 (b, t)), .res (id_ID_Left_out i i2 (b, t)), .res (id_ID_Left_out i i2 (b, t)), .res (id_ID_Left_out i i2 (b, t)), .res (id_ID_Left_out i i2 (b, t)), .res (id_ID_Left_out i i2 (b, t)), .res (id_ID_Right_out i i2 (b2, t2)), .res (id_ID_Right_out i i2 (b2, t2)), .res (id_ID_Right_out i i2 (b2, t2)), .res (id_ID_Left_out i i2 (b, t)), .res (id_ID_Right_out i i2 (b2, t2)), .res (id_ID_IsZero_out i i2 b3), .br true]) (.k1 (an_ (id_ID_Left_runs i i2 _ h1) (an_ (id_ID_Left_runs i i2 _ h1) (an_ (id_ID_Left_runs i i2 _ h1) (an_ (id_ID_Left_runs i i2 _ h1) (an_ (id_ID_Left_runs i i2 _ h1) (an_ (id_ID_Left_runs i i2 _ h1) (an_ (id_ID_Left_runs i i2 _ h1) (an_ (id_ID_Right_runs i i2 _ h2) (an_ (id_ID_Right_runs i i2 _ h2) (an_ (id_ID_Right_runs i i2 _ h2) (an_ (id_ID_Left_runs i i2 _ h1) (an_ (id_ID_Right_runs i i2 _ h2) (an_ (id_ID_IsZero_runs i i2 _ h3) (an_ h4 trivial)))))))))))))) (by kernel_rfl) (by kernel_rfl))
  · obtain ⟨_, h5, h⟩ := bind_of h
    rcases cond_of h with ⟨h6, h⟩ | ⟨h6, h⟩
    · obtain ⟨_, h7, h⟩ := bind_of h
      obtain ⟨⟨b4, t3⟩, h8, h⟩ := bind_of h
      obtain ⟨⟨b5, t4⟩, h9, h⟩ := bind_of h
      have h := some_of h
      subst h
      exact runs_of (C := cfg) (objs := []) (sc := [.res (id_ID_Left_out i i2 (b, t)), .res (id_ID_Left_out i i2 (b, t)), .res (id_ID_Left_out i i2 (b, t)), .res (id_ID_Left_out i i2 (b, t)), .res (id_ID_Left_out i i2 (b, t)), .res (id_ID_Left_out i i2 (b, t)), .res (id_ID_Left_out i i2 (b, t)), .res (id_ID_Right_out i i2 (b2, t2)), .res (id_ID_Right_out i i2 (b2, t2)), .res (id_ID_Right_out i i2 (b2, t2)), .res (id_ID_Left_out i i2 (b, t)), .res (id_ID_Right_out i i2 (b2, t2)), .res (id_ID_IsZero_out i i2 b3), .br false, .res (id_ID_IsOne_out i i2 ()), .br true, .res (id_Zero_out ()), .res (id_Zero_out ()), .res (id_Zero_out ()), .res (id_pair_out i i2 false T_id_halves.nil (b4, t3)), .res (id_Zero_out ()), .res (id_pair_out i i2 false T_id_halves.nil (b4, t3)), .res (id_Zero_out ()), .res (id_Zero_out ()), .res (id_pair_out false T_id_halves.nil i i2 (b5, t4))]) (.k1 (an_ (id_ID_Left_runs i i2 _ h1) (an_ (id_ID_Left_runs i i2 _ h1) (an_ (id_ID_Left_runs i i2 _ h1) (an_ (id_ID_Left_runs i i2 _ h1) (an_ (id_ID_Left_runs i i2 _ h1) (an_ (id_ID_Left_runs i i2 _ h1) (an_ (id_ID_Left_runs i i2 _ h1) (an_ (id_ID_Right_runs i i2 _ h2) (an_ (id_ID_Right_runs i i2 _ h2) (an_ (id_ID_Right_runs i i2 _ h2) (an_ (id_ID_Left_runs i i2 _ h1) (an_ (id_ID_Right_runs i i2 _ h2) (an_ (id_ID_IsZero_runs i i2 _ h3) (an_ h4 (an_ (id_ID_IsOne_runs i i2 _ h5) (an_ h6 (an_ (id_Zero_runs _ h7) (an_ (id_Zero_runs _ h7) (an_ (id_Zero_runs _ h7) (an_ (id_pair_runs i i2 false T_id_halves.nil _ h8) (an_ (id_Zero_runs _ h7) (an_ (id_pair_runs i i2 false T_id_halves.nil _ h8) (an_ (id_Zero_runs _ h7) (an_ (id_Zero_runs _ h7) (an_ (id_pair_runs false T_id_halves.nil i i2 _ h9) trivial))))))))))))))))))))))))) (by kernel_rfl) (by kernel_rfl))
    · obtain ⟨b4, h7, h⟩ := bind_of h
      rcases cond_of h with ⟨h8, h⟩ | ⟨h8, h⟩
      · obtain ⟨⟨b5, t3, b6, t4⟩, h9, h⟩ := bind_of h
        obtain ⟨⟨b7, t5⟩, h10, h⟩ := bind_of h
        obtain ⟨⟨b8, t6⟩, h11, h⟩ := bind_of h
        have h := some_of h
        subst h
        exact runs_of (C := cfg) (objs := []) (sc := [.res (id_ID_Left_out i i2 (b, t)), .res (id_ID_Left_out i i2 (b, t)), .res (id_ID_Left_out i i2 (b, t)), .res (id_ID_Left_out i i2 (b, t)), .res (id_ID_Left_out i i2 (b, t)), .res (id_ID_Left_out i i2 (b, t)), .res (id_ID_Left_out i i2 (b, t)), .res (id_ID_Right_out i i2 (b2, t2)), .res (id_ID_Right_out i i2 (b2, t2)), .res (id_ID_Right_out i i2 (b2, t2)), .res (id_ID_Left_out i i2 (b, t)), .res (id_ID_Right_out i i2 (b2, t2)), .res (id_ID_IsZero_out i i2 b3), .br false, .res (id_ID_IsOne_out i i2 ()), .br false, .res (id_ID_IsZero_out b t b4), .br true, .res (id_ID_split_out b2 t2 (b5, t3, b6, t4)), .res (id_pair_out b t b5 t3 (b7, t5)), .res (id_pair_out b t b5 t3 (b7, t5)), .res (id_pair_out b t b5 t3 (b7, t5)), .res (id_pair_out b t b5 t3 (b7, t5)), .res (id_pair_out b t b6 t4 (b8, t6))]) (.k1 (an_ (id_ID_Left_runs i i2 _ h1) (an_ (id_ID_Left_runs i i2 _ h1) (an_ (id_ID_Left_runs i i2 _ h1) (an_ (id_ID_Left_runs i i2 _ h1) (an_ (id_ID_Left_runs i i2 _ h1) (an_ (id_ID_Left_runs i i2 _ h1) (an_ (id_ID_Left_runs i i2 _ h1) (an_ (id_ID_Right_runs i i2 _ h2) (an_ (id_ID_Right_runs i i2 _ h2) (an_ (id_ID_Right_runs i i2 _ h2) (an_ (id_ID_Left_runs i i2 _ h1) (an_ (id_ID_Right_runs i i2 _ h2) (an_ (id_ID_IsZero_runs i i2 _ h3) (an_ h4 (an_ (id_ID_IsOne_runs i i2 _ h5) (an_ h6 (an_ (id_ID_IsZero_runs b t _ h7) (an_ h8 (an_ (hrec_id_ID_split b2 t2 _ h9) (an_ (id_pair_runs b t b5 t3 _ h10) (an_ (id_pair_runs b t b5 t3 _ h10) (an_ (id_pair_runs b t b5 t3 _ h10) (an_ (id_pair_runs b t b5 t3 _ h10) (an_ (id_pair_runs b t b6 t4 _ h11) trivial)))))))))))))))))))))))) (by kernel_rfl) (by kernel_rfl))
      · obtain ⟨b5, h9, h⟩ := bind_of h
        rcases cond_of h with ⟨h10, h⟩ | ⟨h10, h⟩
        · obtain ⟨⟨b6, t3, b7, t4⟩, h11, h⟩ := bind_of h
          obtain ⟨⟨b8, t5⟩, h12, h⟩ := bind_of h
          obtain ⟨⟨b9, t6⟩, h13, h⟩ := bind_of h
          have h := some_of h
          subst h
          exact runs_of (C := cfg) (objs := []) (sc := [.res (id_ID_Left_out i i2 (b, t)), .res (id_ID_Left_out i i2 (b, t)), .res (id_ID_Left_out i i2 (b, t)), .res (id_ID_Left_out i i2 (b, t)), .res (id_ID_Left_out i i2 (b, t)), .res (id_ID_Left_out i i2 (b, t)), .res (id_ID_Left_out i i2 (b, t)), .res (id_ID_Right_out i i2 (b2, t2)), .res (id_ID_Right_out i i2 (b2, t2)), .res (id_ID_Right_out i i2 (b2, t2)), .res (id_ID_Left_out i i2 (b, t)), .res (id_ID_Right_out i i2 (b2, t2)), .res (id_ID_IsZero_out i i2 b3), .br false, .res (id_ID_IsOne_out i i2 ()), .br false, .res (id_ID_IsZero_out b t b4), .br false, .res (id_ID_IsZero_out b2 t2 b5), .br true, .res (id_ID_split_out b t (b6, t3, b7, t4)), .res (id_pair_out b6 t3 b2 t2 (b8, t5)), .res (id_pair_out b6 t3 b2 t2 (b8, t5)), .res (id_pair_out b6 t3 b2 t2 (b8, t5)), .res (id_pair_out b6 t3 b2 t2 (b8, t5)), .res (id_pair_out b7 t4 b2 t2 (b9, t6))]) (.k1 (an_ (id_ID_Left_runs i i2 _ h1) (an_ (id_ID_Left_runs i i2 _ h1) (an_ (id_ID_Left_runs i i2 _ h1) (an_ (id_ID_Left_runs i i2 _ h1) (an_ (id_ID_Left_runs i i2 _ h1) (an_ (id_ID_Left_runs i i2 _ h1) (an_ (id_ID_Left_runs i i2 _ h1) (an_ (id_ID_Right_runs i i2 _ h2) (an_ (id_ID_Right_runs i i2 _ h2) (an_ (id_ID_Right_runs i i2 _ h2) (an_ (id_ID_Left_runs i i2 _ h1) (an_ (id_ID_Right_runs i i2 _ h2) (an_ (id_ID_IsZero_runs i i2 _ h3) (an_ h4 (an_ (id_ID_IsOne_runs i i2 _ h5) (an_ h6 (an_ (id_ID_IsZero_runs b t _ h7) (an_ h8 (an_ (id_ID_IsZero_runs b2 t2 _ h9) (an_ h10 (an_ (hrec_id_ID_split b t _ h11) (an_ (id_pair_runs b6 t3 b2 t2 _ h12) (an_ (id_pair_runs b6 t3 b2 t2 _ h12) (an_ (id_pair_runs b6 t3 b2 t2 _ h12) (an_ (id_pair_runs b6 t3 b2 t2 _ h12) (an_ (id_pair_runs b7 t4 b2 t2 _ h13) trivial)))))))))))))))))))))))))) (by kernel_rfl) (by kernel_rfl))
        · obtain ⟨_, h11, h⟩ := bind_of h
          obtain ⟨⟨b6, t3⟩, h12, h⟩ := bind_of h
          obtain ⟨⟨b7, t4⟩, h13, h⟩ := bind_of h
          have h := some_of h
          subst h
          exact runs_of (C := cfg) (objs := []) (sc := [.res (id_ID_Left_out i i2 (b, t)), .res (id_ID_Left_out i i2 (b, t)), .res (id_ID_Left_out i i2 (b, t)), .res (id_ID_Left_out i i2 (b, t)), .res (id_ID_Left_out i i2 (b, t)), .res (id_ID_Left_out i i2 (b, t)), .res (id_ID_Left_out i i2 (b, t)), .res (id_ID_Right_out i i2 (b2, t2)), .res (id_ID_Right_out i i2 (b2, t2)), .res (id_ID_Right_out i i2 (b2, t2)), .res (id_ID_Left_out i i2 (b, t)), .res (id_ID_Right_out i i2 (b2, t2)), .res (id_ID_IsZero_out i i2 b3), .br false, .res (id_ID_IsOne_out i i2 ()), .br false, .res (id_ID_IsZero_out b t b4), .br false, .res (id_ID_IsZero_out b2 t2 b5), .br false, .res (id_Zero_out ()), .res (id_Zero_out ()), .res (id_Zero_out ()), .res (id_pair_out b t false T_id_halves.nil (b6, t3)), .res (id_Zero_out ()), .res (id_pair_out b t false T_id_halves.nil (b6, t3)), .res (id_Zero_out ()), .res (id_Zero_out ()), .res (id_pair_out false T_id_halves.nil b2 t2 (b7, t4))]) (.k1 (an_ (id_ID_Left_runs i i2 _ h1) (an_ (id_ID_Left_runs i i2 _ h1) (an_ (id_ID_Left_runs i i2 _ h1) (an_ (id_ID_Left_runs i i2 _ h1) (an_ (id_ID_Left_runs i i2 _ h1) (an_ (id_ID_Left_runs i i2 _ h1) (an_ (id_ID_Left_runs i i2 _ h1) (an_ (id_ID_Right_runs i i2 _ h2) (an_ (id_ID_Right_runs i i2 _ h2) (an_ (id_ID_Right_runs i i2 _ h2) (an_ (id_ID_Left_runs i i2 _ h1) (an_ (id_ID_Right_runs i i2 _ h2) (an_ (id_ID_IsZero_runs i i2 _ h3) (an_ h4 (an_ (id_ID_IsOne_runs i i2 _ h5) (an_ h6 (an_ (id_ID_IsZero_runs b t _ h7) (an_ h8 (an_ (id_ID_IsZero_runs b2 t2 _ h9) (an_ h10 (an_ (id_Zero_runs _ h11) (an_ (id_Zero_runs _ h11) (an_ (id_Zero_runs _ h11) (an_ (id_pair_runs b t false T_id_halves.nil _ h12) (an_ (id_Zero_runs _ h11) (an_ (id_pair_runs b t false T_id_halves.nil _ h12) (an_ (id_Zero_runs _ h11) (an_ (id_Zero_runs _ h11) (an_ (id_pair_runs false T_id_halves.nil b2 t2 _ h13) trivial))))))))))))))))))))))))))))) (by kernel_rfl) (by kernel_rfl))
noncomputable def id_ID_split : Nat → Bool → T_id_halves → Option (Bool × T_id_halves × Bool × T_id_halves)
  | 0, _, _ => none
  | N + 1, i, i2 => id_ID_split_b (id_ID_split N) i i2
theorem id_ID_split_runs : ∀ (N : Nat) (i : Bool) (i2 : T_id_halves) (r_ : Bool × T_id_halves × Bool × T_id_halves), id_ID_split N i i2 = some r_ → Runs Tryd.prog 140 [(.agg [(.pv (.bool i)), (.pv (T_id_halves.pv i2))])] [] [] (id_ID_split_out i i2 r_)
  | 0, _, _, _, h => by cases h
  | N + 1, i, i2, r_, h => id_ID_split_b_runs (id_ID_split N) (id_ID_split_runs N) i i2 r_ h
/-! ### id_ID_Depth_out -/
def id_ID_Depth_out (i : Bool) (i2 : T_id_halves) : Int → Res
  | r1 => ([(.one (.pv (.int .i64 r1)))], [], [])
/-! ### id_ID_Depth -/
noncomputable def id_ID_Depth_b (rec_id_ID_Depth : Bool → T_id_halves → Option (Int)) (i : Bool) (i2 : T_id_halves) : Option (Int) :=
  match i2 with
  | .nil =>
    some 0
  | .mk b t b2 t2 =>
    (rec_id_ID_Depth b t).bind fun n =>
    (rec_id_ID_Depth b2 t2).bind fun n2 =>
    some (iadd .i64 1 (if (n : Int) < n2 then n2 else n))
theorem id_ID_Depth_b_runs (rec_id_ID_Depth : Bool → T_id_halves → Option (Int)) (hrec_id_ID_Depth : ∀ i i2 r_, rec_id_ID_Depth i i2 = some r_ → Runs Tryd.prog 141 [(.agg [(.pv (.bool i)), (.pv (T_id_halves.pv i2))])] [] [] (id_ID_Depth_out i i2 r_)) (i : Bool) (i2 : T_id_halves) (r_ : Int) (h : id_ID_Depth_b rec_id_ID_Depth i i2 = some r_) : Runs Tryd.prog 141 [(.agg [(.pv (.bool i)), (.pv (T_id_halves.pv i2))])] [] [] (id_ID_Depth_out i i2 r_) := by
  unfold id_ID_Depth_b at h
  cases i2 with
  | nil =>
    have h := some_of h
    subst h
    exact runs_of (C := cfg) (objs := []) (sc := [.br true]) (.k0 (an_ (rfl : true = true) trivial) (by kernel_rfl))
  | mk b t b2 t2 =>
    obtain ⟨n, h1, h⟩ := bind_of h
    obtain ⟨n2, h2, h⟩ := bind_of h
    have h := some_of h
    subst h
    exact runs_of (C := cfg) (objs := []) (sc := [.br false, .res (id_ID_Depth_out b t n), .res (id_ID_Depth_out b t n), .res (id_ID_Depth_out b2 t2 n2)]) (.k1 (an_ (rfl : false = false) (an_ (hrec_id_ID_Depth b t _ h1) (an_ (hrec_id_ID_Depth b t _ h1) (an_ (hrec_id_ID_Depth b2 t2 _ h2) trivial)))) (by kernel_rfl) (by kernel_rfl))
noncomputable def id_ID_Depth : Nat → Bool → T_id_halves → Option (Int)
  | 0, _, _ => none
  | N + 1, i, i2 => id_ID_Depth_b (id_ID_Depth N) i i2
theorem id_ID_Depth_runs : ∀ (N : Nat) (i : Bool) (i2 : T_id_halves) (r_ : Int), id_ID_Depth N i i2 = some r_ → Runs Tryd.prog 141 [(.agg [(.pv (.bool i)), (.pv (T_id_halves.pv i2))])] [] [] (id_ID_Depth_out i i2 r_)
  | 0, _, _, _, h => by cases h
  | N + 1, i, i2, r_, h => id_ID_Depth_b_runs (id_ID_Depth N) (id_ID_Depth_runs N) i i2 r_ h
/-! ### id_ID_Split -/
noncomputable def id_ID_Split (N : Nat) (i : Bool) (i2 : T_id_halves) : Option (Bool × T_id_halves × Bool × T_id_halves × Int) :=
  (id_ID_split N i i2).bind fun (b, t, b2, t2) =>
  (id_ID_Depth N b t).bind fun n =>
  (id_ID_Depth N b2 t2).bind fun n2 =>
  bif (decide ((16 : Int) < (if (n : Int) < n2 then n2 else n))) then
    (id_Zero).bind fun _ =>
    some (false, T_id_halves.nil, false, T_id_halves.nil, 3)
  else
    some (b, t, b2, t2, 0)
theorem id_ID_Split_runs (N : Nat) (i : Bool) (i2 : T_id_halves) (r_ : Bool × T_id_halves × Bool × T_id_halves × Int) (h : id_ID_Split N i i2 = some r_) : Runs Tryd.prog 106 [(.agg [(.pv (.bool i)), (.pv (T_id_halves.pv i2))])] [] [] (id_ID_Split_out i i2 r_) := by
  unfold id_ID_Split at h
  obtain ⟨⟨b, t, b2, t2⟩, h1, h⟩ := bind_of h
  obtain ⟨n, h2, h⟩ := bind_of h
  obtain ⟨n2, h3, h⟩ := bind_of h
  rcases cond_of h with ⟨h4, h⟩ | ⟨h4, h⟩
  · obtain ⟨_, h5, h⟩ := bind_of h
    have h := some_of h
    subst h
    exact runs_of (C := cfg) (objs := []) (sc := [.res (id_ID_split_out i i2 (b, t, b2, t2)), .res (id_ID_Depth_out b t n), .res (id_ID_Depth_out b t n), .res (id_ID_Depth_out b2 t2 n2), .br true, .res (id_Zero_out ()), .res (id_Zero_out ())]) (.k1 (an_ (id_ID_split_runs N i i2 _ h1) (an_ (id_ID_Depth_runs N b t _ h2) (an_ (id_ID_Depth_runs N b t _ h2) (an_ (id_ID_Depth_runs N b2 t2 _ h3) (an_ h4 (an_ (id_Zero_runs _ h5) (an_ (id_Zero_runs _ h5) trivial))))))) (by kernel_rfl) (by kernel_rfl))
  · have h := some_of h
    subst h
    exact runs_of (C := cfg) (objs := []) (sc := [.res (id_ID_split_out i i2 (b, t, b2, t2)), .res (id_ID_Depth_out b t n), .res (id_ID_Depth_out b t n), .res (id_ID_Depth_out b2 t2 n2), .br false]) (.k1 (an_ (id_ID_split_runs N i i2 _ h1) (an_ (id_ID_Depth_runs N b t _ h2) (an_ (id_ID_Depth_runs N b t _ h2) (an_ (id_ID_Depth_runs N b2 t2 _ h3) (an_ h4 trivial))))) (by kernel_rfl) (by kernel_rfl))
/-! ### stamp_Stamp_Fork -/
noncomputable def stamp_Stamp_Fork (N : Nat) (s : Bool) (s2 : T_id_halves) (s3 : Int) (s4 : T_event_halves) : Option (Bool × T_id_halves × Int × T_event_halves × Bool × T_id_halves × Int × T_event_halves × Int) :=
  (id_ID_Split N s s2).bind fun (b, t, b2, t2, n) =>
  bif (decide ((n : Int) = 0)) then
    some (b, t, s3, s4, b2, t2, s3, s4, 0)
  else
    some (false, T_id_halves.nil, 0, T_event_halves.nil, false, T_id_halves.nil, 0, T_event_halves.nil, n)
theorem stamp_Stamp_Fork_runs (N : Nat) (s : Bool) (s2 : T_id_halves) (s3 : Int) (s4 : T_event_halves) (r_ : Bool × T_id_halves × Int × T_event_halves × Bool × T_id_halves × Int × T_event_halves × Int) (h : stamp_Stamp_Fork N s s2 s3 s4 = some r_) : Runs Tryd.prog 36 [(.agg [(.pv (.bool s)), (.pv (T_id_halves.pv s2)), (.pv (.int .u64 s3)), (.pv (T_event_halves.pv s4))])] [] [] (stamp_Stamp_Fork_out s s2 s3 s4 r_) := by
  unfold stamp_Stamp_Fork at h
  obtain ⟨⟨b, t, b2, t2, n⟩, h1, h⟩ := bind_of h
  rcases cond_of h with ⟨h2, h⟩ | ⟨h2, h⟩
  · have h := some_of h
    subst h
    exact runs_of (C := cfg) (objs := []) (sc := [.res (id_ID_Split_out s s2 (b, t, b2, t2, n)), .br false]) (.k1 (an_ (id_ID_Split_runs N s s2 _ h1) (an_ (not_of2 h2) trivial)) (by kernel_rfl) (by kernel_rfl))
  · have h := some_of h
    subst h
    have e_ : Runs Tryd.prog 36 [(.agg [(.pv (.bool s)), (.pv (T_id_halves.pv s2)), (.pv (.int .u64 s3)), (.pv (T_event_halves.pv s4))])] [] [] ([(.agg [(.pv (.bool false)), (.pv .nilp), (.pv (.int .u64 0)), (.pv .nilp)]), (.agg [(.pv (.bool false)), (.pv .nilp), (.pv (.int .u64 0)), (.pv .nilp)]), (.one (.pv (.int .i64 n)))], [], []) := runs_of (C := cfg) (objs := []) (sc := [.res (id_ID_Split_out s s2 (b, t, b2, t2, n)), .br true]) (.k0 (an_ (id_ID_Split_runs N s s2 _ h1) (an_ (not_of h2) trivial)) (by kernel_rfl))
    exact e_.out ⟨⟨.eq rfl, .eq rfl, .eq rfl, .eq rfl, trivial⟩, ⟨.eq rfl, .eq rfl, .eq rfl, .eq rfl, trivial⟩, .eq rfl, trivial⟩ trivial trivial rfl
/-! ### stamp_Stamp_Tick_out -/
def stamp_Stamp_Tick_out (s : Bool) (s2 : T_id_halves) (s3 : Int) (s4 : T_event_halves) : Int × T_event_halves × Int → Res
  | (r1, r2, r3) => ([(.agg [(.pv (.bool s)), (.pv (T_id_halves.pv s2)), (.pv (.int .u64 r1)), (.pv (T_event_halves.pv r2))]), (.one (.pv (.int .i64 r3)))], [], [])
/-! ### stamp_Fill_out -/
def stamp_Fill_out (i : Bool) (i2 : T_id_halves) (e : Int) (e2 : T_event_halves) : Int × T_event_halves → Res
  | (r1, r2) => ([(.agg [(.pv (.int .u64 r1)), (.pv (T_event_halves.pv r2))])], [], [])
/-! ### event_Event_IsLeaf_out -/
def event_Event_IsLeaf_out (e : Int) (e2 : T_event_halves) : Bool → Res
  | r1 => ([(.one (.pv (.bool r1)))], [], [])
/-! ### event_Event_IsLeaf -/
noncomputable def event_Event_IsLeaf (e : Int) (e2 : T_event_halves) : Option (Bool) :=
  match e2 with
  | .nil =>
    some true
  | .mk n t n2 t2 =>
    some false
theorem event_Event_IsLeaf_runs (e : Int) (e2 : T_event_halves) (r_ : Bool) (h : event_Event_IsLeaf e e2 = some r_) : Runs Tryd.prog 64 [(.agg [(.pv (.int .u64 e)), (.pv (T_event_halves.pv e2))])] [] [] (event_Event_IsLeaf_out e e2 r_) := by
  unfold event_Event_IsLeaf at h
  cases e2 with
  | nil =>
    have h := some_of h
    subst h
    exact runs_of (C := cfg) (objs := []) (sc := []) (.k0 (trivial) (by kernel_rfl))
  | mk n t n2 t2 =>
    have h := some_of h
    subst h
    exact runs_of (C := cfg) (objs := []) (sc := []) (.k0 (trivial) (by kernel_rfl))
/-! ### event_Event_Max_out -/
def event_Event_Max_out (e : Int) (e2 : T_event_halves) : Int → Res
  | r1 => ([(.one (.pv (.int .u64 r1)))], [], [])
/-! ### event_Event_Max -/
noncomputable def event_Event_Max_b (rec_event_Event_Max : Int → T_event_halves → Option (Int)) (e : Int) (e2 : T_event_halves) : Option (Int) :=
  match e2 with
  | .nil =>
    some e
  | .mk n t n2 t2 =>
    (rec_event_Event_Max n t).bind fun n3 =>
    (rec_event_Event_Max n2 t2).bind fun n4 =>
    some (iadd .u64 e (if (n3 : Int) < n4 then n4 else n3))
theorem event_Event_Max_b_runs (rec_event_Event_Max : Int → T_event_halves → Option (Int)) (hrec_event_Event_Max : ∀ e e2 r_, rec_event_Event_Max e e2 = some r_ → Runs Tryd.prog 30 [(.agg [(.pv (.int .u64 e)), (.pv (T_event_halves.pv e2))])] [] [] (event_Event_Max_out e e2 r_)) (e : Int) (e2 : T_event_halves) (r_ : Int) (h : event_Event_Max_b rec_event_Event_Max e e2 = some r_) : Runs Tryd.prog 30 [(.agg [(.pv (.int .u64 e)), (.pv (T_event_halves.pv e2))])] [] [] (event_Event_Max_out e e2 r_) := by
  unfold event_Event_Max_b at h
  cases e2 with
  | nil =>
    have h := some_of h
    subst h
    exact runs_of (C := cfg) (objs := []) (sc := [.br true]) (.k0 (an_ (rfl : true = true) trivial) (by kernel_rfl))
  | mk n t n2 t2 =>
    obtain ⟨n3, h1, h⟩ := bind_of h
    obtain ⟨n4, h2, h⟩ := bind_of h
    have h := some_of h
    subst h
    exact runs_of (C := cfg) (objs := []) (sc := [.br false, .res (event_Event_Max_out n t n3), .res (event_Event_Max_out n t n3), .res (event_Event_Max_out n t n3), .res (event_Event_Max_out n2 t2 n4), .res (event_Event_Max_out n t n3), .res (event_Event_Max_out n2 t2 n4)]) (.k1 (an_ (rfl : false = false) (an_ (hrec_event_Event_Max n t _ h1) (an_ (hrec_event_Event_Max n t _ h1) (an_ (hrec_event_Event_Max n t _ h1) (an_ (hrec_event_Event_Max n2 t2 _ h2) (an_ (hrec_event_Event_Max n t _ h1) (an_ (hrec_event_Event_Max n2 t2 _ h2) trivial))))))) (by kernel_rfl) (by kernel_rfl))
noncomputable def event_Event_Max : Nat → Int → T_event_halves → Option (Int)
  | 0, _, _ => none
  | N + 1, e, e2 => event_Event_Max_b (event_Event_Max N) e e2
theorem event_Event_Max_runs : ∀ (N : Nat) (e : Int) (e2 : T_event_halves) (r_ : Int), event_Event_Max N e e2 = some r_ → Runs Tryd.prog 30 [(.agg [(.pv (.int .u64 e)), (.pv (T_event_halves.pv e2))])] [] [] (event_Event_Max_out e e2 r_)
  | 0, _, _, _, h => by cases h
  | N + 1, e, e2, r_, h => event_Event_Max_b_runs (event_Event_Max N) (event_Event_Max_runs N) e e2 r_ h
/-! ### stamp_leaf_out -/
def stamp_leaf_out (n : Int) : Int → Res
  | r1 => ([(.agg [(.pv (.int .u64 r1)), (.pv (T_event_halves.pv T_event_halves.nil))])], [], [])
/-! ### event_Leaf_out -/
def event_Leaf_out (n : Int) : Int × Int → Res
  | (r1, r2) => ([(.agg [(.pv (.int .u64 r1)), (.pv (T_event_halves.pv T_event_halves.nil))]), (.one (.pv (.int .i64 r2)))], [], [])
/-! ### event_Leaf -/
noncomputable def event_Leaf (n : Int) : Option (Int × Int) :=
  bif (decide ((1048576 : Int) < n)) then
    some (0, 4)
  else
    some (n, 0)
theorem event_Leaf_runs (n : Int) (r_ : Int × Int) (h : event_Leaf n = some r_) : Runs Tryd.prog 31 [(.one (.pv (.int .u64 n)))] [] [] (event_Leaf_out n r_) := by
  unfold event_Leaf at h
  rcases cond_of h with ⟨h1, h⟩ | ⟨h1, h⟩
  · have h := some_of h
    subst h
    have e_ : Runs Tryd.prog 31 [(.one (.pv (.int .u64 n)))] [] [] ([(.agg [(.pv (.int .u64 0)), (.pv .nilp)]), (.one (.pv (.int .i64 4)))], [], []) := runs_of (C := cfg) (objs := []) (sc := [.br true]) (.k0 (an_ h1 trivial) (by kernel_rfl))
    exact e_.out ⟨⟨.eq rfl, .eq rfl, trivial⟩, .eq rfl, trivial⟩ trivial trivial rfl
  · have h := some_of h
    subst h
    have e_ : Runs Tryd.prog 31 [(.one (.pv (.int .u64 n)))] [] [] ([(.agg [(.pv (.int .u64 n)), (.pv .nilp)]), (.one (.pv (.int .i64 0)))], [], []) := runs_of (C := cfg) (objs := []) (sc := [.br false]) (.k0 (an_ h1 trivial) (by kernel_rfl))
    exact e_.out ⟨⟨.eq rfl, .eq rfl, trivial⟩, .eq rfl, trivial⟩ trivial trivial rfl
/-! ### stamp_leaf -/
noncomputable def stamp_leaf (n : Int) : Option (Int) :=
  (event_Leaf n).bind fun (n2, n3) =>
  some n2
theorem stamp_leaf_runs (n : Int) (r_ : Int) (h : stamp_leaf n = some r_) : Runs Tryd.prog 92 [(.one (.pv (.int .u64 n)))] [] [] (stamp_leaf_out n r_) := by
  unfold stamp_leaf at h
  obtain ⟨⟨n2, n3⟩, h1, h⟩ := bind_of h
  have h := some_of h
  subst h
  exact runs_of (C := cfg) (objs := []) (sc := [.res (event_Leaf_out n (n2, n3))]) (.k0 (an_ (event_Leaf_runs n _ h1) trivial) (by kernel_rfl))
/-! ### event_Event_Left_out -/
def event_Event_Left_out (e : Int) (e2 : T_event_halves) : Int × T_event_halves → Res
  | (r1, r2) => ([(.agg [(.pv (.int .u64 r1)), (.pv (T_event_halves.pv r2))])], [], [])
/-! ### event_Event_Left -/
noncomputable def event_Event_Left (e : Int) (e2 : T_event_halves) : Option (Int × T_event_halves) :=
  match e2 with
  | .nil =>
    some (0, T_event_halves.nil)
  | .mk n t n2 t2 =>
    some (n, t)
theorem event_Event_Left_runs (e : Int) (e2 : T_event_halves) (r_ : Int × T_event_halves) (h : event_Event_Left e e2 = some r_) : Runs Tryd.prog 65 [(.agg [(.pv (.int .u64 e)), (.pv (T_event_halves.pv e2))])] [] [] (event_Event_Left_out e e2 r_) := by
  unfold event_Event_Left at h
  cases e2 with
  | nil =>
    have h := some_of h
    subst h
    have e_ : Runs Tryd.prog 65 [(.agg [(.pv (.int .u64 e)), (.pv (T_event_halves.pv T_event_halves.nil))])] [] [] ([(.agg [(.pv (.int .u64 0)), (.pv .nilp)])], [], []) := runs_of (C := cfg) (objs := []) (sc := [.br true]) (.k0 (an_ (rfl : true = true) trivial) (by kernel_rfl))
    exact e_.out ⟨⟨.eq rfl, .eq rfl, trivial⟩, trivial⟩ trivial trivial rfl
  | mk n t n2 t2 =>
    have h := some_of h
    subst h
    exact runs_of (C := cfg) (objs := []) (sc := [.br false]) (.k0 (an_ (rfl : false = false) trivial) (by kernel_rfl))
/-! ### event_Event_Right_out -/
def event_Event_Right_out (e : Int) (e2 : T_event_halves) : Int × T_event_halves → Res
  | (r1, r2) => ([(.agg [(.pv (.int .u64 r1)), (.pv (T_event_halves.pv r2))])], [], [])
/-! ### event_Event_Right -/
noncomputable def event_Event_Right (e : Int) (e2 : T_event_halves) : Option (Int × T_event_halves) :=
  match e2 with
  | .nil =>
    some (0, T_event_halves.nil)
  | .mk n t n2 t2 =>
    some (n2, t2)
theorem event_Event_Right_runs (e : Int) (e2 : T_event_halves) (r_ : Int × T_event_halves) (h : event_Event_Right e e2 = some r_) : Runs Tryd.prog 66 [(.agg [(.pv (.int .u64 e)), (.pv (T_event_halves.pv e2))])] [] [] (event_Event_Right_out e e2 r_) := by
  unfold event_Event_Right at h
  cases e2 with
  | nil =>
    have h := some_of h
    subst h
    have e_ : Runs Tryd.prog 66 [(.agg [(.pv (.int .u64 e)), (.pv (T_event_halves.pv T_event_halves.nil))])] [] [] ([(.agg [(.pv (.int .u64 0)), (.pv .nilp)])], [], []) := runs_of (C := cfg) (objs := []) (sc := [.br true]) (.k0 (an_ (rfl : true = true) trivial) (by kernel_rfl))
    exact e_.out ⟨⟨.eq rfl, .eq rfl, trivial⟩, trivial⟩ trivial trivial rfl
  | mk n t n2 t2 =>
    have h := some_of h
    subst h
    exact runs_of (C := cfg) (objs := []) (sc := [.br false]) (.k0 (an_ (rfl : false = false) trivial) (by kernel_rfl))
/-! ### event_Event_Min_out -/
def event_Event_Min_out (e : Int) (e2 : T_event_halves) : Unit → Res
  | _ => ([(.one (.pv (.int .u64 e)))], [], [])
/-! ### event_Event_Min -/
noncomputable def event_Event_Min (e : Int) (e2 : T_event_halves) : Option (Unit) :=
  some ()
theorem event_Event_Min_runs (e : Int) (e2 : T_event_halves) (r_ : Unit) (h : event_Event_Min e e2 = some r_) : Runs Tryd.prog 95 [(.agg [(.pv (.int .u64 e)), (.pv (T_event_halves.pv e2))])] [] [] (event_Event_Min_out e e2 r_) := by
  unfold event_Event_Min at h
  have h := some_of h
  subst h
  exact runs_of (C := cfg) (objs := []) (sc := []) (.k0 (trivial) (by kernel_rfl))
/-! ### event_Event_Base_out -/
def event_Event_Base_out (e : Int) (e2 : T_event_halves) : Unit → Res
  | _ => ([(.one (.pv (.int .u64 e)))], [], [])
/-! ### event_Event_Base -/
noncomputable def event_Event_Base (e : Int) (e2 : T_event_halves) : Option (Unit) :=
  some ()
theorem event_Event_Base_runs (e : Int) (e2 : T_event_halves) (r_ : Unit) (h : event_Event_Base e e2 = some r_) : Runs Tryd.prog 63 [(.agg [(.pv (.int .u64 e)), (.pv (T_event_halves.pv e2))])] [] [] (event_Event_Base_out e e2 r_) := by
  unfold event_Event_Base at h
  have h := some_of h
  subst h
  exact runs_of (C := cfg) (objs := []) (sc := []) (.k0 (trivial) (by kernel_rfl))
/-! ### stamp_node_out -/
def stamp_node_out (n : Int) (l : Int) (l2 : T_event_halves) (r : Int) (r2 : T_event_halves) : Int × T_event_halves → Res
  | (r1, r2) => ([(.agg [(.pv (.int .u64 r1)), (.pv (T_event_halves.pv r2))])], [], [])
/-! ### event_Node_out -/
def event_Node_out (n : Int) (l : Int) (l2 : T_event_halves) (r : Int) (r2 : T_event_halves) : Int × T_event_halves × Int → Res
  | (r1, r2, r3) => ([(.agg [(.pv (.int .u64 r1)), (.pv (T_event_halves.pv r2))]), (.one (.pv (.int .i64 r3)))], [], [])
/-! ### event_node_out -/
def event_node_out (n : Int) (l : Int) (l2 : T_event_halves) (r : Int) (r2 : T_event_halves) : Int × T_event_halves → Res
  | (r1, r2) => ([(.agg [(.pv (.int .u64 r1)), (.pv (T_event_halves.pv r2))])], [], [])
/-! ### event_node -/
noncomputable def event_node (n : Int) (l : Int) (l2 : T_event_halves) (r : Int) (r2 : T_event_halves) : Option (Int × T_event_halves) :=
  match l2 with
  | .nil =>
    match r2 with
    | .nil =>
      bif (decide ((l : Int) = r)) then
        some ((iadd .u64 n l), T_event_halves.nil)
      else
        some ((iadd .u64 n (if (r : Int) < l then r else l)), (T_event_halves.mk (isub .u64 l (if (r : Int) < l then r else l)) l2 (isub .u64 r (if (r : Int) < l then r else l)) r2))
    | .mk n2 t n3 t2 =>
      some ((iadd .u64 n (if (r : Int) < l then r else l)), (T_event_halves.mk (isub .u64 l (if (r : Int) < l then r else l)) l2 (isub .u64 r (if (r : Int) < l then r else l)) r2))
  | .mk n2 t n3 t2 =>
    some ((iadd .u64 n (if (r : Int) < l then r else l)), (T_event_halves.mk (isub .u64 l (if (r : Int) < l then r else l)) l2 (isub .u64 r (if (r : Int) < l then r else l)) r2))
theorem event_node_runs (n : Int) (l : Int) (l2 : T_event_halves) (r : Int) (r2 : T_event_halves) (r_ : Int × T_event_halves) (h : event_node n l l2 r r2 = some r_) : Runs Tryd.prog 116 [(.one (.pv (.int .u64 n))), (.agg [(.pv (.int .u64 l)), (.pv (T_event_halves.pv l2))]), (.agg [(.pv (.int .u64 r)), (.pv (T_event_halves.pv r2))])] [] [] (event_node_out n l l2 r r2 r_) := by
  unfold event_node at h
  cases l2 with
  | nil =>
    cases r2 with
    | nil =>
      rcases cond_of h with ⟨h1, h⟩ | ⟨h1, h⟩
      · have h := some_of h
        subst h
        have e_ : Runs Tryd.prog 116 [(.one (.pv (.int .u64 n))), (.agg [(.pv (.int .u64 l)), (.pv (T_event_halves.pv T_event_halves.nil))]), (.agg [(.pv (.int .u64 r)), (.pv (T_event_halves.pv T_event_halves.nil))])] [] [] ([(.agg [(.pv (.int .u64 (iadd .u64 n l))), (.pv .nilp)])], [], []) := runs_of (C := cfg) (objs := []) (sc := [.br true, .br true, .br true]) (.k0 (an_ (rfl : true = true) (an_ (rfl : true = true) (an_ h1 trivial))) (by kernel_rfl))
        exact e_.out ⟨⟨.eq rfl, .eq rfl, trivial⟩, trivial⟩ trivial trivial rfl
      · have h := some_of h
        subst h
        have e_ : Runs Tryd.prog 116 [(.one (.pv (.int .u64 n))), (.agg [(.pv (.int .u64 l)), (.pv (T_event_halves.pv T_event_halves.nil))]), (.agg [(.pv (.int .u64 r)), (.pv (T_event_halves.pv T_event_halves.nil))])] [] [] ([(.agg [(.pv (.int .u64 (iadd .u64 n (if (r : Int) < l then r else l)))), (.pv (.imm [(.int .u64 (isub .u64 l (if (r : Int) < l then r else l))), (T_event_halves.pv T_event_halves.nil), (.int .u64 (isub .u64 r (if (r : Int) < l then r else l))), (T_event_halves.pv T_event_halves.nil)] 0))])], [], []) := runs_of (C := cfg) (objs := []) (sc := [.br true, .br true, .br false]) (.k0 (an_ (rfl : true = true) (an_ (rfl : true = true) (an_ h1 trivial))) (by kernel_rfl))
        exact e_.out ⟨⟨.eq rfl, .eq rfl, trivial⟩, trivial⟩ trivial trivial rfl
    | mk n2 t n3 t2 =>
      have h := some_of h
      subst h
      have e_ : Runs Tryd.prog 116 [(.one (.pv (.int .u64 n))), (.agg [(.pv (.int .u64 l)), (.pv (T_event_halves.pv T_event_halves.nil))]), (.agg [(.pv (.int .u64 r)), (.pv (T_event_halves.pv (T_event_halves.mk n2 t n3 t2)))])] [] [] ([(.agg [(.pv (.int .u64 (iadd .u64 n (if (r : Int) < l then r else l)))), (.pv (.imm [(.int .u64 (isub .u64 l (if (r : Int) < l then r else l))), (T_event_halves.pv T_event_halves.nil), (.int .u64 (isub .u64 r (if (r : Int) < l then r else l))), (T_event_halves.pv (T_event_halves.mk n2 t n3 t2))] 0))])], [], []) := runs_of (C := cfg) (objs := []) (sc := [.br true, .br false, .br false]) (.k0 (an_ (rfl : true = true) (an_ (rfl : false = false) (an_ (rfl : false = false) trivial))) (by kernel_rfl))
      exact e_.out ⟨⟨.eq rfl, .eq rfl, trivial⟩, trivial⟩ trivial trivial rfl
  | mk n2 t n3 t2 =>
    have h := some_of h
    subst h
    have e_ : Runs Tryd.prog 116 [(.one (.pv (.int .u64 n))), (.agg [(.pv (.int .u64 l)), (.pv (T_event_halves.pv (T_event_halves.mk n2 t n3 t2)))]), (.agg [(.pv (.int .u64 r)), (.pv (T_event_halves.pv r2))])] [] [] ([(.agg [(.pv (.int .u64 (iadd .u64 n (if (r : Int) < l then r else l)))), (.pv (.imm [(.int .u64 (isub .u64 l (if (r : Int) < l then r else l))), (T_event_halves.pv (T_event_halves.mk n2 t n3 t2)), (.int .u64 (isub .u64 r (if (r : Int) < l then r else l))), (T_event_halves.pv r2)] 0))])], [], []) := runs_of (C := cfg) (objs := []) (sc := [.br false, .br false, .br false]) (.k0 (an_ (rfl : false = false) (an_ (rfl : false = false) (an_ (rfl : false = false) trivial))) (by kernel_rfl))
    exact e_.out ⟨⟨.eq rfl, .eq rfl, trivial⟩, trivial⟩ trivial trivial rfl
/-! ### event_Event_right_out -/
def event_Event_right_out (e : Int) (e2 : T_event_halves) : Int → Res
  | r1 => ([(.one (.pv (.int .i64 r1)))], [], [])
/-! ### event_Event_Depth_out -/
def event_Event_Depth_out (e : Int) (e2 : T_event_halves) : Int → Res
  | r1 => ([(.one (.pv (.int .i64 r1)))], [], [])
/-! ### event_Event_Depth -/
noncomputable def event_Event_Depth_b (rec_event_Event_Depth : Int → T_event_halves → Option (Int)) (e : Int) (e2 : T_event_halves) : Option (Int) :=
  match e2 with
  | .nil =>
    some 0
  | .mk n t n2 t2 =>
    (rec_event_Event_Depth n t).bind fun n3 =>
    (rec_event_Event_Depth n2 t2).bind fun n4 =>
    some (iadd .i64 1 (if (n3 : Int) < n4 then n4 else n3))
theorem event_Event_Depth_b_runs (rec_event_Event_Depth : Int → T_event_halves → Option (Int)) (hrec_event_Event_Depth : ∀ e e2 r_, rec_event_Event_Depth e e2 = some r_ → Runs Tryd.prog 37 [(.agg [(.pv (.int .u64 e)), (.pv (T_event_halves.pv e2))])] [] [] (event_Event_Depth_out e e2 r_)) (e : Int) (e2 : T_event_halves) (r_ : Int) (h : event_Event_Depth_b rec_event_Event_Depth e e2 = some r_) : Runs Tryd.prog 37 [(.agg [(.pv (.int .u64 e)), (.pv (T_event_halves.pv e2))])] [] [] (event_Event_Depth_out e e2 r_) := by
  unfold event_Event_Depth_b at h
  cases e2 with
  | nil =>
    have h := some_of h
    subst h
    exact runs_of (C := cfg) (objs := []) (sc := [.br true]) (.k0 (an_ (rfl : true = true) trivial) (by kernel_rfl))
  | mk n t n2 t2 =>
    obtain ⟨n3, h1, h⟩ := bind_of h
    obtain ⟨n4, h2, h⟩ := bind_of h
    have h := some_of h
    subst h
    exact runs_of (C := cfg) (objs := []) (sc := [.br false, .res (event_Event_Depth_out n t n3), .res (event_Event_Depth_out n t n3), .res (event_Event_Depth_out n2 t2 n4)]) (.k1 (an_ (rfl : false = false) (an_ (hrec_event_Event_Depth n t _ h1) (an_ (hrec_event_Event_Depth n t _ h1) (an_ (hrec_event_Event_Depth n2 t2 _ h2) trivial)))) (by kernel_rfl) (by kernel_rfl))
noncomputable def event_Event_Depth : Nat → Int → T_event_halves → Option (Int)
  | 0, _, _ => none
  | N + 1, e, e2 => event_Event_Depth_b (event_Event_Depth N) e e2
theorem event_Event_Depth_runs : ∀ (N : Nat) (e : Int) (e2 : T_event_halves) (r_ : Int), event_Event_Depth N e e2 = some r_ → Runs Tryd.prog 37 [(.agg [(.pv (.int .u64 e)), (.pv (T_event_halves.pv e2))])] [] [] (event_Event_Depth_out e e2 r_)
  | 0, _, _, _, h => by cases h
  | N + 1, e, e2, r_, h => event_Event_Depth_b_runs (event_Event_Depth N) (event_Event_Depth_runs N) e e2 r_ h
/-! ### event_Event_right -/
noncomputable def event_Event_right (N : Nat) (e : Int) (e2 : T_event_halves) : Option (Int) :=
  (event_Event_Depth N e e2).bind fun n =>
  bif (decide ((16 : Int) < n)) then
    some 3
  else
    (event_Event_Max N e e2).bind fun n2 =>
    bif (decide ((1048576 : Int) < n2)) then
      some 4
    else
      some 0
theorem event_Event_right_runs (N : Nat) (e : Int) (e2 : T_event_halves) (r_ : Int) (h : event_Event_right N e e2 = some r_) : Runs Tryd.prog 114 [(.agg [(.pv (.int .u64 e)), (.pv (T_event_halves.pv e2))])] [] [] (event_Event_right_out e e2 r_) := by
  unfold event_Event_right at h
  obtain ⟨n, h1, h⟩ := bind_of h
  rcases cond_of h with ⟨h2, h⟩ | ⟨h2, h⟩
  · have h := some_of h
    subst h
    exact runs_of (C := cfg) (objs := []) (sc := [.res (event_Event_Depth_out e e2 n), .br true]) (.k0 (an_ (event_Event_Depth_runs N e e2 _ h1) (an_ h2 trivial)) (by kernel_rfl))
  · obtain ⟨n2, h3, h⟩ := bind_of h
    rcases cond_of h with ⟨h4, h⟩ | ⟨h4, h⟩
    · have h := some_of h
      subst h
      exact runs_of (C := cfg) (objs := []) (sc := [.res (event_Event_Depth_out e e2 n), .br false, .res (event_Event_Max_out e e2 n2), .br true]) (.k0 (an_ (event_Event_Depth_runs N e e2 _ h1) (an_ h2 (an_ (event_Event_Max_runs N e e2 _ h3) (an_ h4 trivial)))) (by kernel_rfl))
    · have h := some_of h
      subst h
      exact runs_of (C := cfg) (objs := []) (sc := [.res (event_Event_Depth_out e e2 n), .br false, .res (event_Event_Max_out e e2 n2), .br false]) (.k0 (an_ (event_Event_Depth_runs N e e2 _ h1) (an_ h2 (an_ (event_Event_Max_runs N e e2 _ h3) (an_ h4 trivial)))) (by kernel_rfl))
/-! ### event_Node -/
noncomputable def event_Node (N : Nat) (n : Int) (l : Int) (l2 : T_event_halves) (r : Int) (r2 : T_event_halves) : Option (Int × T_event_halves × Int) :=
  (event_node (if (2097152 : Int) < n then 2097152 else n) l l2 r r2).bind fun (n2, t) =>
  (event_Event_right N n2 t).bind fun n3 =>
  bif (decide ((n3 : Int) = 0)) then
    some (n2, t, 0)
  else
    some (0, T_event_halves.nil, n3)
theorem event_Node_runs (N : Nat) (n : Int) (l : Int) (l2 : T_event_halves) (r : Int) (r2 : T_event_halves) (r_ : Int × T_event_halves × Int) (h : event_Node N n l l2 r r2 = some r_) : Runs Tryd.prog 54 [(.one (.pv (.int .u64 n))), (.agg [(.pv (.int .u64 l)), (.pv (T_event_halves.pv l2))]), (.agg [(.pv (.int .u64 r)), (.pv (T_event_halves.pv r2))])] [] [] (event_Node_out n l l2 r r2 r_) := by
  unfold event_Node at h
  obtain ⟨⟨n2, t⟩, h1, h⟩ := bind_of h
  obtain ⟨n3, h2, h⟩ := bind_of h
  rcases cond_of h with ⟨h3, h⟩ | ⟨h3, h⟩
  · have h := some_of h
    subst h
    exact runs_of (C := cfg) (objs := []) (sc := [.res (event_node_out (if (2097152 : Int) < n then 2097152 else n) l l2 r r2 (n2, t)), .res (event_Event_right_out n2 t n3), .br false]) (.k0 (an_ (event_node_runs (if (2097152 : Int) < n then 2097152 else n) l l2 r r2 _ h1) (an_ (event_Event_right_runs N n2 t _ h2) (an_ (not_of2 h3) trivial))) (by kernel_rfl))
  · have h := some_of h
    subst h
    have e_ : Runs Tryd.prog 54 [(.one (.pv (.int .u64 n))), (.agg [(.pv (.int .u64 l)), (.pv (T_event_halves.pv l2))]), (.agg [(.pv (.int .u64 r)), (.pv (T_event_halves.pv r2))])] [] [] ([(.agg [(.pv (.int .u64 0)), (.pv .nilp)]), (.one (.pv (.int .i64 n3)))], [], []) := runs_of (C := cfg) (objs := []) (sc := [.res (event_node_out (if (2097152 : Int) < n then 2097152 else n) l l2 r r2 (n2, t)), .res (event_Event_right_out n2 t n3), .br true]) (.k0 (an_ (event_node_runs (if (2097152 : Int) < n then 2097152 else n) l l2 r r2 _ h1) (an_ (event_Event_right_runs N n2 t _ h2) (an_ (not_of h3) trivial))) (by kernel_rfl))
    exact e_.out ⟨⟨.eq rfl, .eq rfl, trivial⟩, .eq rfl, trivial⟩ trivial trivial rfl
/-! ### stamp_node -/
noncomputable def stamp_node (N : Nat) (n : Int) (l : Int) (l2 : T_event_halves) (r : Int) (r2 : T_event_halves) : Option (Int × T_event_halves) :=
  (event_Node N n l l2 r r2).bind fun (n2, t, n3) =>
  some (n2, t)
theorem stamp_node_runs (N : Nat) (n : Int) (l : Int) (l2 : T_event_halves) (r : Int) (r2 : T_event_halves) (r_ : Int × T_event_halves) (h : stamp_node N n l l2 r r2 = some r_) : Runs Tryd.prog 96 [(.one (.pv (.int .u64 n))), (.agg [(.pv (.int .u64 l)), (.pv (T_event_halves.pv l2))]), (.agg [(.pv (.int .u64 r)), (.pv (T_event_halves.pv r2))])] [] [] (stamp_node_out n l l2 r r2 r_) := by
  unfold stamp_node at h
  obtain ⟨⟨n2, t, n3⟩, h1, h⟩ := bind_of h
  have h := some_of h
  subst h
  exact runs_of (C := cfg) (objs := []) (sc := [.res (event_Node_out n l l2 r r2 (n2, t, n3))]) (.k0 (an_ (event_Node_runs N n l l2 r r2 _ h1) trivial) (by kernel_rfl))
/-! ### stamp_Fill -/
noncomputable def stamp_Fill_b (N : Nat) (rec_stamp_Fill : Bool → T_id_halves → Int → T_event_halves → Option (Int × T_event_halves)) (i : Bool) (i2 : T_id_halves) (e : Int) (e2 : T_event_halves) : Option (Int × T_event_halves) :=
  (id_ID_IsZero i i2).bind fun b =>
  bif b then
    some (e, e2)
  else
    (event_Event_IsLeaf e e2).bind fun b2 =>
    bif b2 then
      some (e, e2)
    else
      (id_ID_IsOne i i2).bind fun _ =>
      bif i then
        (event_Event_Max N e e2).bind fun n =>
        (stamp_leaf n).bind fun n2 =>
        some (n2, T_event_halves.nil)
      else
        (event_Event_Left e e2).bind fun (n, t) =>
        (event_Event_Right e e2).bind fun (n2, t2) =>
        (id_ID_Left i i2).bind fun (b3, t3) =>
        (id_ID_IsOne b3 t3).bind fun _ =>
        bif b3 then
          (id_ID_Right i i2).bind fun (b4, t4) =>
          (rec_stamp_Fill b4 t4 n2 t2).bind fun (n3, t5) =>
          (event_Event_Max N n t).bind fun n4 =>
          (event_Event_Min n3 t5).bind fun _ =>
          (stamp_leaf (if (n4 : Int) < n3 then n3 else n4)).bind fun n5 =>
          (event_Event_Base e e2).bind fun _ =>
          (stamp_node N e n5 T_event_halves.nil n3 t5).bind fun (n6, t6) =>
          some (n6, t6)
        else
          (id_ID_Right i i2).bind fun (b4, t4) =>
          (id_ID_IsOne b4 t4).bind fun _ =>
          bif b4 then
            (rec_stamp_Fill b3 t3 n t).bind fun (n3, t5) =>
            (event_Event_Max N n2 t2).bind fun n4 =>
            (event_Event_Min n3 t5).bind fun _ =>
            (stamp_leaf (if (n4 : Int) < n3 then n3 else n4)).bind fun n5 =>
            (event_Event_Base e e2).bind fun _ =>
            (stamp_node N e n3 t5 n5 T_event_halves.nil).bind fun (n6, t6) =>
            some (n6, t6)
          else
            (rec_stamp_Fill b3 t3 n t).bind fun (n3, t5) =>
            (rec_stamp_Fill b4 t4 n2 t2).bind fun (n4, t6) =>
            (event_Event_Base e e2).bind fun _ =>
            (stamp_node N e n3 t5 n4 t6).bind fun (n5, t7) =>
            some (n5, t7)
theorem stamp_Fill_b_runs (N : Nat) (rec_stamp_Fill : Bool → T_id_halves → Int → T_event_halves → Option (Int × T_event_halves)) (hrec_stamp_Fill : ∀ i i2 e e2 r_, rec_stamp_Fill i i2 e e2 = some r_ → Runs Tryd.prog 20 [(.agg [(.pv (.bool i)), (.pv (T_id_halves.pv i2))]), (.agg [(.pv (.int .u64 e)), (.pv (T_event_halves.pv e2))])] [] [] (stamp_Fill_out i i2 e e2 r_)) (i : Bool) (i2 : T_id_halves) (e : Int) (e2 : T_event_halves) (r_ : Int × T_event_halves) (h : stamp_Fill_b N rec_stamp_Fill i i2 e e2 = some r_) : Runs Tryd.prog 20 [(.agg [(.pv (.bool i)), (.pv (T_id_halves.pv i2))]), (.agg [(.pv (.int .u64 e)), (.pv (T_event_halves.pv e2))])] [] [] (stamp_Fill_out i i2 e e2 r_) := by
  unfold stamp_Fill_b at h
  obtain ⟨b, h1, h⟩ := bind_of h
  rcases cond_of h with ⟨h2, h⟩ | ⟨h2, h⟩
  · have h := some_of h
    subst h
    exact runs_of (C := cfg) (objs := []) (sc := [.res (id_ID_IsZero_out i i2 b), .br true, .br true]) (.k0 (an_ (id_ID_IsZero_runs i i2 _ h1) (an_ h2 (an_ (rfl : true = true) trivial))) (by kernel_rfl))
  · obtain ⟨b2, h3, h⟩ := bind_of h
    rcases cond_of h with ⟨h4, h⟩ | ⟨h4, h⟩
    · have h := some_of h
      subst h
      exact runs_of (C := cfg) (objs := []) (sc := [.res (id_ID_IsZero_out i i2 b), .br false, .res (event_Event_IsLeaf_out e e2 b2), .br true]) (.k0 (an_ (id_ID_IsZero_runs i i2 _ h1) (an_ h2 (an_ (event_Event_IsLeaf_runs e e2 _ h3) (an_ h4 trivial)))) (by kernel_rfl))
    · obtain ⟨_, h5, h⟩ := bind_of h
      rcases cond_of h with ⟨h6, h⟩ | ⟨h6, h⟩
      · obtain ⟨n, h7, h⟩ := bind_of h
        obtain ⟨n2, h8, h⟩ := bind_of h
        have h := some_of h
        subst h
        exact runs_of (C := cfg) (objs := []) (sc := [.res (id_ID_IsZero_out i i2 b), .br false, .res (event_Event_IsLeaf_out e e2 b2), .br false, .res (id_ID_IsOne_out i i2 ()), .br true, .res (event_Event_Max_out e e2 n), .res (stamp_leaf_out n n2)]) (.k0 (an_ (id_ID_IsZero_runs i i2 _ h1) (an_ h2 (an_ (event_Event_IsLeaf_runs e e2 _ h3) (an_ h4 (an_ (id_ID_IsOne_runs i i2 _ h5) (an_ h6 (an_ (event_Event_Max_runs N e e2 _ h7) (an_ (stamp_leaf_runs n _ h8) trivial)))))))) (by kernel_rfl))
      · obtain ⟨⟨n, t⟩, h7, h⟩ := bind_of h
        obtain ⟨⟨n2, t2⟩, h8, h⟩ := bind_of h
        obtain ⟨⟨b3, t3⟩, h9, h⟩ := bind_of h
        obtain ⟨_, h10, h⟩ := bind_of h
        rcases cond_of h with ⟨h11, h⟩ | ⟨h11, h⟩
        · obtain ⟨⟨b4, t4⟩, h12, h⟩ := bind_of h
          obtain ⟨⟨n3, t5⟩, h13, h⟩ := bind_of h
          obtain ⟨n4, h14, h⟩ := bind_of h
          obtain ⟨_, h15, h⟩ := bind_of h
          obtain ⟨n5, h16, h⟩ := bind_of h
          obtain ⟨_, h17, h⟩ := bind_of h
          obtain ⟨⟨n6, t6⟩, h18, h⟩ := bind_of h
          have h := some_of h
          subst h
          exact runs_of (C := cfg) (objs := []) (sc := [.res (id_ID_IsZero_out i i2 b), .br false, .res (event_Event_IsLeaf_out e e2 b2), .br false, .res (id_ID_IsOne_out i i2 ()), .br false, .res (event_Event_Left_out e e2 (n, t)), .res (event_Event_Left_out e e2 (n, t)), .res (event_Event_Left_out e e2 (n, t)), .res (event_Event_Left_out e e2 (n, t)), .res (event_Event_Left_out e e2 (n, t)), .res (event_Event_Left_out e e2 (n, t)), .res (event_Event_Left_out e e2 (n, t)), .res (event_Event_Right_out e e2 (n2, t2)), .res (event_Event_Right_out e e2 (n2, t2)), .res (event_Event_Right_out e e2 (n2, t2)), .res (event_Event_Left_out e e2 (n, t)), .res (event_Event_Right_out e e2 (n2, t2)), .res (id_ID_Left_out i i2 (b3, t3)), .res (id_ID_IsOne_out b3 t3 ()), .br true, .res (id_ID_Right_out i i2 (b4, t4)), .res (id_ID_Right_out i i2 (b4, t4)), .res (stamp_Fill_out b4 t4 n2 t2 (n3, t5)), .res (event_Event_Max_out n t n4), .res (event_Event_Max_out n t n4), .res (event_Event_Min_out n3 t5 ()), .res (stamp_leaf_out (if (n4 : Int) < n3 then n3 else n4) n5), .res (event_Event_Base_out e e2 ()), .res (event_Event_Base_out e e2 ()), .res (event_Event_Base_out e e2 ()), .res (event_Event_Base_out e e2 ()), .res (stamp_node_out e n5 T_event_halves.nil n3 t5 (n6, t6))]) (.k1 (an_ (id_ID_IsZero_runs i i2 _ h1) (an_ h2 (an_ (event_Event_IsLeaf_runs e e2 _ h3) (an_ h4 (an_ (id_ID_IsOne_runs i i2 _ h5) (an_ h6 (an_ (event_Event_Left_runs e e2 _ h7) (an_ (event_Event_Left_runs e e2 _ h7) (an_ (event_Event_Left_runs e e2 _ h7) (an_ (event_Event_Left_runs e e2 _ h7) (an_ (event_Event_Left_runs e e2 _ h7) (an_ (event_Event_Left_runs e e2 _ h7) (an_ (event_Event_Left_runs e e2 _ h7) (an_ (event_Event_Right_runs e e2 _ h8) (an_ (event_Event_Right_runs e e2 _ h8) (an_ (event_Event_Right_runs e e2 _ h8) (an_ (event_Event_Left_runs e e2 _ h7) (an_ (event_Event_Right_runs e e2 _ h8) (an_ (id_ID_Left_runs i i2 _ h9) (an_ (id_ID_IsOne_runs b3 t3 _ h10) (an_ h11 (an_ (id_ID_Right_runs i i2 _ h12) (an_ (id_ID_Right_runs i i2 _ h12) (an_ (hrec_stamp_Fill b4 t4 n2 t2 _ h13) (an_ (event_Event_Max_runs N n t _ h14) (an_ (event_Event_Max_runs N n t _ h14) (an_ (event_Event_Min_runs n3 t5 _ h15) (an_ (stamp_leaf_runs (if (n4 : Int) < n3 then n3 else n4) _ h16) (an_ (event_Event_Base_runs e e2 _ h17) (an_ (event_Event_Base_runs e e2 _ h17) (an_ (event_Event_Base_runs e e2 _ h17) (an_ (event_Event_Base_runs e e2 _ h17) (an_ (stamp_node_runs N e n5 T_event_halves.nil n3 t5 _ h18) trivial))))))))))))))))))))))))))))))))) (by kernel_rfl) (by kernel_rfl))
        · obtain ⟨⟨b4, t4⟩, h12, h⟩ := bind_of h
          obtain ⟨_, h13, h⟩ := bind_of h
          rcases cond_of h with ⟨h14, h⟩ | ⟨h14, h⟩
          · obtain ⟨⟨n3, t5⟩, h15, h⟩ := bind_of h
            obtain ⟨n4, h16, h⟩ := bind_of h
            obtain ⟨_, h17, h⟩ := bind_of h
            obtain ⟨n5, h18, h⟩ := bind_of h
            obtain ⟨_, h19, h⟩ := bind_of h
            obtain ⟨⟨n6, t6⟩, h20, h⟩ := bind_of h
            have h := some_of h
            subst h
            exact runs_of (C := cfg) (objs := []) (sc := [.res (id_ID_IsZero_out i i2 b), .br false, .res (event_Event_IsLeaf_out e e2 b2), .br false, .res (id_ID_IsOne_out i i2 ()), .br false, .res (event_Event_Left_out e e2 (n, t)), .res (event_Event_Left_out e e2 (n, t)), .res (event_Event_Left_out e e2 (n, t)), .res (event_Event_Left_out e e2 (n, t)), .res (event_Event_Left_out e e2 (n, t)), .res (event_Event_Left_out e e2 (n, t)), .res (event_Event_Left_out e e2 (n, t)), .res (event_Event_Right_out e e2 (n2, t2)), .res (event_Event_Right_out e e2 (n2, t2)), .res (event_Event_Right_out e e2 (n2, t2)), .res (event_Event_Left_out e e2 (n, t)), .res (event_Event_Right_out e e2 (n2, t2)), .res (id_ID_Left_out i i2 (b3, t3)), .res (id_ID_IsOne_out b3 t3 ()), .br false, .res (id_ID_Right_out i i2 (b4, t4)), .res (id_ID_IsOne_out b4 t4 ()), .br true, .res (id_ID_Left_out i i2 (b3, t3)), .res (id_ID_Left_out i i2 (b3, t3)), .res (stamp_Fill_out b3 t3 n t (n3, t5)), .res (event_Event_Max_out n2 t2 n4), .res (event_Event_Max_out n2 t2 n4), .res (event_Event_Min_out n3 t5 ()), .res (stamp_leaf_out (if (n4 : Int) < n3 then n3 else n4) n5), .res (event_Event_Base_out e e2 ()), .res (event_Event_Base_out e e2 ()), .res (event_Event_Base_out e e2 ()), .res (event_Event_Base_out e e2 ()), .res (stamp_node_out e n3 t5 n5 T_event_halves.nil (n6, t6))]) (.k1 (an_ (id_ID_IsZero_runs i i2 _ h1) (an_ h2 (an_ (event_Event_IsLeaf_runs e e2 _ h3) (an_ h4 (an_ (id_ID_IsOne_runs i i2 _ h5) (an_ h6 (an_ (event_Event_Left_runs e e2 _ h7) (an_ (event_Event_Left_runs e e2 _ h7) (an_ (event_Event_Left_runs e e2 _ h7) (an_ (event_Event_Left_runs e e2 _ h7) (an_ (event_Event_Left_runs e e2 _ h7) (an_ (event_Event_Left_runs e e2 _ h7) (an_ (event_Event_Left_runs e e2 _ h7) (an_ (event_Event_Right_runs e e2 _ h8) (an_ (event_Event_Right_runs e e2 _ h8) (an_ (event_Event_Right_runs e e2 _ h8) (an_ (event_Event_Left_runs e e2 _ h7) (an_ (event_Event_Right_runs e e2 _ h8) (an_ (id_ID_Left_runs i i2 _ h9) (an_ (id_ID_IsOne_runs b3 t3 _ h10) (an_ h11 (an_ (id_ID_Right_runs i i2 _ h12) (an_ (id_ID_IsOne_runs b4 t4 _ h13) (an_ h14 (an_ (id_ID_Left_runs i i2 _ h9) (an_ (id_ID_Left_runs i i2 _ h9) (an_ (hrec_stamp_Fill b3 t3 n t _ h15) (an_ (event_Event_Max_runs N n2 t2 _ h16) (an_ (event_Event_Max_runs N n2 t2 _ h16) (an_ (event_Event_Min_runs n3 t5 _ h17) (an_ (stamp_leaf_runs (if (n4 : Int) < n3 then n3 else n4) _ h18) (an_ (event_Event_Base_runs e e2 _ h19) (an_ (event_Event_Base_runs e e2 _ h19) (an_ (event_Event_Base_runs e e2 _ h19) (an_ (event_Event_Base_runs e e2 _ h19) (an_ (stamp_node_runs N e n3 t5 n5 T_event_halves.nil _ h20) trivial)))))))))))))))))))))))))))))))))))) (by kernel_rfl) (by kernel_rfl))
          · obtain ⟨⟨n3, t5⟩, h15, h⟩ := bind_of h
            obtain ⟨⟨n4, t6⟩, h16, h⟩ := bind_of h
            obtain ⟨_, h17, h⟩ := bind_of h
            obtain ⟨⟨n5, t7⟩, h18, h⟩ := bind_of h
            have h := some_of h
            subst h
            exact runs_of (C := cfg) (objs := []) (sc := [.res (id_ID_IsZero_out i i2 b), .br false, .res (event_Event_IsLeaf_out e e2 b2), .br false, .res (id_ID_IsOne_out i i2 ()), .br false, .res (event_Event_Left_out e e2 (n, t)), .res (event_Event_Left_out e e2 (n, t)), .res (event_Event_Left_out e e2 (n, t)), .res (event_Event_Left_out e e2 (n, t)), .res (event_Event_Left_out e e2 (n, t)), .res (event_Event_Left_out e e2 (n, t)), .res (event_Event_Left_out e e2 (n, t)), .res (event_Event_Right_out e e2 (n2, t2)), .res (event_Event_Right_out e e2 (n2, t2)), .res (event_Event_Right_out e e2 (n2, t2)), .res (event_Event_Left_out e e2 (n, t)), .res (event_Event_Right_out e e2 (n2, t2)), .res (id_ID_Left_out i i2 (b3, t3)), .res (id_ID_IsOne_out b3 t3 ()), .br false, .res (id_ID_Right_out i i2 (b4, t4)), .res (id_ID_IsOne_out b4 t4 ()), .br false, .res (id_ID_Left_out i i2 (b3, t3)), .res (id_ID_Left_out i i2 (b3, t3)), .res (id_ID_Left_out i i2 (b3, t3)), .res (id_ID_Left_out i i2 (b3, t3)), .res (id_ID_Left_out i i2 (b3, t3)), .res (id_ID_Left_out i i2 (b3, t3)), .res (id_ID_Left_out i i2 (b3, t3)), .res (stamp_Fill_out b3 t3 n t (n3, t5)), .res (stamp_Fill_out b3 t3 n t (n3, t5)), .res (stamp_Fill_out b3 t3 n t (n3, t5)), .res (id_ID_Left_out i i2 (b3, t3)), .res (stamp_Fill_out b3 t3 n t (n3, t5)), .res (id_ID_Right_out i i2 (b4, t4)), .res (id_ID_Right_out i i2 (b4, t4)), .res (stamp_Fill_out b4 t4 n2 t2 (n4, t6)), .res (event_Event_Base_out e e2 ()), .res (event_Event_Base_out e e2 ()), .res (event_Event_Base_out e e2 ()), .res (event_Event_Base_out e e2 ()), .res (stamp_node_out e n3 t5 n4 t6 (n5, t7))]) (.k1 (an_ (id_ID_IsZero_runs i i2 _ h1) (an_ h2 (an_ (event_Event_IsLeaf_runs e e2 _ h3) (an_ h4 (an_ (id_ID_IsOne_runs i i2 _ h5) (an_ h6 (an_ (event_Event_Left_runs e e2 _ h7) (an_ (event_Event_Left_runs e e2 _ h7) (an_ (event_Event_Left_runs e e2 _ h7) (an_ (event_Event_Left_runs e e2 _ h7) (an_ (event_Event_Left_runs e e2 _ h7) (an_ (event_Event_Left_runs e e2 _ h7) (an_ (event_Event_Left_runs e e2 _ h7) (an_ (event_Event_Right_runs e e2 _ h8) (an_ (event_Event_Right_runs e e2 _ h8) (an_ (event_Event_Right_runs e e2 _ h8) (an_ (event_Event_Left_runs e e2 _ h7) (an_ (event_Event_Right_runs e e2 _ h8) (an_ (id_ID_Left_runs i i2 _ h9) (an_ (id_ID_IsOne_runs b3 t3 _ h10) (an_ h11 (an_ (id_ID_Right_runs i i2 _ h12) (an_ (id_ID_IsOne_runs b4 t4 _ h13) (an_ h14 (an_ (id_ID_Left_runs i i2 _ h9) (an_ (id_ID_Left_runs i i2 _ h9) (an_ (id_ID_Left_runs i i2 _ h9) (an_ (id_ID_Left_runs i i2 _ h9) (an_ (id_ID_Left_runs i i2 _ h9) (an_ (id_ID_Left_runs i i2 _ h9) (an_ (id_ID_Left_runs i i2 _ h9) (an_ (hrec_stamp_Fill b3 t3 n t _ h15) (an_ (hrec_stamp_Fill b3 t3 n t _ h15) (an_ (hrec_stamp_Fill b3 t3 n t _ h15) (an_ (id_ID_Left_runs i i2 _ h9) (an_ (hrec_stamp_Fill b3 t3 n t _ h15) (an_ (id_ID_Right_runs i i2 _ h12) (an_ (id_ID_Right_runs i i2 _ h12) (an_ (hrec_stamp_Fill b4 t4 n2 t2 _ h16) (an_ (event_Event_Base_runs e e2 _ h17) (an_ (event_Event_Base_runs e e2 _ h17) (an_ (event_Event_Base_runs e e2 _ h17) (an_ (event_Event_Base_runs e e2 _ h17) (an_ (stamp_node_runs N e n3 t5 n4 t6 _ h18) trivial)))))))))))))))))))))))))))))))))))))))))))) (by kernel_rfl) (by kernel_rfl))
noncomputable def stamp_Fill : Nat → Bool → T_id_halves → Int → T_event_halves → Option (Int × T_event_halves)
  | 0, _, _, _, _ => none
  | N + 1, i, i2, e, e2 => stamp_Fill_b N (stamp_Fill N) i i2 e e2
theorem stamp_Fill_runs : ∀ (N : Nat) (i : Bool) (i2 : T_id_halves) (e : Int) (e2 : T_event_halves) (r_ : Int × T_event_halves), stamp_Fill N i i2 e e2 = some r_ → Runs Tryd.prog 20 [(.agg [(.pv (.bool i)), (.pv (T_id_halves.pv i2))]), (.agg [(.pv (.int .u64 e)), (.pv (T_event_halves.pv e2))])] [] [] (stamp_Fill_out i i2 e e2 r_)
  | 0, _, _, _, _, _, h => by cases h
  | N + 1, i, i2, e, e2, r_, h => stamp_Fill_b_runs N (stamp_Fill N) (stamp_Fill_runs N) i i2 e e2 r_ h
/-! ### event_Same_out -/
def event_Same_out (a : Int) (a2 : T_event_halves) (b : Int) (b2 : T_event_halves) : Bool → Res
  | r1 => ([(.one (.pv (.bool r1)))], [], [])
/-! ### event_Leq_out -/
def event_Leq_out (a : Int) (a2 : T_event_halves) (b : Int) (b2 : T_event_halves) : Bool → Res
  | r1 => ([(.one (.pv (.bool r1)))], [], [])
/-! ### event_Event_up_out -/
def event_Event_up_out (e : Int) (e2 : T_event_halves) (n : Int) : Int → Res
  | r1 => ([(.agg [(.pv (.int .u64 r1)), (.pv (T_event_halves.pv e2))])], [], [])
/-! ### event_Event_up -/
noncomputable def event_Event_up (e : Int) (e2 : T_event_halves) (n : Int) : Option (Int) :=
  some (iadd .u64 e n)
theorem event_Event_up_runs (e : Int) (e2 : T_event_halves) (n : Int) (r_ : Int) (h : event_Event_up e e2 n = some r_) : Runs Tryd.prog 118 [(.agg [(.pv (.int .u64 e)), (.pv (T_event_halves.pv e2))]), (.one (.pv (.int .u64 n)))] [] [] (event_Event_up_out e e2 n r_) := by
  unfold event_Event_up at h
  have h := some_of h
  subst h
  exact runs_of (C := cfg) (objs := []) (sc := []) (.k0 (trivial) (by kernel_rfl))
/-! ### event_Leq -/
noncomputable def event_Leq_b (rec_event_Leq : Int → T_event_halves → Int → T_event_halves → Option (Bool)) (a : Int) (a2 : T_event_halves) (b : Int) (b2 : T_event_halves) : Option (Bool) :=
  match a2 with
  | .nil =>
    some (decide ((a : Int) ≤ b))
  | .mk n t n2 t2 =>
    bif (decide ((b : Int) < a)) then
      match b2 with
      | .nil =>
        some false
      | .mk n3 t3 n4 t4 =>
        (event_Event_up n t a).bind fun n5 =>
        (event_Event_Left b b2).bind fun (n6, t5) =>
        (event_Event_up n6 t5 b).bind fun n7 =>
        (rec_event_Leq n5 t n7 t5).bind fun b3 =>
        bif b3 then
          (event_Event_up n2 t2 a).bind fun n8 =>
          (event_Event_Right b b2).bind fun (n9, t6) =>
          (event_Event_up n9 t6 b).bind fun n10 =>
          (rec_event_Leq n8 t2 n10 t6).bind fun b4 =>
          some b4
        else
          some false
    else
      (event_Event_up n t a).bind fun n3 =>
      (event_Event_Left b b2).bind fun (n4, t3) =>
      (event_Event_up n4 t3 b).bind fun n5 =>
      (rec_event_Leq n3 t n5 t3).bind fun b3 =>
      bif b3 then
        (event_Event_up n2 t2 a).bind fun n6 =>
        (event_Event_Right b b2).bind fun (n7, t4) =>
        (event_Event_up n7 t4 b).bind fun n8 =>
        (rec_event_Leq n6 t2 n8 t4).bind fun b4 =>
        some b4
      else
        some false
theorem event_Leq_b_runs (rec_event_Leq : Int → T_event_halves → Int → T_event_halves → Option (Bool)) (hrec_event_Leq : ∀ a a2 b b2 r_, rec_event_Leq a a2 b b2 = some r_ → Runs Tryd.prog 61 [(.agg [(.pv (.int .u64 a)), (.pv (T_event_halves.pv a2))]), (.agg [(.pv (.int .u64 b)), (.pv (T_event_halves.pv b2))])] [] [] (event_Leq_out a a2 b b2 r_)) (a : Int) (a2 : T_event_halves) (b : Int) (b2 : T_event_halves) (r_ : Bool) (h : event_Leq_b rec_event_Leq a a2 b b2 = some r_) : Runs Tryd.prog 61 [(.agg [(.pv (.int .u64 a)), (.pv (T_event_halves.pv a2))]), (.agg [(.pv (.int .u64 b)), (.pv (T_event_halves.pv b2))])] [] [] (event_Leq_out a a2 b b2 r_) := by
  unfold event_Leq_b at h
  cases a2 with
  | nil =>
    have h := some_of h
    subst h
    exact runs_of (C := cfg) (objs := []) (sc := [.br true]) (.k0 (an_ (rfl : true = true) trivial) (by kernel_rfl))
  | mk n t n2 t2 =>
    rcases cond_of h with ⟨h1, h⟩ | ⟨h1, h⟩
    · cases b2 with
      | nil =>
        have h := some_of h
        subst h
        exact runs_of (C := cfg) (objs := []) (sc := [.br false, .br true, .br true]) (.k0 (an_ (rfl : false = false) (an_ h1 (an_ (rfl : true = true) trivial))) (by kernel_rfl))
      | mk n3 t3 n4 t4 =>
        obtain ⟨n5, h2, h⟩ := bind_of h
        obtain ⟨⟨n6, t5⟩, h3, h⟩ := bind_of h
        obtain ⟨n7, h4, h⟩ := bind_of h
        obtain ⟨b3, h5, h⟩ := bind_of h
        rcases cond_of h with ⟨h6, h⟩ | ⟨h6, h⟩
        · obtain ⟨n8, h7, h⟩ := bind_of h
          obtain ⟨⟨n9, t6⟩, h8, h⟩ := bind_of h
          obtain ⟨n10, h9, h⟩ := bind_of h
          obtain ⟨b4, h10, h⟩ := bind_of h
          have h := some_of h
          subst h
          exact runs_of (C := cfg) (objs := []) (sc := [.br false, .br true, .br false, .res (event_Event_up_out n t a n5), .res (event_Event_up_out n t a n5), .res (event_Event_up_out n t a n5), .res (event_Event_up_out n t a n5), .res (event_Event_Left_out b (T_event_halves.mk n3 t3 n4 t4) (n6, t5)), .res (event_Event_Left_out b (T_event_halves.mk n3 t3 n4 t4) (n6, t5)), .res (event_Event_up_out n6 t5 b n7), .res (event_Leq_out n5 t n7 t5 b3), .br true, .res (event_Event_up_out n2 t2 a n8), .res (event_Event_up_out n2 t2 a n8), .res (event_Event_up_out n2 t2 a n8), .res (event_Event_up_out n2 t2 a n8), .res (event_Event_Right_out b (T_event_halves.mk n3 t3 n4 t4) (n9, t6)), .res (event_Event_Right_out b (T_event_halves.mk n3 t3 n4 t4) (n9, t6)), .res (event_Event_up_out n9 t6 b n10), .res (event_Leq_out n8 t2 n10 t6 b4)]) (.k1 (an_ (rfl : false = false) (an_ h1 (an_ (rfl : false = false) (an_ (event_Event_up_runs n t a _ h2) (an_ (event_Event_up_runs n t a _ h2) (an_ (event_Event_up_runs n t a _ h2) (an_ (event_Event_up_runs n t a _ h2) (an_ (event_Event_Left_runs b (T_event_halves.mk n3 t3 n4 t4) _ h3) (an_ (event_Event_Left_runs b (T_event_halves.mk n3 t3 n4 t4) _ h3) (an_ (event_Event_up_runs n6 t5 b _ h4) (an_ (hrec_event_Leq n5 t n7 t5 _ h5) (an_ h6 (an_ (event_Event_up_runs n2 t2 a _ h7) (an_ (event_Event_up_runs n2 t2 a _ h7) (an_ (event_Event_up_runs n2 t2 a _ h7) (an_ (event_Event_up_runs n2 t2 a _ h7) (an_ (event_Event_Right_runs b (T_event_halves.mk n3 t3 n4 t4) _ h8) (an_ (event_Event_Right_runs b (T_event_halves.mk n3 t3 n4 t4) _ h8) (an_ (event_Event_up_runs n9 t6 b _ h9) (an_ (hrec_event_Leq n8 t2 n10 t6 _ h10) trivial)))))))))))))))))))) (by kernel_rfl) (by kernel_rfl))
        · have h := some_of h
          subst h
          exact runs_of (C := cfg) (objs := []) (sc := [.br false, .br true, .br false, .res (event_Event_up_out n t a n5), .res (event_Event_up_out n t a n5), .res (event_Event_up_out n t a n5), .res (event_Event_up_out n t a n5), .res (event_Event_Left_out b (T_event_halves.mk n3 t3 n4 t4) (n6, t5)), .res (event_Event_Left_out b (T_event_halves.mk n3 t3 n4 t4) (n6, t5)), .res (event_Event_up_out n6 t5 b n7), .res (event_Leq_out n5 t n7 t5 b3), .br false]) (.k1 (an_ (rfl : false = false) (an_ h1 (an_ (rfl : false = false) (an_ (event_Event_up_runs n t a _ h2) (an_ (event_Event_up_runs n t a _ h2) (an_ (event_Event_up_runs n t a _ h2) (an_ (event_Event_up_runs n t a _ h2) (an_ (event_Event_Left_runs b (T_event_halves.mk n3 t3 n4 t4) _ h3) (an_ (event_Event_Left_runs b (T_event_halves.mk n3 t3 n4 t4) _ h3) (an_ (event_Event_up_runs n6 t5 b _ h4) (an_ (hrec_event_Leq n5 t n7 t5 _ h5) (an_ h6 trivial)))))))))))) (by kernel_rfl) (by kernel_rfl))
    · obtain ⟨n3, h2, h⟩ := bind_of h
      obtain ⟨⟨n4, t3⟩, h3, h⟩ := bind_of h
      obtain ⟨n5, h4, h⟩ := bind_of h
      obtain ⟨b3, h5, h⟩ := bind_of h
      rcases cond_of h with ⟨h6, h⟩ | ⟨h6, h⟩
      · obtain ⟨n6, h7, h⟩ := bind_of h
        obtain ⟨⟨n7, t4⟩, h8, h⟩ := bind_of h
        obtain ⟨n8, h9, h⟩ := bind_of h
        obtain ⟨b4, h10, h⟩ := bind_of h
        have h := some_of h
        subst h
        exact runs_of (C := cfg) (objs := []) (sc := [.br false, .br false, .br false, .res (event_Event_up_out n t a n3), .res (event_Event_up_out n t a n3), .res (event_Event_up_out n t a n3), .res (event_Event_up_out n t a n3), .res (event_Event_Left_out b b2 (n4, t3)), .res (event_Event_Left_out b b2 (n4, t3)), .res (event_Event_up_out n4 t3 b n5), .res (event_Leq_out n3 t n5 t3 b3), .br true, .res (event_Event_up_out n2 t2 a n6), .res (event_Event_up_out n2 t2 a n6), .res (event_Event_up_out n2 t2 a n6), .res (event_Event_up_out n2 t2 a n6), .res (event_Event_Right_out b b2 (n7, t4)), .res (event_Event_Right_out b b2 (n7, t4)), .res (event_Event_up_out n7 t4 b n8), .res (event_Leq_out n6 t2 n8 t4 b4)]) (.k1 (an_ (rfl : false = false) (an_ h1 (an_ (rfl : false = false) (an_ (event_Event_up_runs n t a _ h2) (an_ (event_Event_up_runs n t a _ h2) (an_ (event_Event_up_runs n t a _ h2) (an_ (event_Event_up_runs n t a _ h2) (an_ (event_Event_Left_runs b b2 _ h3) (an_ (event_Event_Left_runs b b2 _ h3) (an_ (event_Event_up_runs n4 t3 b _ h4) (an_ (hrec_event_Leq n3 t n5 t3 _ h5) (an_ h6 (an_ (event_Event_up_runs n2 t2 a _ h7) (an_ (event_Event_up_runs n2 t2 a _ h7) (an_ (event_Event_up_runs n2 t2 a _ h7) (an_ (event_Event_up_runs n2 t2 a _ h7) (an_ (event_Event_Right_runs b b2 _ h8) (an_ (event_Event_Right_runs b b2 _ h8) (an_ (event_Event_up_runs n7 t4 b _ h9) (an_ (hrec_event_Leq n6 t2 n8 t4 _ h10) trivial)))))))))))))))))))) (by kernel_rfl) (by kernel_rfl))
      · have h := some_of h
        subst h
        exact runs_of (C := cfg) (objs := []) (sc := [.br false, .br false, .br false, .res (event_Event_up_out n t a n3), .res (event_Event_up_out n t a n3), .res (event_Event_up_out n t a n3), .res (event_Event_up_out n t a n3), .res (event_Event_Left_out b b2 (n4, t3)), .res (event_Event_Left_out b b2 (n4, t3)), .res (event_Event_up_out n4 t3 b n5), .res (event_Leq_out n3 t n5 t3 b3), .br false]) (.k1 (an_ (rfl : false = false) (an_ h1 (an_ (rfl : false = false) (an_ (event_Event_up_runs n t a _ h2) (an_ (event_Event_up_runs n t a _ h2) (an_ (event_Event_up_runs n t a _ h2) (an_ (event_Event_up_runs n t a _ h2) (an_ (event_Event_Left_runs b b2 _ h3) (an_ (event_Event_Left_runs b b2 _ h3) (an_ (event_Event_up_runs n4 t3 b _ h4) (an_ (hrec_event_Leq n3 t n5 t3 _ h5) (an_ h6 trivial)))))))))))) (by kernel_rfl) (by kernel_rfl))
noncomputable def event_Leq : Nat → Int → T_event_halves → Int → T_event_halves → Option (Bool)
  | 0, _, _, _, _ => none
  | N + 1, a, a2, b, b2 => event_Leq_b (event_Leq N) a a2 b b2
theorem event_Leq_runs : ∀ (N : Nat) (a : Int) (a2 : T_event_halves) (b : Int) (b2 : T_event_halves) (r_ : Bool), event_Leq N a a2 b b2 = some r_ → Runs Tryd.prog 61 [(.agg [(.pv (.int .u64 a)), (.pv (T_event_halves.pv a2))]), (.agg [(.pv (.int .u64 b)), (.pv (T_event_halves.pv b2))])] [] [] (event_Leq_out a a2 b b2 r_)
  | 0, _, _, _, _, _, h => by cases h
  | N + 1, a, a2, b, b2, r_, h => event_Leq_b_runs (event_Leq N) (event_Leq_runs N) a a2 b b2 r_ h
/-! ### event_Same -/
noncomputable def event_Same (N : Nat) (a : Int) (a2 : T_event_halves) (b : Int) (b2 : T_event_halves) : Option (Bool) :=
  (event_Leq N a a2 b b2).bind fun b3 =>
  bif b3 then
    (event_Leq N b b2 a a2).bind fun b4 =>
    some b4
  else
    some false
theorem event_Same_runs (N : Nat) (a : Int) (a2 : T_event_halves) (b : Int) (b2 : T_event_halves) (r_ : Bool) (h : event_Same N a a2 b b2 = some r_) : Runs Tryd.prog 25 [(.agg [(.pv (.int .u64 a)), (.pv (T_event_halves.pv a2))]), (.agg [(.pv (.int .u64 b)), (.pv (T_event_halves.pv b2))])] [] [] (event_Same_out a a2 b b2 r_) := by
  unfold event_Same at h
  obtain ⟨b3, h1, h⟩ := bind_of h
  rcases cond_of h with ⟨h2, h⟩ | ⟨h2, h⟩
  · obtain ⟨b4, h3, h⟩ := bind_of h
    have h := some_of h
    subst h
    exact runs_of (C := cfg) (objs := []) (sc := [.res (event_Leq_out a a2 b b2 b3), .br true, .res (event_Leq_out b b2 a a2 b4)]) (.k0 (an_ (event_Leq_runs N a a2 b b2 _ h1) (an_ h2 (an_ (event_Leq_runs N b b2 a a2 _ h3) trivial))) (by kernel_rfl))
  · have h := some_of h
    subst h
    exact runs_of (C := cfg) (objs := []) (sc := [.res (event_Leq_out a a2 b b2 b3), .br false]) (.k0 (an_ (event_Leq_runs N a a2 b b2 _ h1) (an_ h2 trivial)) (by kernel_rfl))
/-! ### stamp_Grow_out -/
def stamp_Grow_out (i : Bool) (i2 : T_id_halves) (e : Int) (e2 : T_event_halves) : Int × T_event_halves × Int × Int → Res
  | (r1, r2, r3, r4) => ([(.agg [(.pv (.int .u64 r1)), (.pv (T_event_halves.pv r2))]), (.one (.pv (.int .i64 r3))), (.one (.pv (.int .i64 r4)))], [], [])
/-! ### stamp_cost_out -/
def stamp_cost_out (i : Bool) (i2 : T_id_halves) (e : Int) (e2 : T_event_halves) : Int × Bool → Res
  | (r1, r2) => ([(.one (.pv (.int .i64 r1))), (.one (.pv (.bool r2)))], [], [])
/-! ### stamp_half_3_out -/
def stamp_half_3_out (i : Bool) (i2 : T_id_halves) (e : Int) (e2 : T_event_halves) : Int × Bool → Res
  | (r1, r2) => ([(.one (.pv (.int .i64 r1))), (.one (.pv (.bool r2)))], [], [])
/-! ### stamp_half_3 -/
noncomputable def stamp_half_3 (rec_stamp_cost : Bool → T_id_halves → Int → T_event_halves → Option (Int × Bool)) (i : Bool) (i2 : T_id_halves) (e : Int) (e2 : T_event_halves) : Option (Int × Bool) :=
  (id_ID_Left i i2).bind fun (b, t) =>
  (id_ID_Right i i2).bind fun (b2, t2) =>
  (id_ID_IsZero b t).bind fun b3 =>
  bif b3 then
    (event_Event_Right e e2).bind fun (n, t3) =>
    (rec_stamp_cost b2 t2 n t3).bind fun (n2, b4) =>
    some ((iadd .i64 n2 1), true)
  else
    (id_ID_IsZero b2 t2).bind fun b4 =>
    bif b4 then
      (event_Event_Left e e2).bind fun (n, t3) =>
      (rec_stamp_cost b t n t3).bind fun (n2, b5) =>
      some ((iadd .i64 n2 1), false)
    else
      (event_Event_Left e e2).bind fun (n, t3) =>
      (rec_stamp_cost b t n t3).bind fun (n2, b5) =>
      (event_Event_Right e e2).bind fun (n3, t4) =>
      (rec_stamp_cost b2 t2 n3 t4).bind fun (n4, b6) =>
      some ((iadd .i64 (if (n4 : Int) < n2 then n4 else n2) 1), (decide ((n4 : Int) ≤ n2)))
theorem stamp_half_3_runs (rec_stamp_cost : Bool → T_id_halves → Int → T_event_halves → Option (Int × Bool)) (hrec_stamp_cost : ∀ i i2 e e2 r_, rec_stamp_cost i i2 e e2 = some r_ → Runs Tryd.prog 101 [(.agg [(.pv (.bool i)), (.pv (T_id_halves.pv i2))]), (.agg [(.pv (.int .u64 e)), (.pv (T_event_halves.pv e2))])] [] [] (stamp_cost_out i i2 e e2 r_)) (i : Bool) (i2 : T_id_halves) (e : Int) (e2 : T_event_halves) (r_ : Int × Bool) (h : stamp_half_3 rec_stamp_cost i i2 e e2 = some r_) : Runs Tryd.prog 139 [(.agg [(.pv (.bool i)), (.pv (T_id_halves.pv i2))]), (.agg [(.pv (.int .u64 e)), (.pv (T_event_halves.pv e2))])] [] [] (stamp_half_3_out i i2 e e2 r_) := by
  unfold stamp_half_3 at h
  obtain ⟨⟨b, t⟩, h1, h⟩ := bind_of h
  obtain ⟨⟨b2, t2⟩, h2, h⟩ := bind_of h
  obtain ⟨b3, h3, h⟩ := bind_of h
  rcases cond_of h with ⟨h4, h⟩ | ⟨h4, h⟩
  · obtain ⟨⟨n, t3⟩, h5, h⟩ := bind_of h
    obtain ⟨⟨n2, b4⟩, h6, h⟩ := bind_of h
    have h := some_of h
    subst h
    exact runs_of (C := cfg) (objs := []) (sc := [.res (id_ID_Left_out i i2 (b, t)), .res (id_ID_Left_out i i2 (b, t)), .res (id_ID_Left_out i i2 (b, t)), .res (id_ID_Left_out i i2 (b, t)), .res (id_ID_Left_out i i2 (b, t)), .res (id_ID_Left_out i i2 (b, t)), .res (id_ID_Left_out i i2 (b, t)), .res (id_ID_Right_out i i2 (b2, t2)), .res (id_ID_Right_out i i2 (b2, t2)), .res (id_ID_Right_out i i2 (b2, t2)), .res (id_ID_Left_out i i2 (b, t)), .res (id_ID_Right_out i i2 (b2, t2)), .res (id_ID_IsZero_out b t b3), .br true, .res (event_Event_Right_out e e2 (n, t3)), .res (event_Event_Right_out e e2 (n, t3)), .res (stamp_cost_out b2 t2 n t3 (n2, b4))]) (.k1 (an_ (id_ID_Left_runs i i2 _ h1) (an_ (id_ID_Left_runs i i2 _ h1) (an_ (id_ID_Left_runs i i2 _ h1) (an_ (id_ID_Left_runs i i2 _ h1) (an_ (id_ID_Left_runs i i2 _ h1) (an_ (id_ID_Left_runs i i2 _ h1) (an_ (id_ID_Left_runs i i2 _ h1) (an_ (id_ID_Right_runs i i2 _ h2) (an_ (id_ID_Right_runs i i2 _ h2) (an_ (id_ID_Right_runs i i2 _ h2) (an_ (id_ID_Left_runs i i2 _ h1) (an_ (id_ID_Right_runs i i2 _ h2) (an_ (id_ID_IsZero_runs b t _ h3) (an_ h4 (an_ (event_Event_Right_runs e e2 _ h5) (an_ (event_Event_Right_runs e e2 _ h5) (an_ (hrec_stamp_cost b2 t2 n t3 _ h6) trivial))))))))))))))))) (by kernel_rfl) (by kernel_rfl))
  · obtain ⟨b4, h5, h⟩ := bind_of h
    rcases cond_of h with ⟨h6, h⟩ | ⟨h6, h⟩
    · obtain ⟨⟨n, t3⟩, h7, h⟩ := bind_of h
      obtain ⟨⟨n2, b5⟩, h8, h⟩ := bind_of h
      have h := some_of h
      subst h
      exact runs_of (C := cfg) (objs := []) (sc := [.res (id_ID_Left_out i i2 (b, t)), .res (id_ID_Left_out i i2 (b, t)), .res (id_ID_Left_out i i2 (b, t)), .res (id_ID_Left_out i i2 (b, t)), .res (id_ID_Left_out i i2 (b, t)), .res (id_ID_Left_out i i2 (b, t)), .res (id_ID_Left_out i i2 (b, t)), .res (id_ID_Right_out i i2 (b2, t2)), .res (id_ID_Right_out i i2 (b2, t2)), .res (id_ID_Right_out i i2 (b2, t2)), .res (id_ID_Left_out i i2 (b, t)), .res (id_ID_Right_out i i2 (b2, t2)), .res (id_ID_IsZero_out b t b3), .br false, .res (id_ID_IsZero_out b2 t2 b4), .br true, .res (event_Event_Left_out e e2 (n, t3)), .res (event_Event_Left_out e e2 (n, t3)), .res (stamp_cost_out b t n t3 (n2, b5))]) (.k1 (an_ (id_ID_Left_runs i i2 _ h1) (an_ (id_ID_Left_runs i i2 _ h1) (an_ (id_ID_Left_runs i i2 _ h1) (an_ (id_ID_Left_runs i i2 _ h1) (an_ (id_ID_Left_runs i i2 _ h1) (an_ (id_ID_Left_runs i i2 _ h1) (an_ (id_ID_Left_runs i i2 _ h1) (an_ (id_ID_Right_runs i i2 _ h2) (an_ (id_ID_Right_runs i i2 _ h2) (an_ (id_ID_Right_runs i i2 _ h2) (an_ (id_ID_Left_runs i i2 _ h1) (an_ (id_ID_Right_runs i i2 _ h2) (an_ (id_ID_IsZero_runs b t _ h3) (an_ h4 (an_ (id_ID_IsZero_runs b2 t2 _ h5) (an_ h6 (an_ (event_Event_Left_runs e e2 _ h7) (an_ (event_Event_Left_runs e e2 _ h7) (an_ (hrec_stamp_cost b t n t3 _ h8) trivial))))))))))))))))))) (by kernel_rfl) (by kernel_rfl))
    · obtain ⟨⟨n, t3⟩, h7, h⟩ := bind_of h
      obtain ⟨⟨n2, b5⟩, h8, h⟩ := bind_of h
      obtain ⟨⟨n3, t4⟩, h9, h⟩ := bind_of h
      obtain ⟨⟨n4, b6⟩, h10, h⟩ := bind_of h
      have h := some_of h
      subst h
      exact runs_of (C := cfg) (objs := []) (sc := [.res (id_ID_Left_out i i2 (b, t)), .res (id_ID_Left_out i i2 (b, t)), .res (id_ID_Left_out i i2 (b, t)), .res (id_ID_Left_out i i2 (b, t)), .res (id_ID_Left_out i i2 (b, t)), .res (id_ID_Left_out i i2 (b, t)), .res (id_ID_Left_out i i2 (b, t)), .res (id_ID_Right_out i i2 (b2, t2)), .res (id_ID_Right_out i i2 (b2, t2)), .res (id_ID_Right_out i i2 (b2, t2)), .res (id_ID_Left_out i i2 (b, t)), .res (id_ID_Right_out i i2 (b2, t2)), .res (id_ID_IsZero_out b t b3), .br false, .res (id_ID_IsZero_out b2 t2 b4), .br false, .res (event_Event_Left_out e e2 (n, t3)), .res (event_Event_Left_out e e2 (n, t3)), .res (stamp_cost_out b t n t3 (n2, b5)), .res (event_Event_Right_out e e2 (n3, t4)), .res (event_Event_Right_out e e2 (n3, t4)), .res (stamp_cost_out b2 t2 n3 t4 (n4, b6))]) (.k1 (an_ (id_ID_Left_runs i i2 _ h1) (an_ (id_ID_Left_runs i i2 _ h1) (an_ (id_ID_Left_runs i i2 _ h1) (an_ (id_ID_Left_runs i i2 _ h1) (an_ (id_ID_Left_runs i i2 _ h1) (an_ (id_ID_Left_runs i i2 _ h1) (an_ (id_ID_Left_runs i i2 _ h1) (an_ (id_ID_Right_runs i i2 _ h2) (an_ (id_ID_Right_runs i i2 _ h2) (an_ (id_ID_Right_runs i i2 _ h2) (an_ (id_ID_Left_runs i i2 _ h1) (an_ (id_ID_Right_runs i i2 _ h2) (an_ (id_ID_IsZero_runs b t _ h3) (an_ h4 (an_ (id_ID_IsZero_runs b2 t2 _ h5) (an_ h6 (an_ (event_Event_Left_runs e e2 _ h7) (an_ (event_Event_Left_runs e e2 _ h7) (an_ (hrec_stamp_cost b t n t3 _ h8) (an_ (event_Event_Right_runs e e2 _ h9) (an_ (event_Event_Right_runs e e2 _ h9) (an_ (hrec_stamp_cost b2 t2 n3 t4 _ h10) trivial)))))))))))))))))))))) (by kernel_rfl) (by kernel_rfl))
/-! ### stamp_cost -/
noncomputable def stamp_cost_b (rec_stamp_cost : Bool → T_id_halves → Int → T_event_halves → Option (Int × Bool)) (i : Bool) (i2 : T_id_halves) (e : Int) (e2 : T_event_halves) : Option (Int × Bool) :=
  (event_Event_IsLeaf e e2).bind fun b =>
  bif b then
    (id_ID_IsOne i i2).bind fun _ =>
    bif i then
      some (0, false)
    else
      (stamp_half_3 rec_stamp_cost i i2 e e2).bind fun (n, b2) =>
      some ((iadd .i64 n 1000), b2)
  else
    (stamp_half_3 rec_stamp_cost i i2 e e2).bind fun (n, b2) =>
    some (n, b2)
theorem stamp_cost_b_runs (rec_stamp_cost : Bool → T_id_halves → Int → T_event_halves → Option (Int × Bool)) (hrec_stamp_cost : ∀ i i2 e e2 r_, rec_stamp_cost i i2 e e2 = some r_ → Runs Tryd.prog 101 [(.agg [(.pv (.bool i)), (.pv (T_id_halves.pv i2))]), (.agg [(.pv (.int .u64 e)), (.pv (T_event_halves.pv e2))])] [] [] (stamp_cost_out i i2 e e2 r_)) (i : Bool) (i2 : T_id_halves) (e : Int) (e2 : T_event_halves) (r_ : Int × Bool) (h : stamp_cost_b rec_stamp_cost i i2 e e2 = some r_) : Runs Tryd.prog 101 [(.agg [(.pv (.bool i)), (.pv (T_id_halves.pv i2))]), (.agg [(.pv (.int .u64 e)), (.pv (T_event_halves.pv e2))])] [] [] (stamp_cost_out i i2 e e2 r_) := by
  unfold stamp_cost_b at h
  obtain ⟨b, h1, h⟩ := bind_of h
  rcases cond_of h with ⟨h2, h⟩ | ⟨h2, h⟩
  · obtain ⟨_, h3, h⟩ := bind_of h
    rcases cond_of h with ⟨h4, h⟩ | ⟨h4, h⟩
    · have h := some_of h
      subst h
      exact runs_of (C := cfg) (objs := []) (sc := [.res (event_Event_IsLeaf_out e e2 b), .br true, .res (id_ID_IsOne_out i i2 ()), .br true]) (.k0 (an_ (event_Event_IsLeaf_runs e e2 _ h1) (an_ h2 (an_ (id_ID_IsOne_runs i i2 _ h3) (an_ h4 trivial)))) (by kernel_rfl))
    · obtain ⟨⟨n, b2⟩, h5, h⟩ := bind_of h
      have h := some_of h
      subst h
      exact runs_of (C := cfg) (objs := []) (sc := [.res (event_Event_IsLeaf_out e e2 b), .br true, .res (id_ID_IsOne_out i i2 ()), .br false, .res (stamp_half_3_out i i2 e e2 (n, b2))]) (.k0 (an_ (event_Event_IsLeaf_runs e e2 _ h1) (an_ h2 (an_ (id_ID_IsOne_runs i i2 _ h3) (an_ h4 (an_ (stamp_half_3_runs rec_stamp_cost hrec_stamp_cost i i2 e e2 _ h5) trivial))))) (by kernel_rfl))
  · obtain ⟨⟨n, b2⟩, h3, h⟩ := bind_of h
    have h := some_of h
    subst h
    exact runs_of (C := cfg) (objs := []) (sc := [.res (event_Event_IsLeaf_out e e2 b), .br false, .res (stamp_half_3_out i i2 e e2 (n, b2))]) (.k0 (an_ (event_Event_IsLeaf_runs e e2 _ h1) (an_ h2 (an_ (stamp_half_3_runs rec_stamp_cost hrec_stamp_cost i i2 e e2 _ h3) trivial))) (by kernel_rfl))
noncomputable def stamp_cost : Nat → Bool → T_id_halves → Int → T_event_halves → Option (Int × Bool)
  | 0, _, _, _, _ => none
  | N + 1, i, i2, e, e2 => stamp_cost_b (stamp_cost N) i i2 e e2
theorem stamp_cost_runs : ∀ (N : Nat) (i : Bool) (i2 : T_id_halves) (e : Int) (e2 : T_event_halves) (r_ : Int × Bool), stamp_cost N i i2 e e2 = some r_ → Runs Tryd.prog 101 [(.agg [(.pv (.bool i)), (.pv (T_id_halves.pv i2))]), (.agg [(.pv (.int .u64 e)), (.pv (T_event_halves.pv e2))])] [] [] (stamp_cost_out i i2 e e2 r_)
  | 0, _, _, _, _, _, h => by cases h
  | N + 1, i, i2, e, e2, r_, h => stamp_cost_b_runs (stamp_cost N) (stamp_cost_runs N) i i2 e e2 r_ h
/-! ### stamp_grow_out -/
def stamp_grow_out (i : Bool) (i2 : T_id_halves) (e : Int) (e2 : T_event_halves) : Int × T_event_halves × Int → Res
  | (r1, r2, r3) => ([(.agg [(.pv (.int .u64 r1)), (.pv (T_event_halves.pv r2))]), (.one (.pv (.int .i64 r3)))], [], [])
/-! ### stamp_grow -/
noncomputable def stamp_grow_b (N : Nat) (rec_stamp_grow : Bool → T_id_halves → Int → T_event_halves → Option (Int × T_event_halves × Int)) (i : Bool) (i2 : T_id_halves) (e : Int) (e2 : T_event_halves) : Option (Int × T_event_halves × Int) :=
  (event_Event_IsLeaf e e2).bind fun b =>
  bif b then
    (id_ID_IsOne i i2).bind fun _ =>
    bif i then
      (event_Event_Base e e2).bind fun _ =>
      (event_Leaf (iadd .u64 e 1)).bind fun (n, n2) =>
      some (n, T_event_halves.nil, n2)
    else
      (event_Event_Left e e2).bind fun (n, t) =>
      (event_Event_Right e e2).bind fun (n2, t2) =>
      (stamp_cost N i i2 e e2).bind fun (n3, b2) =>
      bif b2 then
        (id_ID_Right i i2).bind fun (b3, t3) =>
        (rec_stamp_grow b3 t3 n2 t2).bind fun (n4, t4, n5) =>
        bif (decide ((n5 : Int) = 0)) then
          (event_Event_Base e e2).bind fun _ =>
          (event_Node N e n t n4 t4).bind fun (n6, t5, n7) =>
          some (n6, t5, n7)
        else
          some (e, e2, n5)
      else
        (id_ID_Left i i2).bind fun (b3, t3) =>
        (rec_stamp_grow b3 t3 n t).bind fun (n4, t4, n5) =>
        bif (decide ((n5 : Int) = 0)) then
          (event_Event_Base e e2).bind fun _ =>
          (event_Node N e n4 t4 n2 t2).bind fun (n6, t5, n7) =>
          some (n6, t5, n7)
        else
          some (e, e2, n5)
  else
    (event_Event_Left e e2).bind fun (n, t) =>
    (event_Event_Right e e2).bind fun (n2, t2) =>
    (stamp_cost N i i2 e e2).bind fun (n3, b2) =>
    bif b2 then
      (id_ID_Right i i2).bind fun (b3, t3) =>
      (rec_stamp_grow b3 t3 n2 t2).bind fun (n4, t4, n5) =>
      bif (decide ((n5 : Int) = 0)) then
        (event_Event_Base e e2).bind fun _ =>
        (event_Node N e n t n4 t4).bind fun (n6, t5, n7) =>
        some (n6, t5, n7)
      else
        some (e, e2, n5)
    else
      (id_ID_Left i i2).bind fun (b3, t3) =>
      (rec_stamp_grow b3 t3 n t).bind fun (n4, t4, n5) =>
      bif (decide ((n5 : Int) = 0)) then
        (event_Event_Base e e2).bind fun _ =>
        (event_Node N e n4 t4 n2 t2).bind fun (n6, t5, n7) =>
        some (n6, t5, n7)
      else
        some (e, e2, n5)
theorem stamp_grow_b_runs (N : Nat) (rec_stamp_grow : Bool → T_id_halves → Int → T_event_halves → Option (Int × T_event_halves × Int)) (hrec_stamp_grow : ∀ i i2 e e2 r_, rec_stamp_grow i i2 e e2 = some r_ → Runs Tryd.prog 102 [(.agg [(.pv (.bool i)), (.pv (T_id_halves.pv i2))]), (.agg [(.pv (.int .u64 e)), (.pv (T_event_halves.pv e2))])] [] [] (stamp_grow_out i i2 e e2 r_)) (i : Bool) (i2 : T_id_halves) (e : Int) (e2 : T_event_halves) (r_ : Int × T_event_halves × Int) (h : stamp_grow_b N rec_stamp_grow i i2 e e2 = some r_) : Runs Tryd.prog 102 [(.agg [(.pv (.bool i)), (.pv (T_id_halves.pv i2))]), (.agg [(.pv (.int .u64 e)), (.pv (T_event_halves.pv e2))])] [] [] (stamp_grow_out i i2 e e2 r_) := by
  unfold stamp_grow_b at h
  obtain ⟨b, h1, h⟩ := bind_of h
  rcases cond_of h with ⟨h2, h⟩ | ⟨h2, h⟩
  · obtain ⟨_, h3, h⟩ := bind_of h
    rcases cond_of h with ⟨h4, h⟩ | ⟨h4, h⟩
    · obtain ⟨_, h5, h⟩ := bind_of h
      obtain ⟨⟨n, n2⟩, h6, h⟩ := bind_of h
      have h := some_of h
      subst h
      exact runs_of (C := cfg) (objs := []) (sc := [.res (event_Event_IsLeaf_out e e2 b), .br true, .res (id_ID_IsOne_out i i2 ()), .br true, .res (event_Event_Base_out e e2 ()), .res (event_Leaf_out (iadd .u64 e 1) (n, n2))]) (.k0 (an_ (event_Event_IsLeaf_runs e e2 _ h1) (an_ h2 (an_ (id_ID_IsOne_runs i i2 _ h3) (an_ h4 (an_ (event_Event_Base_runs e e2 _ h5) (an_ (event_Leaf_runs (iadd .u64 e 1) _ h6) trivial)))))) (by kernel_rfl))
    · obtain ⟨⟨n, t⟩, h5, h⟩ := bind_of h
      obtain ⟨⟨n2, t2⟩, h6, h⟩ := bind_of h
      obtain ⟨⟨n3, b2⟩, h7, h⟩ := bind_of h
      rcases cond_of h with ⟨h8, h⟩ | ⟨h8, h⟩
      · obtain ⟨⟨b3, t3⟩, h9, h⟩ := bind_of h
        obtain ⟨⟨n4, t4, n5⟩, h10, h⟩ := bind_of h
        rcases cond_of h with ⟨h11, h⟩ | ⟨h11, h⟩
        · obtain ⟨_, h12, h⟩ := bind_of h
          obtain ⟨⟨n6, t5, n7⟩, h13, h⟩ := bind_of h
          have h := some_of h
          subst h
          exact runs_of (C := cfg) (objs := []) (sc := [.res (event_Event_IsLeaf_out e e2 b), .br true, .res (id_ID_IsOne_out i i2 ()), .br false, .res (event_Event_Left_out e e2 (n, t)), .res (event_Event_Left_out e e2 (n, t)), .res (event_Event_Left_out e e2 (n, t)), .res (event_Event_Left_out e e2 (n, t)), .res (event_Event_Left_out e e2 (n, t)), .res (event_Event_Left_out e e2 (n, t)), .res (event_Event_Left_out e e2 (n, t)), .res (event_Event_Right_out e e2 (n2, t2)), .res (event_Event_Right_out e e2 (n2, t2)), .res (event_Event_Right_out e e2 (n2, t2)), .res (event_Event_Left_out e e2 (n, t)), .res (event_Event_Right_out e e2 (n2, t2)), .res (stamp_cost_out i i2 e e2 (n3, b2)), .br true, .res (id_ID_Right_out i i2 (b3, t3)), .res (id_ID_Right_out i i2 (b3, t3)), .res (stamp_grow_out b3 t3 n2 t2 (n4, t4, n5)), .br false, .res (event_Event_Base_out e e2 ()), .res (event_Event_Base_out e e2 ()), .res (event_Event_Base_out e e2 ()), .res (event_Event_Base_out e e2 ()), .res (event_Node_out e n t n4 t4 (n6, t5, n7))]) (.k1 (an_ (event_Event_IsLeaf_runs e e2 _ h1) (an_ h2 (an_ (id_ID_IsOne_runs i i2 _ h3) (an_ h4 (an_ (event_Event_Left_runs e e2 _ h5) (an_ (event_Event_Left_runs e e2 _ h5) (an_ (event_Event_Left_runs e e2 _ h5) (an_ (event_Event_Left_runs e e2 _ h5) (an_ (event_Event_Left_runs e e2 _ h5) (an_ (event_Event_Left_runs e e2 _ h5) (an_ (event_Event_Left_runs e e2 _ h5) (an_ (event_Event_Right_runs e e2 _ h6) (an_ (event_Event_Right_runs e e2 _ h6) (an_ (event_Event_Right_runs e e2 _ h6) (an_ (event_Event_Left_runs e e2 _ h5) (an_ (event_Event_Right_runs e e2 _ h6) (an_ (stamp_cost_runs N i i2 e e2 _ h7) (an_ h8 (an_ (id_ID_Right_runs i i2 _ h9) (an_ (id_ID_Right_runs i i2 _ h9) (an_ (hrec_stamp_grow b3 t3 n2 t2 _ h10) (an_ (not_of2 h11) (an_ (event_Event_Base_runs e e2 _ h12) (an_ (event_Event_Base_runs e e2 _ h12) (an_ (event_Event_Base_runs e e2 _ h12) (an_ (event_Event_Base_runs e e2 _ h12) (an_ (event_Node_runs N e n t n4 t4 _ h13) trivial))))))))))))))))))))))))))) (by kernel_rfl) (by kernel_rfl))
        · have h := some_of h
          subst h
          exact runs_of (C := cfg) (objs := []) (sc := [.res (event_Event_IsLeaf_out e e2 b), .br true, .res (id_ID_IsOne_out i i2 ()), .br false, .res (event_Event_Left_out e e2 (n, t)), .res (event_Event_Left_out e e2 (n, t)), .res (event_Event_Left_out e e2 (n, t)), .res (event_Event_Left_out e e2 (n, t)), .res (event_Event_Left_out e e2 (n, t)), .res (event_Event_Left_out e e2 (n, t)), .res (event_Event_Left_out e e2 (n, t)), .res (event_Event_Right_out e e2 (n2, t2)), .res (event_Event_Right_out e e2 (n2, t2)), .res (event_Event_Right_out e e2 (n2, t2)), .res (event_Event_Left_out e e2 (n, t)), .res (event_Event_Right_out e e2 (n2, t2)), .res (stamp_cost_out i i2 e e2 (n3, b2)), .br true, .res (id_ID_Right_out i i2 (b3, t3)), .res (id_ID_Right_out i i2 (b3, t3)), .res (stamp_grow_out b3 t3 n2 t2 (n4, t4, n5)), .br true]) (.k1 (an_ (event_Event_IsLeaf_runs e e2 _ h1) (an_ h2 (an_ (id_ID_IsOne_runs i i2 _ h3) (an_ h4 (an_ (event_Event_Left_runs e e2 _ h5) (an_ (event_Event_Left_runs e e2 _ h5) (an_ (event_Event_Left_runs e e2 _ h5) (an_ (event_Event_Left_runs e e2 _ h5) (an_ (event_Event_Left_runs e e2 _ h5) (an_ (event_Event_Left_runs e e2 _ h5) (an_ (event_Event_Left_runs e e2 _ h5) (an_ (event_Event_Right_runs e e2 _ h6) (an_ (event_Event_Right_runs e e2 _ h6) (an_ (event_Event_Right_runs e e2 _ h6) (an_ (event_Event_Left_runs e e2 _ h5) (an_ (event_Event_Right_runs e e2 _ h6) (an_ (stamp_cost_runs N i i2 e e2 _ h7) (an_ h8 (an_ (id_ID_Right_runs i i2 _ h9) (an_ (id_ID_Right_runs i i2 _ h9) (an_ (hrec_stamp_grow b3 t3 n2 t2 _ h10) (an_ (not_of h11) trivial)))))))))))))))))))))) (by kernel_rfl) (by kernel_rfl))
      · obtain ⟨⟨b3, t3⟩, h9, h⟩ := bind_of h
        obtain ⟨⟨n4, t4, n5⟩, h10, h⟩ := bind_of h
        rcases cond_of h with ⟨h11, h⟩ | ⟨h11, h⟩
        · obtain ⟨_, h12, h⟩ := bind_of h
          obtain ⟨⟨n6, t5, n7⟩, h13, h⟩ := bind_of h
          have h := some_of h
          subst h
          exact runs_of (C := cfg) (objs := []) (sc := [.res (event_Event_IsLeaf_out e e2 b), .br true, .res (id_ID_IsOne_out i i2 ()), .br false, .res (event_Event_Left_out e e2 (n, t)), .res (event_Event_Left_out e e2 (n, t)), .res (event_Event_Left_out e e2 (n, t)), .res (event_Event_Left_out e e2 (n, t)), .res (event_Event_Left_out e e2 (n, t)), .res (event_Event_Left_out e e2 (n, t)), .res (event_Event_Left_out e e2 (n, t)), .res (event_Event_Right_out e e2 (n2, t2)), .res (event_Event_Right_out e e2 (n2, t2)), .res (event_Event_Right_out e e2 (n2, t2)), .res (event_Event_Left_out e e2 (n, t)), .res (event_Event_Right_out e e2 (n2, t2)), .res (stamp_cost_out i i2 e e2 (n3, b2)), .br false, .res (id_ID_Left_out i i2 (b3, t3)), .res (id_ID_Left_out i i2 (b3, t3)), .res (stamp_grow_out b3 t3 n t (n4, t4, n5)), .br false, .res (event_Event_Base_out e e2 ()), .res (event_Event_Base_out e e2 ()), .res (event_Event_Base_out e e2 ()), .res (event_Event_Base_out e e2 ()), .res (event_Node_out e n4 t4 n2 t2 (n6, t5, n7))]) (.k1 (an_ (event_Event_IsLeaf_runs e e2 _ h1) (an_ h2 (an_ (id_ID_IsOne_runs i i2 _ h3) (an_ h4 (an_ (event_Event_Left_runs e e2 _ h5) (an_ (event_Event_Left_runs e e2 _ h5) (an_ (event_Event_Left_runs e e2 _ h5) (an_ (event_Event_Left_runs e e2 _ h5) (an_ (event_Event_Left_runs e e2 _ h5) (an_ (event_Event_Left_runs e e2 _ h5) (an_ (event_Event_Left_runs e e2 _ h5) (an_ (event_Event_Right_runs e e2 _ h6) (an_ (event_Event_Right_runs e e2 _ h6) (an_ (event_Event_Right_runs e e2 _ h6) (an_ (event_Event_Left_runs e e2 _ h5) (an_ (event_Event_Right_runs e e2 _ h6) (an_ (stamp_cost_runs N i i2 e e2 _ h7) (an_ h8 (an_ (id_ID_Left_runs i i2 _ h9) (an_ (id_ID_Left_runs i i2 _ h9) (an_ (hrec_stamp_grow b3 t3 n t _ h10) (an_ (not_of2 h11) (an_ (event_Event_Base_runs e e2 _ h12) (an_ (event_Event_Base_runs e e2 _ h12) (an_ (event_Event_Base_runs e e2 _ h12) (an_ (event_Event_Base_runs e e2 _ h12) (an_ (event_Node_runs N e n4 t4 n2 t2 _ h13) trivial))))))))))))))))))))))))))) (by kernel_rfl) (by kernel_rfl))
        · have h := some_of h
          subst h
          exact runs_of (C := cfg) (objs := []) (sc := [.res (event_Event_IsLeaf_out e e2 b), .br true, .res (id_ID_IsOne_out i i2 ()), .br false, .res (event_Event_Left_out e e2 (n, t)), .res (event_Event_Left_out e e2 (n, t)), .res (event_Event_Left_out e e2 (n, t)), .res (event_Event_Left_out e e2 (n, t)), .res (event_Event_Left_out e e2 (n, t)), .res (event_Event_Left_out e e2 (n, t)), .res (event_Event_Left_out e e2 (n, t)), .res (event_Event_Right_out e e2 (n2, t2)), .res (event_Event_Right_out e e2 (n2, t2)), .res (event_Event_Right_out e e2 (n2, t2)), .res (event_Event_Left_out e e2 (n, t)), .res (event_Event_Right_out e e2 (n2, t2)), .res (stamp_cost_out i i2 e e2 (n3, b2)), .br false, .res (id_ID_Left_out i i2 (b3, t3)), .res (id_ID_Left_out i i2 (b3, t3)), .res (stamp_grow_out b3 t3 n t (n4, t4, n5)), .br true]) (.k1 (an_ (event_Event_IsLeaf_runs e e2 _ h1) (an_ h2 (an_ (id_ID_IsOne_runs i i2 _ h3) (an_ h4 (an_ (event_Event_Left_runs e e2 _ h5) (an_ (event_Event_Left_runs e e2 _ h5) (an_ (event_Event_Left_runs e e2 _ h5) (an_ (event_Event_Left_runs e e2 _ h5) (an_ (event_Event_Left_runs e e2 _ h5) (an_ (event_Event_Left_runs e e2 _ h5) (an_ (event_Event_Left_runs e e2 _ h5) (an_ (event_Event_Right_runs e e2 _ h6) (an_ (event_Event_Right_runs e e2 _ h6) (an_ (event_Event_Right_runs e e2 _ h6) (an_ (event_Event_Left_runs e e2 _ h5) (an_ (event_Event_Right_runs e e2 _ h6) (an_ (stamp_cost_runs N i i2 e e2 _ h7) (an_ h8 (an_ (id_ID_Left_runs i i2 _ h9) (an_ (id_ID_Left_runs i i2 _ h9) (an_ (hrec_stamp_grow b3 t3 n t _ h10) (an_ (not_of h11) trivial)))))))))))))))))))))) (by kernel_rfl) (by kernel_rfl))
  · obtain ⟨⟨n, t⟩, h3, h⟩ := bind_of h
    obtain ⟨⟨n2, t2⟩, h4, h⟩ := bind_of h
    obtain ⟨⟨n3, b2⟩, h5, h⟩ := bind_of h
    rcases cond_of h with ⟨h6, h⟩ | ⟨h6, h⟩
    · obtain ⟨⟨b3, t3⟩, h7, h⟩ := bind_of h
      obtain ⟨⟨n4, t4, n5⟩, h8, h⟩ := bind_of h
      rcases cond_of h with ⟨h9, h⟩ | ⟨h9, h⟩
      · obtain ⟨_, h10, h⟩ := bind_of h
        obtain ⟨⟨n6, t5, n7⟩, h11, h⟩ := bind_of h
        have h := some_of h
        subst h
        exact runs_of (C := cfg) (objs := []) (sc := [.res (event_Event_IsLeaf_out e e2 b), .br false, .br false, .res (event_Event_Left_out e e2 (n, t)), .res (event_Event_Left_out e e2 (n, t)), .res (event_Event_Left_out e e2 (n, t)), .res (event_Event_Left_out e e2 (n, t)), .res (event_Event_Left_out e e2 (n, t)), .res (event_Event_Left_out e e2 (n, t)), .res (event_Event_Left_out e e2 (n, t)), .res (event_Event_Right_out e e2 (n2, t2)), .res (event_Event_Right_out e e2 (n2, t2)), .res (event_Event_Right_out e e2 (n2, t2)), .res (event_Event_Left_out e e2 (n, t)), .res (event_Event_Right_out e e2 (n2, t2)), .res (stamp_cost_out i i2 e e2 (n3, b2)), .br true, .res (id_ID_Right_out i i2 (b3, t3)), .res (id_ID_Right_out i i2 (b3, t3)), .res (stamp_grow_out b3 t3 n2 t2 (n4, t4, n5)), .br false, .res (event_Event_Base_out e e2 ()), .res (event_Event_Base_out e e2 ()), .res (event_Event_Base_out e e2 ()), .res (event_Event_Base_out e e2 ()), .res (event_Node_out e n t n4 t4 (n6, t5, n7))]) (.k1 (an_ (event_Event_IsLeaf_runs e e2 _ h1) (an_ h2 (an_ (rfl : false = false) (an_ (event_Event_Left_runs e e2 _ h3) (an_ (event_Event_Left_runs e e2 _ h3) (an_ (event_Event_Left_runs e e2 _ h3) (an_ (event_Event_Left_runs e e2 _ h3) (an_ (event_Event_Left_runs e e2 _ h3) (an_ (event_Event_Left_runs e e2 _ h3) (an_ (event_Event_Left_runs e e2 _ h3) (an_ (event_Event_Right_runs e e2 _ h4) (an_ (event_Event_Right_runs e e2 _ h4) (an_ (event_Event_Right_runs e e2 _ h4) (an_ (event_Event_Left_runs e e2 _ h3) (an_ (event_Event_Right_runs e e2 _ h4) (an_ (stamp_cost_runs N i i2 e e2 _ h5) (an_ h6 (an_ (id_ID_Right_runs i i2 _ h7) (an_ (id_ID_Right_runs i i2 _ h7) (an_ (hrec_stamp_grow b3 t3 n2 t2 _ h8) (an_ (not_of2 h9) (an_ (event_Event_Base_runs e e2 _ h10) (an_ (event_Event_Base_runs e e2 _ h10) (an_ (event_Event_Base_runs e e2 _ h10) (an_ (event_Event_Base_runs e e2 _ h10) (an_ (event_Node_runs N e n t n4 t4 _ h11) trivial)))))))))))))))))))))))))) (by kernel_rfl) (by kernel_rfl))
      · have h := some_of h
        subst h
        exact runs_of (C := cfg) (objs := []) (sc := [.res (event_Event_IsLeaf_out e e2 b), .br false, .br false, .res (event_Event_Left_out e e2 (n, t)), .res (event_Event_Left_out e e2 (n, t)), .res (event_Event_Left_out e e2 (n, t)), .res (event_Event_Left_out e e2 (n, t)), .res (event_Event_Left_out e e2 (n, t)), .res (event_Event_Left_out e e2 (n, t)), .res (event_Event_Left_out e e2 (n, t)), .res (event_Event_Right_out e e2 (n2, t2)), .res (event_Event_Right_out e e2 (n2, t2)), .res (event_Event_Right_out e e2 (n2, t2)), .res (event_Event_Left_out e e2 (n, t)), .res (event_Event_Right_out e e2 (n2, t2)), .res (stamp_cost_out i i2 e e2 (n3, b2)), .br true, .res (id_ID_Right_out i i2 (b3, t3)), .res (id_ID_Right_out i i2 (b3, t3)), .res (stamp_grow_out b3 t3 n2 t2 (n4, t4, n5)), .br true]) (.k1 (an_ (event_Event_IsLeaf_runs e e2 _ h1) (an_ h2 (an_ (rfl : false = false) (an_ (event_Event_Left_runs e e2 _ h3) (an_ (event_Event_Left_runs e e2 _ h3) (an_ (event_Event_Left_runs e e2 _ h3) (an_ (event_Event_Left_runs e e2 _ h3) (an_ (event_Event_Left_runs e e2 _ h3) (an_ (event_Event_Left_runs e e2 _ h3) (an_ (event_Event_Left_runs e e2 _ h3) (an_ (event_Event_Right_runs e e2 _ h4) (an_ (event_Event_Right_runs e e2 _ h4) (an_ (event_Event_Right_runs e e2 _ h4) (an_ (event_Event_Left_runs e e2 _ h3) (an_ (event_Event_Right_runs e e2 _ h4) (an_ (stamp_cost_runs N i i2 e e2 _ h5) (an_ h6 (an_ (id_ID_Right_runs i i2 _ h7) (an_ (id_ID_Right_runs i i2 _ h7) (an_ (hrec_stamp_grow b3 t3 n2 t2 _ h8) (an_ (not_of h9) trivial))))))))))))))))))))) (by kernel_rfl) (by kernel_rfl))
    · obtain ⟨⟨b3, t3⟩, h7, h⟩ := bind_of h
      obtain ⟨⟨n4, t4, n5⟩, h8, h⟩ := bind_of h
      rcases cond_of h with ⟨h9, h⟩ | ⟨h9, h⟩
      · obtain ⟨_, h10, h⟩ := bind_of h
        obtain ⟨⟨n6, t5, n7⟩, h11, h⟩ := bind_of h
        have h := some_of h
        subst h
        exact runs_of (C := cfg) (objs := []) (sc := [.res (event_Event_IsLeaf_out e e2 b), .br false, .br false, .res (event_Event_Left_out e e2 (n, t)), .res (event_Event_Left_out e e2 (n, t)), .res (event_Event_Left_out e e2 (n, t)), .res (event_Event_Left_out e e2 (n, t)), .res (event_Event_Left_out e e2 (n, t)), .res (event_Event_Left_out e e2 (n, t)), .res (event_Event_Left_out e e2 (n, t)), .res (event_Event_Right_out e e2 (n2, t2)), .res (event_Event_Right_out e e2 (n2, t2)), .res (event_Event_Right_out e e2 (n2, t2)), .res (event_Event_Left_out e e2 (n, t)), .res (event_Event_Right_out e e2 (n2, t2)), .res (stamp_cost_out i i2 e e2 (n3, b2)), .br false, .res (id_ID_Left_out i i2 (b3, t3)), .res (id_ID_Left_out i i2 (b3, t3)), .res (stamp_grow_out b3 t3 n t (n4, t4, n5)), .br false, .res (event_Event_Base_out e e2 ()), .res (event_Event_Base_out e e2 ()), .res (event_Event_Base_out e e2 ()), .res (event_Event_Base_out e e2 ()), .res (event_Node_out e n4 t4 n2 t2 (n6, t5, n7))]) (.k1 (an_ (event_Event_IsLeaf_runs e e2 _ h1) (an_ h2 (an_ (rfl : false = false) (an_ (event_Event_Left_runs e e2 _ h3) (an_ (event_Event_Left_runs e e2 _ h3) (an_ (event_Event_Left_runs e e2 _ h3) (an_ (event_Event_Left_runs e e2 _ h3) (an_ (event_Event_Left_runs e e2 _ h3) (an_ (event_Event_Left_runs e e2 _ h3) (an_ (event_Event_Left_runs e e2 _ h3) (an_ (event_Event_Right_runs e e2 _ h4) (an_ (event_Event_Right_runs e e2 _ h4) (an_ (event_Event_Right_runs e e2 _ h4) (an_ (event_Event_Left_runs e e2 _ h3) (an_ (event_Event_Right_runs e e2 _ h4) (an_ (stamp_cost_runs N i i2 e e2 _ h5) (an_ h6 (an_ (id_ID_Left_runs i i2 _ h7) (an_ (id_ID_Left_runs i i2 _ h7) (an_ (hrec_stamp_grow b3 t3 n t _ h8) (an_ (not_of2 h9) (an_ (event_Event_Base_runs e e2 _ h10) (an_ (event_Event_Base_runs e e2 _ h10) (an_ (event_Event_Base_runs e e2 _ h10) (an_ (event_Event_Base_runs e e2 _ h10) (an_ (event_Node_runs N e n4 t4 n2 t2 _ h11) trivial)))))))))))))))))))))))))) (by kernel_rfl) (by kernel_rfl))
      · have h := some_of h
        subst h
        exact runs_of (C := cfg) (objs := []) (sc := [.res (event_Event_IsLeaf_out e e2 b), .br false, .br false, .res (event_Event_Left_out e e2 (n, t)), .res (event_Event_Left_out e e2 (n, t)), .res (event_Event_Left_out e e2 (n, t)), .res (event_Event_Left_out e e2 (n, t)), .res (event_Event_Left_out e e2 (n, t)), .res (event_Event_Left_out e e2 (n, t)), .res (event_Event_Left_out e e2 (n, t)), .res (event_Event_Right_out e e2 (n2, t2)), .res (event_Event_Right_out e e2 (n2, t2)), .res (event_Event_Right_out e e2 (n2, t2)), .res (event_Event_Left_out e e2 (n, t)), .res (event_Event_Right_out e e2 (n2, t2)), .res (stamp_cost_out i i2 e e2 (n3, b2)), .br false, .res (id_ID_Left_out i i2 (b3, t3)), .res (id_ID_Left_out i i2 (b3, t3)), .res (stamp_grow_out b3 t3 n t (n4, t4, n5)), .br true]) (.k1 (an_ (event_Event_IsLeaf_runs e e2 _ h1) (an_ h2 (an_ (rfl : false = false) (an_ (event_Event_Left_runs e e2 _ h3) (an_ (event_Event_Left_runs e e2 _ h3) (an_ (event_Event_Left_runs e e2 _ h3) (an_ (event_Event_Left_runs e e2 _ h3) (an_ (event_Event_Left_runs e e2 _ h3) (an_ (event_Event_Left_runs e e2 _ h3) (an_ (event_Event_Left_runs e e2 _ h3) (an_ (event_Event_Right_runs e e2 _ h4) (an_ (event_Event_Right_runs e e2 _ h4) (an_ (event_Event_Right_runs e e2 _ h4) (an_ (event_Event_Left_runs e e2 _ h3) (an_ (event_Event_Right_runs e e2 _ h4) (an_ (stamp_cost_runs N i i2 e e2 _ h5) (an_ h6 (an_ (id_ID_Left_runs i i2 _ h7) (an_ (id_ID_Left_runs i i2 _ h7) (an_ (hrec_stamp_grow b3 t3 n t _ h8) (an_ (not_of h9) trivial))))))))))))))))))))) (by kernel_rfl) (by kernel_rfl))
noncomputable def stamp_grow : Nat → Bool → T_id_halves → Int → T_event_halves → Option (Int × T_event_halves × Int)
  | 0, _, _, _, _ => none
  | N + 1, i, i2, e, e2 => stamp_grow_b N (stamp_grow N) i i2 e e2
theorem stamp_grow_runs : ∀ (N : Nat) (i : Bool) (i2 : T_id_halves) (e : Int) (e2 : T_event_halves) (r_ : Int × T_event_halves × Int), stamp_grow N i i2 e e2 = some r_ → Runs Tryd.prog 102 [(.agg [(.pv (.bool i)), (.pv (T_id_halves.pv i2))]), (.agg [(.pv (.int .u64 e)), (.pv (T_event_halves.pv e2))])] [] [] (stamp_grow_out i i2 e e2 r_)
  | 0, _, _, _, _, _, h => by cases h
  | N + 1, i, i2, e, e2, r_, h => stamp_grow_b_runs N (stamp_grow N) (stamp_grow_runs N) i i2 e e2 r_ h
/-! ### stamp_Grow -/
noncomputable def stamp_Grow (N : Nat) (i : Bool) (i2 : T_id_halves) (e : Int) (e2 : T_event_halves) : Option (Int × T_event_halves × Int × Int) :=
  (id_ID_IsZero i i2).bind fun b =>
  bif b then
    some (e, e2, 0, 2)
  else
    (stamp_cost N i i2 e e2).bind fun (n, b2) =>
    (stamp_grow N i i2 e e2).bind fun (n2, t, n3) =>
    bif (decide ((n3 : Int) = 0)) then
      some (n2, t, n, 0)
    else
      some (e, e2, n, n3)
theorem stamp_Grow_runs (N : Nat) (i : Bool) (i2 : T_id_halves) (e : Int) (e2 : T_event_halves) (r_ : Int × T_event_halves × Int × Int) (h : stamp_Grow N i i2 e e2 = some r_) : Runs Tryd.prog 24 [(.agg [(.pv (.bool i)), (.pv (T_id_halves.pv i2))]), (.agg [(.pv (.int .u64 e)), (.pv (T_event_halves.pv e2))])] [] [] (stamp_Grow_out i i2 e e2 r_) := by
  unfold stamp_Grow at h
  obtain ⟨b, h1, h⟩ := bind_of h
  rcases cond_of h with ⟨h2, h⟩ | ⟨h2, h⟩
  · have h := some_of h
    subst h
    exact runs_of (C := cfg) (objs := []) (sc := [.res (id_ID_IsZero_out i i2 b), .br true]) (.k0 (an_ (id_ID_IsZero_runs i i2 _ h1) (an_ h2 trivial)) (by kernel_rfl))
  · obtain ⟨⟨n, b2⟩, h3, h⟩ := bind_of h
    obtain ⟨⟨n2, t, n3⟩, h4, h⟩ := bind_of h
    rcases cond_of h with ⟨h5, h⟩ | ⟨h5, h⟩
    · have h := some_of h
      subst h
      exact runs_of (C := cfg) (objs := []) (sc := [.res (id_ID_IsZero_out i i2 b), .br false, .res (stamp_cost_out i i2 e e2 (n, b2)), .res (stamp_grow_out i i2 e e2 (n2, t, n3)), .br false]) (.k0 (an_ (id_ID_IsZero_runs i i2 _ h1) (an_ h2 (an_ (stamp_cost_runs N i i2 e e2 _ h3) (an_ (stamp_grow_runs N i i2 e e2 _ h4) (an_ (not_of2 h5) trivial))))) (by kernel_rfl))
    · have h := some_of h
      subst h
      exact runs_of (C := cfg) (objs := []) (sc := [.res (id_ID_IsZero_out i i2 b), .br false, .res (stamp_cost_out i i2 e e2 (n, b2)), .res (stamp_grow_out i i2 e e2 (n2, t, n3)), .br true]) (.k0 (an_ (id_ID_IsZero_runs i i2 _ h1) (an_ h2 (an_ (stamp_cost_runs N i i2 e e2 _ h3) (an_ (stamp_grow_runs N i i2 e e2 _ h4) (an_ (not_of h5) trivial))))) (by kernel_rfl))
/-! ### stamp_Stamp_Tick -/
noncomputable def stamp_Stamp_Tick (N : Nat) (s : Bool) (s2 : T_id_halves) (s3 : Int) (s4 : T_event_halves) : Option (Int × T_event_halves × Int) :=
  (stamp_Fill N s s2 s3 s4).bind fun (n, t) =>
  (event_Same N n t s3 s4).bind fun b =>
  bif b then
    (stamp_Grow N s s2 s3 s4).bind fun (n2, t2, n3, n4) =>
    some (n2, t2, n4)
  else
    some (n, t, 0)
theorem stamp_Stamp_Tick_runs (N : Nat) (s : Bool) (s2 : T_id_halves) (s3 : Int) (s4 : T_event_halves) (r_ : Int × T_event_halves × Int) (h : stamp_Stamp_Tick N s s2 s3 s4 = some r_) : Runs Tryd.prog 33 [(.agg [(.pv (.bool s)), (.pv (T_id_halves.pv s2)), (.pv (.int .u64 s3)), (.pv (T_event_halves.pv s4))])] [] [] (stamp_Stamp_Tick_out s s2 s3 s4 r_) := by
  unfold stamp_Stamp_Tick at h
  obtain ⟨⟨n, t⟩, h1, h⟩ := bind_of h
  obtain ⟨b, h2, h⟩ := bind_of h
  rcases cond_of h with ⟨h3, h⟩ | ⟨h3, h⟩
  · obtain ⟨⟨n2, t2, n3, n4⟩, h4, h⟩ := bind_of h
    have h := some_of h
    subst h
    exact runs_of (C := cfg) (objs := []) (sc := [.res (stamp_Fill_out s s2 s3 s4 (n, t)), .res (event_Same_out n t s3 s4 b), .br false, .res (stamp_Grow_out s s2 s3 s4 (n2, t2, n3, n4))]) (.k0 (an_ (stamp_Fill_runs N s s2 s3 s4 _ h1) (an_ (event_Same_runs N n t s3 s4 _ h2) (an_ (not_of2 h3) (an_ (stamp_Grow_runs N s s2 s3 s4 _ h4) trivial)))) (by kernel_rfl))
  · have h := some_of h
    subst h
    exact runs_of (C := cfg) (objs := []) (sc := [.res (stamp_Fill_out s s2 s3 s4 (n, t)), .res (event_Same_out n t s3 s4 b), .br true]) (.k0 (an_ (stamp_Fill_runs N s s2 s3 s4 _ h1) (an_ (event_Same_runs N n t s3 s4 _ h2) (an_ (not_of h3) trivial))) (by kernel_rfl))
/-! ### stamp_Stamp_Text_out -/
def stamp_Stamp_Text_out (s : Bool) (s2 : T_id_halves) (s3 : Int) (s4 : T_event_halves) : ByteArray → Res
  | r1 => ([(.one (.pv (.str r1)))], [], [])
/-! ### id_ID_Text_out -/
def id_ID_Text_out (i : Bool) (i2 : T_id_halves) : ByteArray → Res
  | r1 => ([(.one (.pv (.str r1)))], [], [])

end Go.Proofs.YtjjakdmcnkldoaaDoor
