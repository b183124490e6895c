/- What functions compute, and that they do. -/
import Derived.Test.YtjjakdmcnkldoaaDoorCCfg
import Derived.Test.YtjjakdmcnkldoaaDoorSM2
import Derived.Test.YtjjakdmcnkldoaaDoorCTell
set_option linter.unusedVariables false
set_option linter.unusedSimpArgs false
set_option maxRecDepth 100000
namespace Go.Proofs.YtjjakdmcnkldoaaDoor
open Go.Ev

/-! ### bytes_Clone -/
theorem bytes_Clone_nil  : evFn Tryd.prog cfg (Runs Tryd.prog) (LRuns Tryd.prog (lEnv Tryd.prog cfg 120 0).nt 0) 120 [(.one (.pv .nils))] [] []
    [.br true] =
  some (([(.one (.pv .nils))], [], []), obs [
    true = true]) := by kernel_rfl
theorem bytes_Clone_emp  : evFn Tryd.prog cfg (Runs Tryd.prog) (LRuns Tryd.prog (lEnv Tryd.prog cfg 120 0).nt 0) 120 [(.one (.pv .emp))] [] []
    [.br false, .br true] =
  some (([(.one (.own 0 0 0 false))], [], [(.ints .u8 [])]), obs [
    false = false,
    true = true]) := by kernel_rfl
theorem bytes_Clone_fn (l : List Int) (t : Bool) : evFn Tryd.prog cfg (Runs Tryd.prog) (LRuns Tryd.prog (lEnv Tryd.prog cfg 120 0).nt 0) 120 [(.one (.pv (.ints .u8 l t)))] [] []
    [.br false, .br false] =
  some (([(.one (.own 0 0 (([] ++ l)).length false))], [], [(.ints .u8 ([] ++ l))]), obs [
    (!(Nat.beq (l).length 0)) = true,
    false = false,
    (!(Nat.beq (l).length 0)) = true,
    (fits (([] ++ l)).length) = true]) := by kernel_rfl
theorem bytes_Clone_runs {l : List Int} {t : Bool} (hl : fits l.length = true) : Runs Tryd.prog 120 [.one (.pv (.ints .u8 l t))] [] [] ([.one (.pv (.ints .u8 l false))], [], []) := by
  cases l with
  | nil =>
    have h1 : Runs Tryd.prog 120 [.one (.pv .nils)] [] [] ([.one (.pv (.ints .u8 [] false))], [], []) := by
      have h0 : Runs Tryd.prog 120 [.one (.pv .nils)] [] [] ([.one (.pv .nils)], [], []) := runs_of (Says.of bytes_Clone_nil ⟨rfl, trivial⟩)
      refine h0.res rfl (Nat.zero_le _) fun y v hs hv => ⟨y, rfl, Ext.refl y, rfl, hs, nils_ints hv⟩
    have h2 : Runs Tryd.prog 120 [.one (.pv .emp)] [] [] ([.one (.pv (.ints .u8 [] false))], [], []) :=
      Runs.close0 (rw := .ints .u8 []) (runs_of (Says.of bytes_Clone_emp ⟨rfl, rfl, trivial⟩)) rfl
    refine h1.split h2 fun x vals hr => ?_
    match vals, hr with
    | [v], hr =>
      rcases rep_empty hr.1 with h | h
      · exact .inl ⟨h, trivial⟩
      · exact .inr ⟨h, trivial⟩
  | cons a l =>
    have H := bytes_Clone_fn (a :: l) t
    rw [List.nil_append] at H
    exact Runs.close0 (rw := .ints .u8 (a :: l)) (runs_of (Says.of H ⟨by simp [Nat.beq], rfl, by simp [Nat.beq], hl, trivial⟩)) rfl
/-! ### kinfolklaw07_CodeReads_out -/
def kinfolklaw07_CodeReads_out (p : List Int) : Bool → Res
  | r1 => ([(.one (.pv (.bool r1)))], [], [])
/-! ### kinfolklaw07_awake_out -/
def kinfolklaw07_awake_out : Bool → Res
  | r1 => ([(.one (.pv (.bool r1)))], [], [])
/-! ### stamp_Seed_out -/
def stamp_Seed_out : Unit → Res
  | _ => ([(.agg [(.pv (.bool true)), (.pv (T_id_halves.pv T_id_halves.nil)), (.pv (.int .u64 0)), (.pv (T_event_halves.pv T_event_halves.nil))])], [], [])
/-! ### id_One_out -/
def id_One_out : Unit → Res
  | _ => ([(.agg [(.pv (.bool true)), (.pv (T_id_halves.pv T_id_halves.nil))])], [], [])
/-! ### id_One -/
noncomputable def id_One : Option (Unit) :=
  some ()
theorem id_One_runs (r_ : Unit) (h : id_One = some r_) : Runs Tryd.prog 32 [] [] [] (id_One_out r_) := by
  unfold id_One at h
  have h := some_of h
  subst h
  have t_ := tN
  have e_ : Runs Tryd.prog 32 [] [] [] ([(.agg [(.pv (.bool true)), (.pv .nilp)])], [], []) := runs_of (C := cfg) (objs := []) (sc := t_.ev) (.k0 t_.pf (by kernel_rfl))
  exact e_.out ⟨⟨.eq rfl, .eq rfl, trivial⟩, trivial⟩ trivial trivial rfl
/-! ### stamp_Seed -/
noncomputable def stamp_Seed : Option (Unit) :=
  (id_One).bind fun _ =>
  some ()
theorem stamp_Seed_runs (r_ : Unit) (h : stamp_Seed = some r_) : Runs Tryd.prog 35 [] [] [] (stamp_Seed_out r_) := by
  unfold stamp_Seed at h
  obtain ⟨_, h1, h⟩ := bind_of h
  have h := some_of h
  subst h
  have t_ := tR (id_One_runs _ h1) <| tN
  have e_ : Runs Tryd.prog 35 [] [] [] ([(.agg [(.pv (.bool true)), (.pv (T_id_halves.pv T_id_halves.nil)), (.pv (.int .u64 0)), (.pv .nilp)])], [], []) := runs_of (C := cfg) (objs := []) (sc := t_.ev) (.k0 t_.pf (by kernel_rfl))
  exact e_.out ⟨⟨.eq rfl, .eq rfl, .eq rfl, .eq rfl, trivial⟩, trivial⟩ trivial trivial rfl
/-! ### code_Stamp_out -/
def code_Stamp_out (s : Bool) (s2 : T_id_halves) (s3 : Int) (s4 : T_event_halves) : List Int → Res
  | r1 => ([(.one (.pv (.ints .u8 r1 false)))], [], [])
/-! ### bits_NewWriter_out -/
def bits_NewWriter_out : Unit → Res
  | _ => ([(.one (.ref 0 0))], [[(.pv .nils), (.pv (.int .i64 0))]], [])
/-! ### bits_NewWriter -/
noncomputable def bits_NewWriter : Option (Unit) :=
  some ()
theorem bits_NewWriter_runs (r_ : Unit) (h : bits_NewWriter = some r_) : Runs Tryd.prog 133 [] [] [] (bits_NewWriter_out r_) := by
  unfold bits_NewWriter at h
  have h := some_of h
  subst h
  have t_ := tN
  exact runs_of (C := cfg) (objs := []) (sc := t_.ev) (.k0 t_.pf (by kernel_rfl))
/-! ### code_PutID_out -/
def code_PutID_out (i : Bool) (i2 : T_id_halves) (n : Int) : Int × List Int → Res
  | (r1, r2) => ([], [[(.own 0 0 (r2).length false), (.pv (.int .i64 r1))]], [(.ints .u8 r2)])
/-! ### id_ID_Left_out -/
def id_ID_Left_out (i : Bool) (i2 : T_id_halves) : Bool × T_id_halves → Res
  | (r1, r2) => ([(.agg [(.pv (.bool r1)), (.pv (T_id_halves.pv r2))])], [], [])
/-! ### id_ID_Left -/
noncomputable def id_ID_Left (i : Bool) (i2 : T_id_halves) : Option (Bool × T_id_halves) :=
  match i2 with
  | .nil =>
    some (i, i2)
  | .mk b t b2 t2 =>
    some (b, t)
theorem id_ID_Left_runs (i : Bool) (i2 : T_id_halves) (r_ : Bool × T_id_halves) (h : id_ID_Left i i2 = some r_) : Runs Tryd.prog 93 [(.agg [(.pv (.bool i)), (.pv (T_id_halves.pv i2))])] [] [] (id_ID_Left_out i i2 r_) := by
  unfold id_ID_Left at h
  cases i2 with
  | nil =>
    have h := some_of h
    subst h
    have t_ := tT (rfl : true = true) <| tN
    exact runs_of (C := cfg) (objs := []) (sc := t_.ev) (.k0 t_.pf (by kernel_rfl))
  | mk b t b2 t2 =>
    have h := some_of h
    subst h
    have t_ := tF (rfl : false = false) <| tN
    exact runs_of (C := cfg) (objs := []) (sc := t_.ev) (.k0 t_.pf (by kernel_rfl))
/-! ### id_ID_Right_out -/
def id_ID_Right_out (i : Bool) (i2 : T_id_halves) : Bool × T_id_halves → Res
  | (r1, r2) => ([(.agg [(.pv (.bool r1)), (.pv (T_id_halves.pv r2))])], [], [])
/-! ### id_ID_Right -/
noncomputable def id_ID_Right (i : Bool) (i2 : T_id_halves) : Option (Bool × T_id_halves) :=
  match i2 with
  | .nil =>
    some (i, i2)
  | .mk b t b2 t2 =>
    some (b2, t2)
theorem id_ID_Right_runs (i : Bool) (i2 : T_id_halves) (r_ : Bool × T_id_halves) (h : id_ID_Right i i2 = some r_) : Runs Tryd.prog 94 [(.agg [(.pv (.bool i)), (.pv (T_id_halves.pv i2))])] [] [] (id_ID_Right_out i i2 r_) := by
  unfold id_ID_Right at h
  cases i2 with
  | nil =>
    have h := some_of h
    subst h
    have t_ := tT (rfl : true = true) <| tN
    exact runs_of (C := cfg) (objs := []) (sc := t_.ev) (.k0 t_.pf (by kernel_rfl))
  | mk b t b2 t2 =>
    have h := some_of h
    subst h
    have t_ := tF (rfl : false = false) <| tN
    exact runs_of (C := cfg) (objs := []) (sc := t_.ev) (.k0 t_.pf (by kernel_rfl))
/-! ### id_ID_IsZero_out -/
def id_ID_IsZero_out (i : Bool) (i2 : T_id_halves) : Bool → Res
  | r1 => ([(.one (.pv (.bool r1)))], [], [])
/-! ### id_ID_IsZero -/
noncomputable def id_ID_IsZero (i : Bool) (i2 : T_id_halves) : Option (Bool) :=
  bif i then
    some false
  else
    match i2 with
    | .nil =>
      some true
    | .mk b t b2 t2 =>
      some false
theorem id_ID_IsZero_runs (i : Bool) (i2 : T_id_halves) (r_ : Bool) (h : id_ID_IsZero i i2 = some r_) : Runs Tryd.prog 40 [(.agg [(.pv (.bool i)), (.pv (T_id_halves.pv i2))])] [] [] (id_ID_IsZero_out i i2 r_) := by
  unfold id_ID_IsZero at h
  rcases cond_of h with ⟨h1, h⟩ | ⟨h1, h⟩
  · have h := some_of h
    subst h
    have t_ := tF (not_of2 h1) <| tN
    exact runs_of (C := cfg) (objs := []) (sc := t_.ev) (.k0 t_.pf (by kernel_rfl))
  · cases i2 with
    | nil =>
      have h := some_of h
      subst h
      have t_ := tT (not_of h1) <| tN
      exact runs_of (C := cfg) (objs := []) (sc := t_.ev) (.k0 t_.pf (by kernel_rfl))
    | mk b t b2 t2 =>
      have h := some_of h
      subst h
      have t_ := tT (not_of h1) <| tN
      exact runs_of (C := cfg) (objs := []) (sc := t_.ev) (.k0 t_.pf (by kernel_rfl))
/-! ### bits_Writer_Put_out -/
def bits_Writer_Put_out (n : Int) (k : Int) (n2 : Int) : Int × List Int → Res
  | (r1, r2) => ([], [[(.own 0 0 (r2).length false), (.pv (.int .i64 r1))]], [(.ints .u8 r2)])
/-! ### bits_within_out -/
def bits_within_out (k : Int) : Int → Res
  | r1 => ([(.one (.pv (.int .i64 r1)))], [], [])
/-! ### bits_within -/
noncomputable def bits_within (k : Int) : Option (Int) :=
  some (if (64 : Int) < (if (k : Int) < 0 then 0 else k) then 64 else (if (k : Int) < 0 then 0 else k))
theorem bits_within_runs (k : Int) (r_ : Int) (h : bits_within k = some r_) : Runs Tryd.prog 127 [(.one (.pv (.int .i64 k)))] [] [] (bits_within_out k r_) := by
  unfold bits_within at h
  have h := some_of h
  subst h
  have t_ := tN
  exact runs_of (C := cfg) (objs := []) (sc := t_.ev) (.k0 t_.pf (by kernel_rfl))
/-! ### bits_Writer_Put_L0_2 -/
def bits_Writer_Put_L0_2_st (n : Int) : Int × Int × List Int → St
  | (i, n2, l) => ⟨[(0, (.av (.one (.ref 0 0)))), (1, (.av (.one (.pv (.int .u64 n))))), (6, (.av (.one (.pv (.int .i64 i)))))], [(0, [(.own 0 0 (l).length false), (.pv (.int .i64 n2))])], [(0, (.live (.ints .u8 l)))]⟩
def bits_Writer_Put_L0_2_ex (n : Int) : Int × List Int → Ex × St
  | (r1, r2) => ((.exit 0), ⟨[], [(0, [(.own 0 0 (r2).length false), (.pv (.int .i64 r1))])], [(0, (.live (.ints .u8 r2)))]⟩)
noncomputable def bits_Writer_Put_L0_2_step (n : Int) : Int × Int × List Int → Option ((Int × Int × List Int) ⊕ (Int × List Int))
  | (i, n2, l) =>
  bif (decide ((0 : Int) ≤ i)) then
    bif (decide (((irem .i64 n2 8) : Int) = 0)) then
      bif fits ((l ++ [0])).length then
      bif decide ((0 : Int) ≤ i) then
      bif (decide (((iand .u64 (ishr .u64 n i) 1) : Int) = 1)) then
        bif decide ((0 : Int) ≤ (irem .i64 n2 8)) then
        bif decide ((0 : Int) ≤ (iquo .i64 n2 8)) && decide (((iquo .i64 n2 8) : Int) < (((l ++ [0])).length : Int)) then
        some (.inl ((isub .i64 i 1), (iadd .i64 n2 1), ((l ++ [0]).set (0 + ((iquo .i64 n2 8)).toNat) (ior .u8 ((l ++ [0]).getD (0 + ((iquo .i64 n2 8)).toNat) 0) (ishr .u8 128 (irem .i64 n2 8))))))
        else none
        else none
      else
        some (.inl ((isub .i64 i 1), (iadd .i64 n2 1), (l ++ [0])))
      else none
      else none
    else
      bif decide ((0 : Int) ≤ i) then
      bif (decide (((iand .u64 (ishr .u64 n i) 1) : Int) = 1)) then
        bif decide ((0 : Int) ≤ (irem .i64 n2 8)) then
        bif decide ((0 : Int) ≤ (iquo .i64 n2 8)) && decide (((iquo .i64 n2 8) : Int) < ((l).length : Int)) then
        some (.inl ((isub .i64 i 1), (iadd .i64 n2 1), (l.set (0 + ((iquo .i64 n2 8)).toNat) (ior .u8 (l.getD (0 + ((iquo .i64 n2 8)).toNat) 0) (ishr .u8 128 (irem .i64 n2 8))))))
        else none
        else none
      else
        some (.inl ((isub .i64 i 1), (iadd .i64 n2 1), l))
      else none
  else
    some (.inr (n2, l))
theorem bits_Writer_Put_L0_2_ok (n : Int) (s_ : Int × Int × List Int) (z_ : (Int × Int × List Int) ⊕ (Int × List Int)) (h : bits_Writer_Put_L0_2_step n s_ = some z_) : RoundOk Tryd.prog cfg 157 1 (loopAt Tryd.prog 157 0) (bits_Writer_Put_L0_2_st n) (bits_Writer_Put_L0_2_ex n) s_ z_ := by
  rcases s_ with ⟨i, n2, l⟩
  rcases cond_of h with ⟨h1, h⟩ | ⟨h1, h⟩
  · rcases cond_of h with ⟨h2, h⟩ | ⟨h2, h⟩
    · obtain ⟨h3, h⟩ := need_of h
      obtain ⟨h4, h⟩ := need_of h
      rcases cond_of h with ⟨h5, h⟩ | ⟨h5, h⟩
      · obtain ⟨h6, h⟩ := need_of h
        obtain ⟨h7, h⟩ := need_of h
        have h := some_of h
        subst h
        have t_ := tT h1 <| tO (rfl : true = true) <| tT h2 <| tO (show (Nat.beq (l).length (l).length) = true from Nat.beq_refl _) <| tO h3 <| tO h4 <| tT h5 <| tO (rfl : true = true) <| tO (rfl : true = true) <| tO (rfl : true = true) <| tO (rfl : true = true) <| tO h6 <| tO (rfl : true = true) <| tO h7 <| tO h6 <| tO h6 <| tO (rfl : true = true) <| tO (rfl : true = true) <| tO (rfl : true = true) <| tO (rfl : true = true) <| tO h6 <| tO h7 <| tO h6 <| tO h7 <| tN
        exact ⟨t_.ev, ⟨[(0, (.av (.one (.ref 0 0)))), (1, (.av (.one (.pv (.int .u64 n))))), (6, (.av (.one (.pv (.int .i64 (isub .i64 i 1))))))], [(0, [(.own 0 0 ((l ++ [0])).length false), (.pv (.int .i64 (iadd .i64 n2 1)))])], [(0, (.live (.ints .u8 ((l ++ [0]).set (0 + ((iquo .i64 n2 8)).toNat) (ior .u8 ((l ++ [0]).getD (0 + ((iquo .i64 n2 8)).toNat) 0) (ishr .u8 128 (irem .i64 n2 8)))))))]⟩, .k1 t_.pf (by kernel_rfl) (by kernel_rfl), ⟨⟨⟨_, rfl, .eq rfl⟩, ⟨_, rfl, .eq rfl⟩, ⟨_, rfl, .eq rfl⟩, trivial⟩, ⟨⟨rfl, ⟨.own (by first | rfl | (simp only [List.take_length]; done) | (simp only [List.take_length, List.length_append, List.drop_zero, List.map_append, List.map_take, List.map_drop, List.map_cons, List.map_nil, List.append_nil, List.nil_append]; done) | (simp; done)), .eq rfl, trivial⟩⟩, trivial⟩, ⟨⟨rfl, .eq rfl⟩, trivial⟩⟩⟩
      · have h := some_of h
        subst h
        have t_ := tT h1 <| tO (rfl : true = true) <| tT h2 <| tO (show (Nat.beq (l).length (l).length) = true from Nat.beq_refl _) <| tO h3 <| tO h4 <| tF h5 <| tN
        exact ⟨t_.ev, bits_Writer_Put_L0_2_st n ((isub .i64 i 1), (iadd .i64 n2 1), (l ++ [0])), .k0 t_.pf (by kernel_rfl), .same (by kernel_rfl)⟩
    · obtain ⟨h3, h⟩ := need_of h
      rcases cond_of h with ⟨h4, h⟩ | ⟨h4, h⟩
      · obtain ⟨h5, h⟩ := need_of h
        obtain ⟨h6, h⟩ := need_of h
        have h := some_of h
        subst h
        have t_ := tT h1 <| tO (rfl : true = true) <| tF h2 <| tO h3 <| tT h4 <| tO (rfl : true = true) <| tO (rfl : true = true) <| tO (rfl : true = true) <| tO (rfl : true = true) <| tO h5 <| tO (rfl : true = true) <| tO h6 <| tO h5 <| tO h5 <| tO (rfl : true = true) <| tO (rfl : true = true) <| tO (rfl : true = true) <| tO (rfl : true = true) <| tO h5 <| tO h6 <| tO h5 <| tO h6 <| tN
        exact ⟨t_.ev, ⟨[(0, (.av (.one (.ref 0 0)))), (1, (.av (.one (.pv (.int .u64 n))))), (6, (.av (.one (.pv (.int .i64 (isub .i64 i 1))))))], [(0, [(.own 0 0 (l).length false), (.pv (.int .i64 (iadd .i64 n2 1)))])], [(0, (.live (.ints .u8 (l.set (0 + ((iquo .i64 n2 8)).toNat) (ior .u8 (l.getD (0 + ((iquo .i64 n2 8)).toNat) 0) (ishr .u8 128 (irem .i64 n2 8)))))))]⟩, .k1 t_.pf (by kernel_rfl) (by kernel_rfl), ⟨⟨⟨_, rfl, .eq rfl⟩, ⟨_, rfl, .eq rfl⟩, ⟨_, rfl, .eq rfl⟩, trivial⟩, ⟨⟨rfl, ⟨.own (by first | rfl | (simp only [List.take_length]; done) | (simp only [List.take_length, List.length_append, List.drop_zero, List.map_append, List.map_take, List.map_drop, List.map_cons, List.map_nil, List.append_nil, List.nil_append]; done) | (simp; done)), .eq rfl, trivial⟩⟩, trivial⟩, ⟨⟨rfl, .eq rfl⟩, trivial⟩⟩⟩
      · have h := some_of h
        subst h
        have t_ := tT h1 <| tO (rfl : true = true) <| tF h2 <| tO h3 <| tF h4 <| tN
        exact ⟨t_.ev, bits_Writer_Put_L0_2_st n ((isub .i64 i 1), (iadd .i64 n2 1), l), .k0 t_.pf (by kernel_rfl), .same (by kernel_rfl)⟩
  · have h := some_of h
    subst h
    have t_ := tF h1 <| tN
    exact ⟨t_.ev, ⟨[(13, (.av (.one (.pv (.bool false))))), (0, (.av (.one (.ref 0 0)))), (1, (.av (.one (.pv (.int .u64 n))))), (6, (.av (.one (.pv (.int .i64 i))))), (13, (.av (.one (.pv (.bool (decide ((0 : Int) ≤ i)))))))], [(0, [(.own 0 0 (l).length false), (.pv (.int .i64 n2))])], [(0, (.live (.ints .u8 l)))]⟩, .k0 t_.pf (by kernel_rfl), ⟨trivial, ⟨⟨rfl, ⟨.eq rfl, .eq rfl, trivial⟩⟩, trivial⟩, ⟨⟨rfl, .eq rfl⟩, trivial⟩⟩⟩
theorem bits_Writer_Put_L0_2_runs (n : Int) (s_ : Int × Int × List Int) (r_ : Int × List Int) (h : runL (bits_Writer_Put_L0_2_step n) s_ = some r_) : LRuns Tryd.prog (lEnv Tryd.prog cfg 157 1).nt 1 (.loop (loopAt Tryd.prog 157 0)) (bits_Writer_Put_L0_2_st n s_) (bits_Writer_Put_L0_2_ex n r_).1 (bits_Writer_Put_L0_2_ex n r_).2 :=
  loop_run h (bits_Writer_Put_L0_2_ok n) (by intro r_; rcases r_ with ⟨r1, r2⟩ <;> simp [bits_Writer_Put_L0_2_ex])
/-! ### bits_Writer_Put -/
noncomputable def bits_Writer_Put (n : Int) (k : Int) (n2 : Int) : Option (Int × List Int) :=
  (bits_within k).bind fun n3 =>
  (runL (bits_Writer_Put_L0_2_step n) ((isub .i64 n3 1), n2, [])).bind fun (n4, l_) =>
  some (n4, l_)
theorem bits_Writer_Put_runs (n : Int) (k : Int) (n2 : Int) (r_ : Int × List Int) (h : bits_Writer_Put n k n2 = some r_) : Runs Tryd.prog 157 [(.one (.ref 0 0)), (.one (.pv (.int .u64 n))), (.one (.pv (.int .i64 k)))] [[(.pv .nils), (.pv (.int .i64 n2))]] [] (bits_Writer_Put_out n k n2 r_) := by
  unfold bits_Writer_Put at h
  obtain ⟨n3, h1, h⟩ := bind_of h
  obtain ⟨⟨n4, l_⟩, h2, h⟩ := bind_of h
  have h := some_of h
  subst h
  have t_ := tF (rfl : false = false) <| tR (bits_within_runs k _ h1) <| tL (LRuns.coe (s0 := ⟨[(0, (.av (.one (.ref 0 0)))), (1, (.av (.one (.pv (.int .u64 n))))), (6, (.av (.one (.pv (.int .i64 (isub .i64 n3 1))))))], [(0, [(.own 0 0 0 false), (.pv (.int .i64 n2))])], [(0, (.live (.ints .u8 [])))]⟩) (bits_Writer_Put_L0_2_runs n _ _ h2) ⟨⟨⟨_, rfl, .eq rfl⟩, ⟨_, rfl, .eq rfl⟩, ⟨_, rfl, .eq rfl⟩, trivial⟩, ⟨⟨rfl, ⟨.own (by first | rfl | (simp only [List.take_length]; done) | (simp only [List.take_length, List.length_append, List.drop_zero, List.map_append, List.map_take, List.map_drop, List.map_cons, List.map_nil, List.append_nil, List.nil_append]; done) | (simp; done)), .eq rfl, trivial⟩⟩, trivial⟩, ⟨⟨rfl, .eq rfl⟩, trivial⟩⟩) <| tN
  exact runs_of (C := cfg) (objs := [[(.pv .nils), (.pv (.int .i64 n2))]]) (sc := t_.ev) (.k0 t_.pf (by kernel_rfl))
/-! ### bits_Writer_Put_2_out -/
def bits_Writer_Put_2_out (n : Int) (k : Int) (n2 : Int) (l : List Int) : Int × List Int → Res
  | (r1, r2) => ([], [[(.own 0 0 (r2).length false), (.pv (.int .i64 r1))]], [(.ints .u8 r2)])
/-! ### bits_Writer_Put_L0_3 -/
def bits_Writer_Put_L0_3_st (n : Int) : Int × Int × List Int → St
  | (i, n2, l) => ⟨[(0, (.av (.one (.ref 0 0)))), (1, (.av (.one (.pv (.int .u64 n))))), (6, (.av (.one (.pv (.int .i64 i)))))], [(0, [(.own 0 0 (l).length false), (.pv (.int .i64 n2))])], [(0, (.live (.ints .u8 l)))]⟩
def bits_Writer_Put_L0_3_ex (n : Int) : Int × List Int → Ex × St
  | (r1, r2) => ((.exit 0), ⟨[], [(0, [(.own 0 0 (r2).length false), (.pv (.int .i64 r1))])], [(0, (.live (.ints .u8 r2)))]⟩)
noncomputable def bits_Writer_Put_L0_3_step (n : Int) : Int × Int × List Int → Option ((Int × Int × List Int) ⊕ (Int × List Int))
  | (i, n2, l) =>
  bif (decide ((0 : Int) ≤ i)) then
    bif (decide (((irem .i64 n2 8) : Int) = 0)) then
      bif fits ((l ++ [0])).length then
      bif decide ((0 : Int) ≤ i) then
      bif (decide (((iand .u64 (ishr .u64 n i) 1) : Int) = 1)) then
        bif decide ((0 : Int) ≤ (irem .i64 n2 8)) then
        bif decide ((0 : Int) ≤ (iquo .i64 n2 8)) && decide (((iquo .i64 n2 8) : Int) < (((l ++ [0])).length : Int)) then
        some (.inl ((isub .i64 i 1), (iadd .i64 n2 1), ((l ++ [0]).set (0 + ((iquo .i64 n2 8)).toNat) (ior .u8 ((l ++ [0]).getD (0 + ((iquo .i64 n2 8)).toNat) 0) (ishr .u8 128 (irem .i64 n2 8))))))
        else none
        else none
      else
        some (.inl ((isub .i64 i 1), (iadd .i64 n2 1), (l ++ [0])))
      else none
      else none
    else
      bif decide ((0 : Int) ≤ i) then
      bif (decide (((iand .u64 (ishr .u64 n i) 1) : Int) = 1)) then
        bif decide ((0 : Int) ≤ (irem .i64 n2 8)) then
        bif decide ((0 : Int) ≤ (iquo .i64 n2 8)) && decide (((iquo .i64 n2 8) : Int) < ((l).length : Int)) then
        some (.inl ((isub .i64 i 1), (iadd .i64 n2 1), (l.set (0 + ((iquo .i64 n2 8)).toNat) (ior .u8 (l.getD (0 + ((iquo .i64 n2 8)).toNat) 0) (ishr .u8 128 (irem .i64 n2 8))))))
        else none
        else none
      else
        some (.inl ((isub .i64 i 1), (iadd .i64 n2 1), l))
      else none
  else
    some (.inr (n2, l))
theorem bits_Writer_Put_L0_3_ok (n : Int) (s_ : Int × Int × List Int) (z_ : (Int × Int × List Int) ⊕ (Int × List Int)) (h : bits_Writer_Put_L0_3_step n s_ = some z_) : RoundOk Tryd.prog cfg 157 1 (loopAt Tryd.prog 157 0) (bits_Writer_Put_L0_3_st n) (bits_Writer_Put_L0_3_ex n) s_ z_ := by
  rcases s_ with ⟨i, n2, l⟩
  rcases cond_of h with ⟨h1, h⟩ | ⟨h1, h⟩
  · rcases cond_of h with ⟨h2, h⟩ | ⟨h2, h⟩
    · obtain ⟨h3, h⟩ := need_of h
      obtain ⟨h4, h⟩ := need_of h
      rcases cond_of h with ⟨h5, h⟩ | ⟨h5, h⟩
      · obtain ⟨h6, h⟩ := need_of h
        obtain ⟨h7, h⟩ := need_of h
        have h := some_of h
        subst h
        have t_ := tT h1 <| tO (rfl : true = true) <| tT h2 <| tO (show (Nat.beq (l).length (l).length) = true from Nat.beq_refl _) <| tO h3 <| tO h4 <| tT h5 <| tO (rfl : true = true) <| tO (rfl : true = true) <| tO (rfl : true = true) <| tO (rfl : true = true) <| tO h6 <| tO (rfl : true = true) <| tO h7 <| tO h6 <| tO h6 <| tO (rfl : true = true) <| tO (rfl : true = true) <| tO (rfl : true = true) <| tO (rfl : true = true) <| tO h6 <| tO h7 <| tO h6 <| tO h7 <| tN
        exact ⟨t_.ev, ⟨[(0, (.av (.one (.ref 0 0)))), (1, (.av (.one (.pv (.int .u64 n))))), (6, (.av (.one (.pv (.int .i64 (isub .i64 i 1))))))], [(0, [(.own 0 0 ((l ++ [0])).length false), (.pv (.int .i64 (iadd .i64 n2 1)))])], [(0, (.live (.ints .u8 ((l ++ [0]).set (0 + ((iquo .i64 n2 8)).toNat) (ior .u8 ((l ++ [0]).getD (0 + ((iquo .i64 n2 8)).toNat) 0) (ishr .u8 128 (irem .i64 n2 8)))))))]⟩, .k1 t_.pf (by kernel_rfl) (by kernel_rfl), ⟨⟨⟨_, rfl, .eq rfl⟩, ⟨_, rfl, .eq rfl⟩, ⟨_, rfl, .eq rfl⟩, trivial⟩, ⟨⟨rfl, ⟨.own (by first | rfl | (simp only [List.take_length]; done) | (simp only [List.take_length, List.length_append, List.drop_zero, List.map_append, List.map_take, List.map_drop, List.map_cons, List.map_nil, List.append_nil, List.nil_append]; done) | (simp; done)), .eq rfl, trivial⟩⟩, trivial⟩, ⟨⟨rfl, .eq rfl⟩, trivial⟩⟩⟩
      · have h := some_of h
        subst h
        have t_ := tT h1 <| tO (rfl : true = true) <| tT h2 <| tO (show (Nat.beq (l).length (l).length) = true from Nat.beq_refl _) <| tO h3 <| tO h4 <| tF h5 <| tN
        exact ⟨t_.ev, bits_Writer_Put_L0_3_st n ((isub .i64 i 1), (iadd .i64 n2 1), (l ++ [0])), .k0 t_.pf (by kernel_rfl), .same (by kernel_rfl)⟩
    · obtain ⟨h3, h⟩ := need_of h
      rcases cond_of h with ⟨h4, h⟩ | ⟨h4, h⟩
      · obtain ⟨h5, h⟩ := need_of h
        obtain ⟨h6, h⟩ := need_of h
        have h := some_of h
        subst h
        have t_ := tT h1 <| tO (rfl : true = true) <| tF h2 <| tO h3 <| tT h4 <| tO (rfl : true = true) <| tO (rfl : true = true) <| tO (rfl : true = true) <| tO (rfl : true = true) <| tO h5 <| tO (rfl : true = true) <| tO h6 <| tO h5 <| tO h5 <| tO (rfl : true = true) <| tO (rfl : true = true) <| tO (rfl : true = true) <| tO (rfl : true = true) <| tO h5 <| tO h6 <| tO h5 <| tO h6 <| tN
        exact ⟨t_.ev, ⟨[(0, (.av (.one (.ref 0 0)))), (1, (.av (.one (.pv (.int .u64 n))))), (6, (.av (.one (.pv (.int .i64 (isub .i64 i 1))))))], [(0, [(.own 0 0 (l).length false), (.pv (.int .i64 (iadd .i64 n2 1)))])], [(0, (.live (.ints .u8 (l.set (0 + ((iquo .i64 n2 8)).toNat) (ior .u8 (l.getD (0 + ((iquo .i64 n2 8)).toNat) 0) (ishr .u8 128 (irem .i64 n2 8)))))))]⟩, .k1 t_.pf (by kernel_rfl) (by kernel_rfl), ⟨⟨⟨_, rfl, .eq rfl⟩, ⟨_, rfl, .eq rfl⟩, ⟨_, rfl, .eq rfl⟩, trivial⟩, ⟨⟨rfl, ⟨.own (by first | rfl | (simp only [List.take_length]; done) | (simp only [List.take_length, List.length_append, List.drop_zero, List.map_append, List.map_take, List.map_drop, List.map_cons, List.map_nil, List.append_nil, List.nil_append]; done) | (simp; done)), .eq rfl, trivial⟩⟩, trivial⟩, ⟨⟨rfl, .eq rfl⟩, trivial⟩⟩⟩
      · have h := some_of h
        subst h
        have t_ := tT h1 <| tO (rfl : true = true) <| tF h2 <| tO h3 <| tF h4 <| tN
        exact ⟨t_.ev, bits_Writer_Put_L0_3_st n ((isub .i64 i 1), (iadd .i64 n2 1), l), .k0 t_.pf (by kernel_rfl), .same (by kernel_rfl)⟩
  · have h := some_of h
    subst h
    have t_ := tF h1 <| tN
    exact ⟨t_.ev, ⟨[(13, (.av (.one (.pv (.bool false))))), (0, (.av (.one (.ref 0 0)))), (1, (.av (.one (.pv (.int .u64 n))))), (6, (.av (.one (.pv (.int .i64 i))))), (13, (.av (.one (.pv (.bool (decide ((0 : Int) ≤ i)))))))], [(0, [(.own 0 0 (l).length false), (.pv (.int .i64 n2))])], [(0, (.live (.ints .u8 l)))]⟩, .k0 t_.pf (by kernel_rfl), ⟨trivial, ⟨⟨rfl, ⟨.eq rfl, .eq rfl, trivial⟩⟩, trivial⟩, ⟨⟨rfl, .eq rfl⟩, trivial⟩⟩⟩
theorem bits_Writer_Put_L0_3_runs (n : Int) (s_ : Int × Int × List Int) (r_ : Int × List Int) (h : runL (bits_Writer_Put_L0_3_step n) s_ = some r_) : LRuns Tryd.prog (lEnv Tryd.prog cfg 157 1).nt 1 (.loop (loopAt Tryd.prog 157 0)) (bits_Writer_Put_L0_3_st n s_) (bits_Writer_Put_L0_3_ex n r_).1 (bits_Writer_Put_L0_3_ex n r_).2 :=
  loop_run h (bits_Writer_Put_L0_3_ok n) (by intro r_; rcases r_ with ⟨r1, r2⟩ <;> simp [bits_Writer_Put_L0_3_ex])
/-! ### bits_Writer_Put_2 -/
noncomputable def bits_Writer_Put_2 (n : Int) (k : Int) (n2 : Int) (l : List Int) : Option (Int × List Int) :=
  (bits_within k).bind fun n3 =>
  (runL (bits_Writer_Put_L0_3_step n) ((isub .i64 n3 1), n2, l)).bind fun (n4, l_) =>
  some (n4, l_)
theorem bits_Writer_Put_2_runs (n : Int) (k : Int) (n2 : Int) (l : List Int) (r_ : Int × List Int) (h : bits_Writer_Put_2 n k n2 l = some r_) : Runs Tryd.prog 157 [(.one (.ref 0 0)), (.one (.pv (.int .u64 n))), (.one (.pv (.int .i64 k)))] [[(.own 0 0 (l).length false), (.pv (.int .i64 n2))]] [(.ints .u8 l)] (bits_Writer_Put_2_out n k n2 l r_) := by
  unfold bits_Writer_Put_2 at h
  obtain ⟨n3, h1, h⟩ := bind_of h
  obtain ⟨⟨n4, l_⟩, h2, h⟩ := bind_of h
  have h := some_of h
  subst h
  have t_ := tF (rfl : false = false) <| tR (bits_within_runs k _ h1) <| tL (bits_Writer_Put_L0_3_runs n _ _ h2) <| tN
  exact runs_of (C := cfg) (objs := [[(.own 0 0 (l).length false), (.pv (.int .i64 n2))]]) (sc := t_.ev) (.k0 t_.pf (by kernel_rfl))
/-! ### id_ID_IsOne_out -/
def id_ID_IsOne_out (i : Bool) (i2 : T_id_halves) : Unit → Res
  | _ => ([(.one (.pv (.bool i)))], [], [])
/-! ### id_ID_IsOne -/
noncomputable def id_ID_IsOne (i : Bool) (i2 : T_id_halves) : Option (Unit) :=
  some ()
theorem id_ID_IsOne_runs (i : Bool) (i2 : T_id_halves) (r_ : Unit) (h : id_ID_IsOne i i2 = some r_) : Runs Tryd.prog 91 [(.agg [(.pv (.bool i)), (.pv (T_id_halves.pv i2))])] [] [] (id_ID_IsOne_out i i2 r_) := by
  unfold id_ID_IsOne at h
  have h := some_of h
  subst h
  have t_ := tN
  exact runs_of (C := cfg) (objs := []) (sc := t_.ev) (.k0 t_.pf (by kernel_rfl))
/-! ### code_PutID_2_out -/
def code_PutID_2_out (i : Bool) (i2 : T_id_halves) (n : Int) (l : List Int) : Int × List Int → Res
  | (r1, r2) => ([], [[(.own 0 0 (r2).length false), (.pv (.int .i64 r1))]], [(.ints .u8 r2)])
/-! ### code_PutID_2 -/
noncomputable def code_PutID_2_b (rec_code_PutID_2 : Bool → T_id_halves → Int → List Int → Option (Int × List Int)) (i : Bool) (i2 : T_id_halves) (n : Int) (l : List Int) : Option (Int × List Int) :=
  (id_ID_Left i i2).bind fun (b, t) =>
  (id_ID_Right i i2).bind fun (b2, t2) =>
  (id_ID_IsZero i i2).bind fun b3 =>
  bif b3 then
    (bits_Writer_Put_2 0 2 n l).bind fun (n2, l_) =>
    (bits_Writer_Put_2 0 1 n2 l_).bind fun (n3, l_2) =>
    some (n3, l_2)
  else
    (id_ID_IsOne i i2).bind fun _ =>
    bif i then
      (bits_Writer_Put_2 0 2 n l).bind fun (n2, l_) =>
      (bits_Writer_Put_2 1 1 n2 l_).bind fun (n3, l_2) =>
      some (n3, l_2)
    else
      (id_ID_IsZero b t).bind fun b4 =>
      bif b4 then
        (bits_Writer_Put_2 1 2 n l).bind fun (n2, l_) =>
        (rec_code_PutID_2 b2 t2 n2 l_).bind fun (n3, l_2) =>
        some (n3, l_2)
      else
        (id_ID_IsZero b2 t2).bind fun b5 =>
        bif b5 then
          (bits_Writer_Put_2 2 2 n l).bind fun (n2, l_) =>
          (rec_code_PutID_2 b t n2 l_).bind fun (n3, l_2) =>
          some (n3, l_2)
        else
          (bits_Writer_Put_2 3 2 n l).bind fun (n2, l_) =>
          (rec_code_PutID_2 b t n2 l_).bind fun (n3, l_2) =>
          (rec_code_PutID_2 b2 t2 n3 l_2).bind fun (n4, l_3) =>
          some (n4, l_3)
theorem code_PutID_2_b_runs (rec_code_PutID_2 : Bool → T_id_halves → Int → List Int → Option (Int × List Int)) (hrec_code_PutID_2 : ∀ i i2 n l r_, rec_code_PutID_2 i i2 n l = some r_ → Runs Tryd.prog 134 [(.one (.ref 0 0)), (.agg [(.pv (.bool i)), (.pv (T_id_halves.pv i2))])] [[(.own 0 0 (l).length false), (.pv (.int .i64 n))]] [(.ints .u8 l)] (code_PutID_2_out i i2 n l r_)) (i : Bool) (i2 : T_id_halves) (n : Int) (l : List Int) (r_ : Int × List Int) (h : code_PutID_2_b rec_code_PutID_2 i i2 n l = some r_) : Runs Tryd.prog 134 [(.one (.ref 0 0)), (.agg [(.pv (.bool i)), (.pv (T_id_halves.pv i2))])] [[(.own 0 0 (l).length false), (.pv (.int .i64 n))]] [(.ints .u8 l)] (code_PutID_2_out i i2 n l r_) := by
  unfold code_PutID_2_b at h
  obtain ⟨⟨b, t⟩, h1, h⟩ := bind_of h
  obtain ⟨⟨b2, t2⟩, h2, h⟩ := bind_of h
  obtain ⟨b3, h3, h⟩ := bind_of h
  rcases cond_of h with ⟨h4, h⟩ | ⟨h4, h⟩
  · obtain ⟨⟨n2, l_⟩, h5, h⟩ := bind_of h
    obtain ⟨⟨n3, l_2⟩, h6, h⟩ := bind_of h
    have h := some_of h
    subst h
    have t_ := tR (id_ID_Left_runs i i2 _ h1) <| tR (id_ID_Left_runs i i2 _ h1) <| tR (id_ID_Left_runs i i2 _ h1) <| tR (id_ID_Left_runs i i2 _ h1) <| tR (id_ID_Left_runs i i2 _ h1) <| tR (id_ID_Left_runs i i2 _ h1) <| tR (id_ID_Left_runs i i2 _ h1) <| tR (id_ID_Right_runs i i2 _ h2) <| tR (id_ID_Right_runs i i2 _ h2) <| tR (id_ID_Right_runs i i2 _ h2) <| tR (id_ID_Left_runs i i2 _ h1) <| tR (id_ID_Right_runs i i2 _ h2) <| tR (id_ID_IsZero_runs i i2 _ h3) <| tT h4 <| tR (bits_Writer_Put_2_runs 0 2 n l _ h5) <| tR (bits_Writer_Put_2_runs 0 1 n2 l_ _ h6) <| tN
    exact runs_of (C := cfg) (objs := [[(.own 0 0 (l).length false), (.pv (.int .i64 n))]]) (sc := t_.ev) (.k1 t_.pf (by kernel_rfl) (by kernel_rfl))
  · obtain ⟨_, h5, h⟩ := bind_of h
    rcases cond_of h with ⟨h6, h⟩ | ⟨h6, h⟩
    · obtain ⟨⟨n2, l_⟩, h7, h⟩ := bind_of h
      obtain ⟨⟨n3, l_2⟩, h8, h⟩ := bind_of h
      have h := some_of h
      subst h
      have t_ := tR (id_ID_Left_runs i i2 _ h1) <| tR (id_ID_Left_runs i i2 _ h1) <| tR (id_ID_Left_runs i i2 _ h1) <| tR (id_ID_Left_runs i i2 _ h1) <| tR (id_ID_Left_runs i i2 _ h1) <| tR (id_ID_Left_runs i i2 _ h1) <| tR (id_ID_Left_runs i i2 _ h1) <| tR (id_ID_Right_runs i i2 _ h2) <| tR (id_ID_Right_runs i i2 _ h2) <| tR (id_ID_Right_runs i i2 _ h2) <| tR (id_ID_Left_runs i i2 _ h1) <| tR (id_ID_Right_runs i i2 _ h2) <| tR (id_ID_IsZero_runs i i2 _ h3) <| tF h4 <| tR (id_ID_IsOne_runs i i2 _ h5) <| tT h6 <| tR (bits_Writer_Put_2_runs 0 2 n l _ h7) <| tR (bits_Writer_Put_2_runs 1 1 n2 l_ _ h8) <| tN
      exact runs_of (C := cfg) (objs := [[(.own 0 0 (l).length false), (.pv (.int .i64 n))]]) (sc := t_.ev) (.k1 t_.pf (by kernel_rfl) (by kernel_rfl))
    · obtain ⟨b4, h7, h⟩ := bind_of h
      rcases cond_of h with ⟨h8, h⟩ | ⟨h8, h⟩
      · obtain ⟨⟨n2, l_⟩, h9, h⟩ := bind_of h
        obtain ⟨⟨n3, l_2⟩, h10, h⟩ := bind_of h
        have h := some_of h
        subst h
        have t_ := tR (id_ID_Left_runs i i2 _ h1) <| tR (id_ID_Left_runs i i2 _ h1) <| tR (id_ID_Left_runs i i2 _ h1) <| tR (id_ID_Left_runs i i2 _ h1) <| tR (id_ID_Left_runs i i2 _ h1) <| tR (id_ID_Left_runs i i2 _ h1) <| tR (id_ID_Left_runs i i2 _ h1) <| tR (id_ID_Right_runs i i2 _ h2) <| tR (id_ID_Right_runs i i2 _ h2) <| tR (id_ID_Right_runs i i2 _ h2) <| tR (id_ID_Left_runs i i2 _ h1) <| tR (id_ID_Right_runs i i2 _ h2) <| tR (id_ID_IsZero_runs i i2 _ h3) <| tF h4 <| tR (id_ID_IsOne_runs i i2 _ h5) <| tF h6 <| tR (id_ID_IsZero_runs b t _ h7) <| tT h8 <| tR (bits_Writer_Put_2_runs 1 2 n l _ h9) <| tR (hrec_code_PutID_2 b2 t2 n2 l_ _ h10) <| tN
        exact runs_of (C := cfg) (objs := [[(.own 0 0 (l).length false), (.pv (.int .i64 n))]]) (sc := t_.ev) (.k1 t_.pf (by kernel_rfl) (by kernel_rfl))
      · obtain ⟨b5, h9, h⟩ := bind_of h
        rcases cond_of h with ⟨h10, h⟩ | ⟨h10, h⟩
        · obtain ⟨⟨n2, l_⟩, h11, h⟩ := bind_of h
          obtain ⟨⟨n3, l_2⟩, h12, h⟩ := bind_of h
          have h := some_of h
          subst h
          have t_ := tR (id_ID_Left_runs i i2 _ h1) <| tR (id_ID_Left_runs i i2 _ h1) <| tR (id_ID_Left_runs i i2 _ h1) <| tR (id_ID_Left_runs i i2 _ h1) <| tR (id_ID_Left_runs i i2 _ h1) <| tR (id_ID_Left_runs i i2 _ h1) <| tR (id_ID_Left_runs i i2 _ h1) <| tR (id_ID_Right_runs i i2 _ h2) <| tR (id_ID_Right_runs i i2 _ h2) <| tR (id_ID_Right_runs i i2 _ h2) <| tR (id_ID_Left_runs i i2 _ h1) <| tR (id_ID_Right_runs i i2 _ h2) <| tR (id_ID_IsZero_runs i i2 _ h3) <| tF h4 <| tR (id_ID_IsOne_runs i i2 _ h5) <| tF h6 <| tR (id_ID_IsZero_runs b t _ h7) <| tF h8 <| tR (id_ID_IsZero_runs b2 t2 _ h9) <| tT h10 <| tR (bits_Writer_Put_2_runs 2 2 n l _ h11) <| tR (hrec_code_PutID_2 b t n2 l_ _ h12) <| tN
          exact runs_of (C := cfg) (objs := [[(.own 0 0 (l).length false), (.pv (.int .i64 n))]]) (sc := t_.ev) (.k1 t_.pf (by kernel_rfl) (by kernel_rfl))
        · obtain ⟨⟨n2, l_⟩, h11, h⟩ := bind_of h
          obtain ⟨⟨n3, l_2⟩, h12, h⟩ := bind_of h
          obtain ⟨⟨n4, l_3⟩, h13, h⟩ := bind_of h
          have h := some_of h
          subst h
          have t_ := tR (id_ID_Left_runs i i2 _ h1) <| tR (id_ID_Left_runs i i2 _ h1) <| tR (id_ID_Left_runs i i2 _ h1) <| tR (id_ID_Left_runs i i2 _ h1) <| tR (id_ID_Left_runs i i2 _ h1) <| tR (id_ID_Left_runs i i2 _ h1) <| tR (id_ID_Left_runs i i2 _ h1) <| tR (id_ID_Right_runs i i2 _ h2) <| tR (id_ID_Right_runs i i2 _ h2) <| tR (id_ID_Right_runs i i2 _ h2) <| tR (id_ID_Left_runs i i2 _ h1) <| tR (id_ID_Right_runs i i2 _ h2) <| tR (id_ID_IsZero_runs i i2 _ h3) <| tF h4 <| tR (id_ID_IsOne_runs i i2 _ h5) <| tF h6 <| tR (id_ID_IsZero_runs b t _ h7) <| tF h8 <| tR (id_ID_IsZero_runs b2 t2 _ h9) <| tF h10 <| tR (bits_Writer_Put_2_runs 3 2 n l _ h11) <| tR (hrec_code_PutID_2 b t n2 l_ _ h12) <| tR (hrec_code_PutID_2 b2 t2 n3 l_2 _ h13) <| tN
          exact runs_of (C := cfg) (objs := [[(.own 0 0 (l).length false), (.pv (.int .i64 n))]]) (sc := t_.ev) (.k1 t_.pf (by kernel_rfl) (by kernel_rfl))
noncomputable def code_PutID_2 : Nat → Bool → T_id_halves → Int → List Int → Option (Int × List Int)
  | 0, _, _, _, _ => none
  | N + 1, i, i2, n, l => code_PutID_2_b (code_PutID_2 N) i i2 n l
theorem code_PutID_2_runs : ∀ (N : Nat) (i : Bool) (i2 : T_id_halves) (n : Int) (l : List Int) (r_ : Int × List Int), code_PutID_2 N i i2 n l = some r_ → Runs Tryd.prog 134 [(.one (.ref 0 0)), (.agg [(.pv (.bool i)), (.pv (T_id_halves.pv i2))])] [[(.own 0 0 (l).length false), (.pv (.int .i64 n))]] [(.ints .u8 l)] (code_PutID_2_out i i2 n l r_)
  | 0, _, _, _, _, _, h => by cases h
  | N + 1, i, i2, n, l, r_, h => code_PutID_2_b_runs (code_PutID_2 N) (code_PutID_2_runs N) i i2 n l r_ h
/-! ### code_PutID -/
noncomputable def code_PutID (N : Nat) (i : Bool) (i2 : T_id_halves) (n : Int) : Option (Int × List Int) :=
  (id_ID_Left i i2).bind fun (b, t) =>
  (id_ID_Right i i2).bind fun (b2, t2) =>
  (id_ID_IsZero i i2).bind fun b3 =>
  bif b3 then
    (bits_Writer_Put 0 2 n).bind fun (n2, l_) =>
    (bits_Writer_Put_2 0 1 n2 l_).bind fun (n3, l_2) =>
    some (n3, l_2)
  else
    (id_ID_IsOne i i2).bind fun _ =>
    bif i then
      (bits_Writer_Put 0 2 n).bind fun (n2, l_) =>
      (bits_Writer_Put_2 1 1 n2 l_).bind fun (n3, l_2) =>
      some (n3, l_2)
    else
      (id_ID_IsZero b t).bind fun b4 =>
      bif b4 then
        (bits_Writer_Put 1 2 n).bind fun (n2, l_) =>
        (code_PutID_2 N b2 t2 n2 l_).bind fun (n3, l_2) =>
        some (n3, l_2)
      else
        (id_ID_IsZero b2 t2).bind fun b5 =>
        bif b5 then
          (bits_Writer_Put 2 2 n).bind fun (n2, l_) =>
          (code_PutID_2 N b t n2 l_).bind fun (n3, l_2) =>
          some (n3, l_2)
        else
          (bits_Writer_Put 3 2 n).bind fun (n2, l_) =>
          (code_PutID_2 N b t n2 l_).bind fun (n3, l_2) =>
          (code_PutID_2 N b2 t2 n3 l_2).bind fun (n4, l_3) =>
          some (n4, l_3)
theorem code_PutID_runs (N : Nat) (i : Bool) (i2 : T_id_halves) (n : Int) (r_ : Int × List Int) (h : code_PutID N i i2 n = some r_) : Runs Tryd.prog 134 [(.one (.ref 0 0)), (.agg [(.pv (.bool i)), (.pv (T_id_halves.pv i2))])] [[(.pv .nils), (.pv (.int .i64 n))]] [] (code_PutID_out i i2 n r_) := by
  unfold code_PutID at h
  obtain ⟨⟨b, t⟩, h1, h⟩ := bind_of h
  obtain ⟨⟨b2, t2⟩, h2, h⟩ := bind_of h
  obtain ⟨b3, h3, h⟩ := bind_of h
  rcases cond_of h with ⟨h4, h⟩ | ⟨h4, h⟩
  · obtain ⟨⟨n2, l_⟩, h5, h⟩ := bind_of h
    obtain ⟨⟨n3, l_2⟩, h6, h⟩ := bind_of h
    have h := some_of h
    subst h
    have t_ := tR (id_ID_Left_runs i i2 _ h1) <| tR (id_ID_Left_runs i i2 _ h1) <| tR (id_ID_Left_runs i i2 _ h1) <| tR (id_ID_Left_runs i i2 _ h1) <| tR (id_ID_Left_runs i i2 _ h1) <| tR (id_ID_Left_runs i i2 _ h1) <| tR (id_ID_Left_runs i i2 _ h1) <| tR (id_ID_Right_runs i i2 _ h2) <| tR (id_ID_Right_runs i i2 _ h2) <| tR (id_ID_Right_runs i i2 _ h2) <| tR (id_ID_Left_runs i i2 _ h1) <| tR (id_ID_Right_runs i i2 _ h2) <| tR (id_ID_IsZero_runs i i2 _ h3) <| tT h4 <| tR (bits_Writer_Put_runs 0 2 n _ h5) <| tR (bits_Writer_Put_2_runs 0 1 n2 l_ _ h6) <| tN
    exact runs_of (C := cfg) (objs := [[(.pv .nils), (.pv (.int .i64 n))]]) (sc := t_.ev) (.k1 t_.pf (by kernel_rfl) (by kernel_rfl))
  · obtain ⟨_, h5, h⟩ := bind_of h
    rcases cond_of h with ⟨h6, h⟩ | ⟨h6, h⟩
    · obtain ⟨⟨n2, l_⟩, h7, h⟩ := bind_of h
      obtain ⟨⟨n3, l_2⟩, h8, h⟩ := bind_of h
      have h := some_of h
      subst h
      have t_ := tR (id_ID_Left_runs i i2 _ h1) <| tR (id_ID_Left_runs i i2 _ h1) <| tR (id_ID_Left_runs i i2 _ h1) <| tR (id_ID_Left_runs i i2 _ h1) <| tR (id_ID_Left_runs i i2 _ h1) <| tR (id_ID_Left_runs i i2 _ h1) <| tR (id_ID_Left_runs i i2 _ h1) <| tR (id_ID_Right_runs i i2 _ h2) <| tR (id_ID_Right_runs i i2 _ h2) <| tR (id_ID_Right_runs i i2 _ h2) <| tR (id_ID_Left_runs i i2 _ h1) <| tR (id_ID_Right_runs i i2 _ h2) <| tR (id_ID_IsZero_runs i i2 _ h3) <| tF h4 <| tR (id_ID_IsOne_runs i i2 _ h5) <| tT h6 <| tR (bits_Writer_Put_runs 0 2 n _ h7) <| tR (bits_Writer_Put_2_runs 1 1 n2 l_ _ h8) <| tN
      exact runs_of (C := cfg) (objs := [[(.pv .nils), (.pv (.int .i64 n))]]) (sc := t_.ev) (.k1 t_.pf (by kernel_rfl) (by kernel_rfl))
    · obtain ⟨b4, h7, h⟩ := bind_of h
      rcases cond_of h with ⟨h8, h⟩ | ⟨h8, h⟩
      · obtain ⟨⟨n2, l_⟩, h9, h⟩ := bind_of h
        obtain ⟨⟨n3, l_2⟩, h10, h⟩ := bind_of h
        have h := some_of h
        subst h
        have t_ := tR (id_ID_Left_runs i i2 _ h1) <| tR (id_ID_Left_runs i i2 _ h1) <| tR (id_ID_Left_runs i i2 _ h1) <| tR (id_ID_Left_runs i i2 _ h1) <| tR (id_ID_Left_runs i i2 _ h1) <| tR (id_ID_Left_runs i i2 _ h1) <| tR (id_ID_Left_runs i i2 _ h1) <| tR (id_ID_Right_runs i i2 _ h2) <| tR (id_ID_Right_runs i i2 _ h2) <| tR (id_ID_Right_runs i i2 _ h2) <| tR (id_ID_Left_runs i i2 _ h1) <| tR (id_ID_Right_runs i i2 _ h2) <| tR (id_ID_IsZero_runs i i2 _ h3) <| tF h4 <| tR (id_ID_IsOne_runs i i2 _ h5) <| tF h6 <| tR (id_ID_IsZero_runs b t _ h7) <| tT h8 <| tR (bits_Writer_Put_runs 1 2 n _ h9) <| tR (code_PutID_2_runs N b2 t2 n2 l_ _ h10) <| tN
        exact runs_of (C := cfg) (objs := [[(.pv .nils), (.pv (.int .i64 n))]]) (sc := t_.ev) (.k1 t_.pf (by kernel_rfl) (by kernel_rfl))
      · obtain ⟨b5, h9, h⟩ := bind_of h
        rcases cond_of h with ⟨h10, h⟩ | ⟨h10, h⟩
        · obtain ⟨⟨n2, l_⟩, h11, h⟩ := bind_of h
          obtain ⟨⟨n3, l_2⟩, h12, h⟩ := bind_of h
          have h := some_of h
          subst h
          have t_ := tR (id_ID_Left_runs i i2 _ h1) <| tR (id_ID_Left_runs i i2 _ h1) <| tR (id_ID_Left_runs i i2 _ h1) <| tR (id_ID_Left_runs i i2 _ h1) <| tR (id_ID_Left_runs i i2 _ h1) <| tR (id_ID_Left_runs i i2 _ h1) <| tR (id_ID_Left_runs i i2 _ h1) <| tR (id_ID_Right_runs i i2 _ h2) <| tR (id_ID_Right_runs i i2 _ h2) <| tR (id_ID_Right_runs i i2 _ h2) <| tR (id_ID_Left_runs i i2 _ h1) <| tR (id_ID_Right_runs i i2 _ h2) <| tR (id_ID_IsZero_runs i i2 _ h3) <| tF h4 <| tR (id_ID_IsOne_runs i i2 _ h5) <| tF h6 <| tR (id_ID_IsZero_runs b t _ h7) <| tF h8 <| tR (id_ID_IsZero_runs b2 t2 _ h9) <| tT h10 <| tR (bits_Writer_Put_runs 2 2 n _ h11) <| tR (code_PutID_2_runs N b t n2 l_ _ h12) <| tN
          exact runs_of (C := cfg) (objs := [[(.pv .nils), (.pv (.int .i64 n))]]) (sc := t_.ev) (.k1 t_.pf (by kernel_rfl) (by kernel_rfl))
        · obtain ⟨⟨n2, l_⟩, h11, h⟩ := bind_of h
          obtain ⟨⟨n3, l_2⟩, h12, h⟩ := bind_of h
          obtain ⟨⟨n4, l_3⟩, h13, h⟩ := bind_of h
          have h := some_of h
          subst h
          have t_ := tR (id_ID_Left_runs i i2 _ h1) <| tR (id_ID_Left_runs i i2 _ h1) <| tR (id_ID_Left_runs i i2 _ h1) <| tR (id_ID_Left_runs i i2 _ h1) <| tR (id_ID_Left_runs i i2 _ h1) <| tR (id_ID_Left_runs i i2 _ h1) <| tR (id_ID_Left_runs i i2 _ h1) <| tR (id_ID_Right_runs i i2 _ h2) <| tR (id_ID_Right_runs i i2 _ h2) <| tR (id_ID_Right_runs i i2 _ h2) <| tR (id_ID_Left_runs i i2 _ h1) <| tR (id_ID_Right_runs i i2 _ h2) <| tR (id_ID_IsZero_runs i i2 _ h3) <| tF h4 <| tR (id_ID_IsOne_runs i i2 _ h5) <| tF h6 <| tR (id_ID_IsZero_runs b t _ h7) <| tF h8 <| tR (id_ID_IsZero_runs b2 t2 _ h9) <| tF h10 <| tR (bits_Writer_Put_runs 3 2 n _ h11) <| tR (code_PutID_2_runs N b t n2 l_ _ h12) <| tR (code_PutID_2_runs N b2 t2 n3 l_2 _ h13) <| tN
          exact runs_of (C := cfg) (objs := [[(.pv .nils), (.pv (.int .i64 n))]]) (sc := t_.ev) (.k1 t_.pf (by kernel_rfl) (by kernel_rfl))
/-! ### code_PutEvent_out -/
def code_PutEvent_out (e : Int) (e2 : T_event_halves) (n : Int) (l : List Int) : Int × List Int → Res
  | (r1, r2) => ([], [[(.own 0 0 (r2).length false), (.pv (.int .i64 r1))]], [(.ints .u8 r2)])
/-! ### event_Event_Left_out -/
def event_Event_Left_out (e : Int) (e2 : T_event_halves) : Int × T_event_halves → Res
  | (r1, r2) => ([(.agg [(.pv (.int .u64 r1)), (.pv (T_event_halves.pv r2))])], [], [])
/-! ### event_Event_Left -/
noncomputable def event_Event_Left (e : Int) (e2 : T_event_halves) : Option (Int × T_event_halves) :=
  match e2 with
  | .nil =>
    some (0, T_event_halves.nil)
  | .mk n t n2 t2 =>
    some (n, t)
theorem event_Event_Left_runs (e : Int) (e2 : T_event_halves) (r_ : Int × T_event_halves) (h : event_Event_Left e e2 = some r_) : Runs Tryd.prog 65 [(.agg [(.pv (.int .u64 e)), (.pv (T_event_halves.pv e2))])] [] [] (event_Event_Left_out e e2 r_) := by
  unfold event_Event_Left at h
  cases e2 with
  | nil =>
    have h := some_of h
    subst h
    have t_ := tT (rfl : true = true) <| tN
    have e_ : Runs Tryd.prog 65 [(.agg [(.pv (.int .u64 e)), (.pv (T_event_halves.pv T_event_halves.nil))])] [] [] ([(.agg [(.pv (.int .u64 0)), (.pv .nilp)])], [], []) := runs_of (C := cfg) (objs := []) (sc := t_.ev) (.k0 t_.pf (by kernel_rfl))
    exact e_.out ⟨⟨.eq rfl, .eq rfl, trivial⟩, trivial⟩ trivial trivial rfl
  | mk n t n2 t2 =>
    have h := some_of h
    subst h
    have t_ := tF (rfl : false = false) <| tN
    exact runs_of (C := cfg) (objs := []) (sc := t_.ev) (.k0 t_.pf (by kernel_rfl))
/-! ### event_Event_Right_out -/
def event_Event_Right_out (e : Int) (e2 : T_event_halves) : Int × T_event_halves → Res
  | (r1, r2) => ([(.agg [(.pv (.int .u64 r1)), (.pv (T_event_halves.pv r2))])], [], [])
/-! ### event_Event_Right -/
noncomputable def event_Event_Right (e : Int) (e2 : T_event_halves) : Option (Int × T_event_halves) :=
  match e2 with
  | .nil =>
    some (0, T_event_halves.nil)
  | .mk n t n2 t2 =>
    some (n2, t2)
theorem event_Event_Right_runs (e : Int) (e2 : T_event_halves) (r_ : Int × T_event_halves) (h : event_Event_Right e e2 = some r_) : Runs Tryd.prog 66 [(.agg [(.pv (.int .u64 e)), (.pv (T_event_halves.pv e2))])] [] [] (event_Event_Right_out e e2 r_) := by
  unfold event_Event_Right at h
  cases e2 with
  | nil =>
    have h := some_of h
    subst h
    have t_ := tT (rfl : true = true) <| tN
    have e_ : Runs Tryd.prog 66 [(.agg [(.pv (.int .u64 e)), (.pv (T_event_halves.pv T_event_halves.nil))])] [] [] ([(.agg [(.pv (.int .u64 0)), (.pv .nilp)])], [], []) := runs_of (C := cfg) (objs := []) (sc := t_.ev) (.k0 t_.pf (by kernel_rfl))
    exact e_.out ⟨⟨.eq rfl, .eq rfl, trivial⟩, trivial⟩ trivial trivial rfl
  | mk n t n2 t2 =>
    have h := some_of h
    subst h
    have t_ := tF (rfl : false = false) <| tN
    exact runs_of (C := cfg) (objs := []) (sc := t_.ev) (.k0 t_.pf (by kernel_rfl))
/-! ### event_Event_IsLeaf_out -/
def event_Event_IsLeaf_out (e : Int) (e2 : T_event_halves) : Bool → Res
  | r1 => ([(.one (.pv (.bool r1)))], [], [])
/-! ### event_Event_IsLeaf -/
noncomputable def event_Event_IsLeaf (e : Int) (e2 : T_event_halves) : Option (Bool) :=
  match e2 with
  | .nil =>
    some true
  | .mk n t n2 t2 =>
    some false
theorem event_Event_IsLeaf_runs (e : Int) (e2 : T_event_halves) (r_ : Bool) (h : event_Event_IsLeaf e e2 = some r_) : Runs Tryd.prog 64 [(.agg [(.pv (.int .u64 e)), (.pv (T_event_halves.pv e2))])] [] [] (event_Event_IsLeaf_out e e2 r_) := by
  unfold event_Event_IsLeaf at h
  cases e2 with
  | nil =>
    have h := some_of h
    subst h
    have t_ := tN
    exact runs_of (C := cfg) (objs := []) (sc := t_.ev) (.k0 t_.pf (by kernel_rfl))
  | mk n t n2 t2 =>
    have h := some_of h
    subst h
    have t_ := tN
    exact runs_of (C := cfg) (objs := []) (sc := t_.ev) (.k0 t_.pf (by kernel_rfl))
/-! ### event_Event_Base_out -/
def event_Event_Base_out (e : Int) (e2 : T_event_halves) : Unit → Res
  | _ => ([(.one (.pv (.int .u64 e)))], [], [])
/-! ### event_Event_Base -/
noncomputable def event_Event_Base (e : Int) (e2 : T_event_halves) : Option (Unit) :=
  some ()
theorem event_Event_Base_runs (e : Int) (e2 : T_event_halves) (r_ : Unit) (h : event_Event_Base e e2 = some r_) : Runs Tryd.prog 63 [(.agg [(.pv (.int .u64 e)), (.pv (T_event_halves.pv e2))])] [] [] (event_Event_Base_out e e2 r_) := by
  unfold event_Event_Base at h
  have h := some_of h
  subst h
  have t_ := tN
  exact runs_of (C := cfg) (objs := []) (sc := t_.ev) (.k0 t_.pf (by kernel_rfl))
/-! ### bits_Writer_Num_out -/
def bits_Writer_Num_out (n : Int) (n2 : Int) (l : List Int) : Int × List Int → Res
  | (r1, r2) => ([], [[(.own 0 0 (r2).length false), (.pv (.int .i64 r1))]], [(.ints .u8 r2)])
/-! ### bits_Writer_Num_L0 -/
def bits_Writer_Num_L0_st : Int × Int × Int × List Int → St
  | (n, b, n2, l) => ⟨[(0, (.av (.one (.ref 0 0)))), (1, (.av (.one (.pv (.int .u64 n))))), (4, (.av (.one (.pv (.int .i64 b)))))], [(0, [(.own 0 0 (l).length false), (.pv (.int .i64 n2))])], [(0, (.live (.ints .u8 l)))]⟩
def bits_Writer_Num_L0_ex : Int × Int × Int × List Int → Ex × St
  | (r1, r2, r3, r4) => ((.exit 0), ⟨[(0, (.av (.one (.ref 0 0)))), (1, (.av (.one (.pv (.int .u64 r1))))), (4, (.av (.one (.pv (.int .i64 r2)))))], [(0, [(.own 0 0 (r4).length false), (.pv (.int .i64 r3))])], [(0, (.live (.ints .u8 r4)))]⟩)
noncomputable def bits_Writer_Num_L0_step : Int × Int × Int × List Int → Option ((Int × Int × Int × List Int) ⊕ (Int × Int × Int × List Int))
  | (n, b, n2, l) =>
  bif (decide ((b : Int) < 64)) then
    bif decide ((0 : Int) ≤ b) then
    bif (decide ((0 : Int) < (ishr .u64 n b))) then
      (bits_Writer_Put_2 1 1 n2 l).bind fun (n3, l_) =>
      some (.inl ((isub .u64 n (ishl .u64 1 b)), (iadd .i64 b 1), n3, l_))
    else
      some (.inr (n, b, n2, l))
    else none
  else
    some (.inr (n, b, n2, l))
theorem bits_Writer_Num_L0_ok (s_ : Int × Int × Int × List Int) (z_ : (Int × Int × Int × List Int) ⊕ (Int × Int × Int × List Int)) (h : bits_Writer_Num_L0_step s_ = some z_) : RoundOk Tryd.prog cfg 158 1 (loopAt Tryd.prog 158 0) (bits_Writer_Num_L0_st) (bits_Writer_Num_L0_ex) s_ z_ := by
  rcases s_ with ⟨n, b, n2, l⟩
  rcases cond_of h with ⟨h1, h⟩ | ⟨h1, h⟩
  · obtain ⟨h2, h⟩ := need_of h
    rcases cond_of h with ⟨h3, h⟩ | ⟨h3, h⟩
    · obtain ⟨⟨n3, l_⟩, h4, h⟩ := bind_of h
      have h := some_of h
      subst h
      have t_ := tT h1 <| tO h2 <| tT h3 <| tR (bits_Writer_Put_2_runs 1 1 n2 l _ h4) <| tO h2 <| tN
      exact ⟨t_.ev, bits_Writer_Num_L0_st ((isub .u64 n (ishl .u64 1 b)), (iadd .i64 b 1), n3, l_), .k0 t_.pf (by kernel_rfl), .same (by kernel_rfl)⟩
    · have h := some_of h
      subst h
      have t_ := tT h1 <| tO h2 <| tF h3 <| tN
      exact ⟨t_.ev, ⟨[(12, (.av (.one (.pv (.bool false))))), (0, (.av (.one (.ref 0 0)))), (1, (.av (.one (.pv (.int .u64 n))))), (4, (.av (.one (.pv (.int .i64 b))))), (12, (.av (.one (.pv (.bool (decide ((0 : Int) < (ishr .u64 n b))))))))], [(0, [(.own 0 0 (l).length false), (.pv (.int .i64 n2))])], [(0, (.live (.ints .u8 l)))]⟩, .k0 t_.pf (by kernel_rfl), ⟨⟨⟨_, rfl, .eq rfl⟩, ⟨_, rfl, .eq rfl⟩, ⟨_, rfl, .eq rfl⟩, trivial⟩, ⟨⟨rfl, ⟨.eq rfl, .eq rfl, trivial⟩⟩, trivial⟩, ⟨⟨rfl, .eq rfl⟩, trivial⟩⟩⟩
  · have h := some_of h
    subst h
    have t_ := tF h1 <| tF (rfl : false = false) <| tN
    exact ⟨t_.ev, ⟨[(12, (.av (.one (.pv (.bool false))))), (0, (.av (.one (.ref 0 0)))), (1, (.av (.one (.pv (.int .u64 n))))), (4, (.av (.one (.pv (.int .i64 b))))), (12, (.av (.one (.pv (.bool false)))))], [(0, [(.own 0 0 (l).length false), (.pv (.int .i64 n2))])], [(0, (.live (.ints .u8 l)))]⟩, .k0 t_.pf (by kernel_rfl), ⟨⟨⟨_, rfl, .eq rfl⟩, ⟨_, rfl, .eq rfl⟩, ⟨_, rfl, .eq rfl⟩, trivial⟩, ⟨⟨rfl, ⟨.eq rfl, .eq rfl, trivial⟩⟩, trivial⟩, ⟨⟨rfl, .eq rfl⟩, trivial⟩⟩⟩
theorem bits_Writer_Num_L0_runs (s_ : Int × Int × Int × List Int) (r_ : Int × Int × Int × List Int) (h : runL (bits_Writer_Num_L0_step) s_ = some r_) : LRuns Tryd.prog (lEnv Tryd.prog cfg 158 1).nt 1 (.loop (loopAt Tryd.prog 158 0)) (bits_Writer_Num_L0_st s_) (bits_Writer_Num_L0_ex r_).1 (bits_Writer_Num_L0_ex r_).2 :=
  loop_run h (bits_Writer_Num_L0_ok) (by intro r_; rcases r_ with ⟨r1, r2, r3, r4⟩ <;> simp [bits_Writer_Num_L0_ex])
/-! ### bits_Writer_Num -/
noncomputable def bits_Writer_Num (n : Int) (n2 : Int) (l : List Int) : Option (Int × List Int) :=
  (runL (bits_Writer_Num_L0_step) (n, 2, n2, l)).bind fun (n3, n4, n5, l_) =>
  (bits_Writer_Put_2 0 1 n5 l_).bind fun (n6, l_2) =>
  (bits_Writer_Put_2 n3 n4 n6 l_2).bind fun (n7, l_3) =>
  some (n7, l_3)
theorem bits_Writer_Num_runs (n : Int) (n2 : Int) (l : List Int) (r_ : Int × List Int) (h : bits_Writer_Num n n2 l = some r_) : Runs Tryd.prog 158 [(.one (.ref 0 0)), (.one (.pv (.int .u64 n)))] [[(.own 0 0 (l).length false), (.pv (.int .i64 n2))]] [(.ints .u8 l)] (bits_Writer_Num_out n n2 l r_) := by
  unfold bits_Writer_Num at h
  obtain ⟨⟨n3, n4, n5, l_⟩, h1, h⟩ := bind_of h
  obtain ⟨⟨n6, l_2⟩, h2, h⟩ := bind_of h
  obtain ⟨⟨n7, l_3⟩, h3, h⟩ := bind_of h
  have h := some_of h
  subst h
  have t_ := tL (bits_Writer_Num_L0_runs _ _ h1) <| tR (bits_Writer_Put_2_runs 0 1 n5 l_ _ h2) <| tR (bits_Writer_Put_2_runs n3 n4 n6 l_2 _ h3) <| tN
  exact runs_of (C := cfg) (objs := [[(.own 0 0 (l).length false), (.pv (.int .i64 n2))]]) (sc := t_.ev) (.k0 t_.pf (by kernel_rfl))
/-! ### code_zero_out -/
def code_zero_out (e : Int) (e2 : T_event_halves) : Bool → Res
  | r1 => ([(.one (.pv (.bool r1)))], [], [])
/-! ### code_zero -/
noncomputable def code_zero (e : Int) (e2 : T_event_halves) : Option (Bool) :=
  (event_Event_IsLeaf e e2).bind fun b =>
  bif b then
    (event_Event_Base e e2).bind fun _ =>
    some (decide ((e : Int) = 0))
  else
    some false
theorem code_zero_runs (e : Int) (e2 : T_event_halves) (r_ : Bool) (h : code_zero e e2 = some r_) : Runs Tryd.prog 153 [(.agg [(.pv (.int .u64 e)), (.pv (T_event_halves.pv e2))])] [] [] (code_zero_out e e2 r_) := by
  unfold code_zero at h
  obtain ⟨b, h1, h⟩ := bind_of h
  rcases cond_of h with ⟨h2, h⟩ | ⟨h2, h⟩
  · obtain ⟨_, h3, h⟩ := bind_of h
    have h := some_of h
    subst h
    have t_ := tR (event_Event_IsLeaf_runs e e2 _ h1) <| tT h2 <| tR (event_Event_Base_runs e e2 _ h3) <| tN
    exact runs_of (C := cfg) (objs := []) (sc := t_.ev) (.k0 t_.pf (by kernel_rfl))
  · have h := some_of h
    subst h
    have t_ := tR (event_Event_IsLeaf_runs e e2 _ h1) <| tF h2 <| tN
    exact runs_of (C := cfg) (objs := []) (sc := t_.ev) (.k0 t_.pf (by kernel_rfl))
/-! ### code_PutEvent_L0 -/
def code_PutEvent_L0_st (r : List E_event_Event) : Int × Int × List Int → St
  | (n2, n, l) => ⟨[(0, (.av (.one (.ref 0 0)))), (75, (.av (.one (.own 1 0 ((List.map E_event_Event.pv r)).length true)))), (76, (.av (.one (.pv (.int .i64 2))))), (77, (.av (.one (.pv (.int .i64 n2)))))], [(0, [(.own 0 0 (l).length false), (.pv (.int .i64 n))])], [(0, (.live (.ints .u8 l))), (1, (.live (.recs 2 (List.map E_event_Event.pv r))))]⟩
def code_PutEvent_L0_ex (r : List E_event_Event) : Int × List Int → Ex × St
  | (r1, r2) => ((.exit 1), ⟨[], [(0, [(.own 0 0 (r2).length false), (.pv (.int .i64 r1))])], [(0, (.live (.ints .u8 r2))), (1, (.live (.recs 2 (List.map E_event_Event.pv r))))]⟩)
noncomputable def code_PutEvent_L0_step (rec_code_PutEvent : Int → T_event_halves → Int → List Int → Option (Int × List Int)) (r : List E_event_Event) : Int × Int × List Int → Option ((Int × Int × List Int) ⊕ (Int × List Int))
  | (n2, n, l) =>
  bif (decide ((n2 : Int) < 2)) then
    bif decide ((0 : Int) ≤ n2) && decide ((n2 : Int) < (((List.map E_event_Event.pv r)).length : Int)) then
    (r[(0 + (n2).toNat)]?).bind fun e_ => match e_ with
    | .mk n3 t =>
    (code_zero n3 t).bind fun b =>
    bif b then
      some (.inl ((iadd .i64 n2 1), n, l))
    else
      (rec_code_PutEvent n3 t n l).bind fun (n4, l_) =>
      some (.inl ((iadd .i64 n2 1), n4, l_))
    else none
  else
    some (.inr (n, l))
theorem code_PutEvent_L0_ok (rec_code_PutEvent : Int → T_event_halves → Int → List Int → Option (Int × List Int)) (hrec_code_PutEvent : ∀ e e2 n l r_, rec_code_PutEvent e e2 n l = some r_ → Runs Tryd.prog 135 [(.one (.ref 0 0)), (.agg [(.pv (.int .u64 e)), (.pv (T_event_halves.pv e2))])] [[(.own 0 0 (l).length false), (.pv (.int .i64 n))]] [(.ints .u8 l)] (code_PutEvent_out e e2 n l r_)) (r : List E_event_Event) (s_ : Int × Int × List Int) (z_ : (Int × Int × List Int) ⊕ (Int × List Int)) (h : code_PutEvent_L0_step rec_code_PutEvent r s_ = some z_) : RoundOk Tryd.prog cfg 135 1 (loopAt Tryd.prog 135 0) (code_PutEvent_L0_st r) (code_PutEvent_L0_ex r) s_ z_ := by
  rcases s_ with ⟨n2, n, l⟩
  rcases cond_of h with ⟨h1, h⟩ | ⟨h1, h⟩
  · obtain ⟨h2, h⟩ := need_of h
    obtain ⟨⟨n3, t⟩, h3, h⟩ := bind_of h
    obtain ⟨b, h4, h⟩ := bind_of h
    rcases cond_of h with ⟨h5, h⟩ | ⟨h5, h⟩
    · have h := some_of h
      subst h
      have t_ := tT h1 <| tO h2 <| tE (.el [(.int .u64 n3), (T_event_halves.pv t)]) <| tO (el_of (f := E_event_Event.pv) h3) <| tR (code_zero_runs n3 t _ h4) <| tF (not_of2 h5) <| tN
      exact ⟨t_.ev, code_PutEvent_L0_st r ((iadd .i64 n2 1), n, l), .k0 t_.pf (by kernel_rfl), .same (by kernel_rfl)⟩
    · obtain ⟨⟨n4, l_⟩, h6, h⟩ := bind_of h
      have h := some_of h
      subst h
      have t_ := tT h1 <| tO h2 <| tE (.el [(.int .u64 n3), (T_event_halves.pv t)]) <| tO (el_of (f := E_event_Event.pv) h3) <| tR (code_zero_runs n3 t _ h4) <| tT (not_of h5) <| tR (hrec_code_PutEvent n3 t n l _ h6) <| tN
      exact ⟨t_.ev, code_PutEvent_L0_st r ((iadd .i64 n2 1), n4, l_), .k0 t_.pf (by kernel_rfl), .same (by kernel_rfl)⟩
  · have h := some_of h
    subst h
    have t_ := tF h1 <| tN
    exact ⟨t_.ev, ⟨[(78, (.av (.one (.pv (.bool false))))), (0, (.av (.one (.ref 0 0)))), (75, (.av (.one (.own 1 0 ((List.map E_event_Event.pv r)).length true)))), (76, (.av (.one (.pv (.int .i64 2))))), (77, (.av (.one (.pv (.int .i64 n2))))), (78, (.av (.one (.pv (.bool (decide ((n2 : Int) < 2)))))))], [(0, [(.own 0 0 (l).length false), (.pv (.int .i64 n))])], [(0, (.live (.ints .u8 l))), (1, (.live (.recs 2 (List.map E_event_Event.pv r))))]⟩, .k0 t_.pf (by kernel_rfl), ⟨trivial, ⟨⟨rfl, ⟨.eq rfl, .eq rfl, trivial⟩⟩, trivial⟩, ⟨⟨rfl, .eq rfl⟩, ⟨rfl, .eq rfl⟩, trivial⟩⟩⟩
theorem code_PutEvent_L0_runs (rec_code_PutEvent : Int → T_event_halves → Int → List Int → Option (Int × List Int)) (hrec_code_PutEvent : ∀ e e2 n l r_, rec_code_PutEvent e e2 n l = some r_ → Runs Tryd.prog 135 [(.one (.ref 0 0)), (.agg [(.pv (.int .u64 e)), (.pv (T_event_halves.pv e2))])] [[(.own 0 0 (l).length false), (.pv (.int .i64 n))]] [(.ints .u8 l)] (code_PutEvent_out e e2 n l r_)) (r : List E_event_Event) (s_ : Int × Int × List Int) (r_ : Int × List Int) (h : runL (code_PutEvent_L0_step rec_code_PutEvent r) s_ = some r_) : LRuns Tryd.prog (lEnv Tryd.prog cfg 135 1).nt 1 (.loop (loopAt Tryd.prog 135 0)) (code_PutEvent_L0_st r s_) (code_PutEvent_L0_ex r r_).1 (code_PutEvent_L0_ex r r_).2 :=
  loop_run h (code_PutEvent_L0_ok rec_code_PutEvent hrec_code_PutEvent r) (by intro r_; rcases r_ with ⟨r1, r2⟩ <;> simp [code_PutEvent_L0_ex])
/-! ### code_PutEvent -/
noncomputable def code_PutEvent_b (rec_code_PutEvent : Int → T_event_halves → Int → List Int → Option (Int × List Int)) (e : Int) (e2 : T_event_halves) (n : Int) (l : List Int) : Option (Int × List Int) :=
  (event_Event_Left e e2).bind fun (n2, t) =>
  (event_Event_Right e e2).bind fun (n3, t2) =>
  (event_Event_IsLeaf e e2).bind fun b =>
  bif b then
    (bits_Writer_Put_2 1 1 n l).bind fun (n4, l_) =>
    (event_Event_Base e e2).bind fun _ =>
    (bits_Writer_Num e n4 l_).bind fun (n5, l_2) =>
    some (n5, l_2)
  else
    (bits_Writer_Put_2 0 1 n l).bind fun (n4, l_) =>
    (event_Event_Base e e2).bind fun _ =>
    bif (decide ((e : Int) = 0)) then
      (code_zero n2 t).bind fun b2 =>
      bif b2 then
        (bits_Writer_Put_2 0 2 n4 l_).bind fun (n5, l_2) =>
        bif (decide ((0 : Int) < e)) then
          (bits_Writer_Num e n5 l_2).bind fun (n6, l_3) =>
          (runL (code_PutEvent_L0_step rec_code_PutEvent [(E_event_Event.mk n2 t), (E_event_Event.mk n3 t2)]) (0, n6, l_3)).bind fun (n7, l_4) =>
          some (n7, l_4)
        else
          (runL (code_PutEvent_L0_step rec_code_PutEvent [(E_event_Event.mk n2 t), (E_event_Event.mk n3 t2)]) (0, n5, l_2)).bind fun (n6, l_3) =>
          some (n6, l_3)
      else
        (code_zero n3 t2).bind fun b3 =>
        bif b3 then
          (bits_Writer_Put_2 1 2 n4 l_).bind fun (n5, l_2) =>
          bif (decide ((0 : Int) < e)) then
            (bits_Writer_Num e n5 l_2).bind fun (n6, l_3) =>
            (runL (code_PutEvent_L0_step rec_code_PutEvent [(E_event_Event.mk n2 t), (E_event_Event.mk n3 t2)]) (0, n6, l_3)).bind fun (n7, l_4) =>
            some (n7, l_4)
          else
            (runL (code_PutEvent_L0_step rec_code_PutEvent [(E_event_Event.mk n2 t), (E_event_Event.mk n3 t2)]) (0, n5, l_2)).bind fun (n6, l_3) =>
            some (n6, l_3)
        else
          (bits_Writer_Put_2 2 2 n4 l_).bind fun (n5, l_2) =>
          bif (decide ((0 : Int) < e)) then
            (bits_Writer_Num e n5 l_2).bind fun (n6, l_3) =>
            (runL (code_PutEvent_L0_step rec_code_PutEvent [(E_event_Event.mk n2 t), (E_event_Event.mk n3 t2)]) (0, n6, l_3)).bind fun (n7, l_4) =>
            some (n7, l_4)
          else
            (runL (code_PutEvent_L0_step rec_code_PutEvent [(E_event_Event.mk n2 t), (E_event_Event.mk n3 t2)]) (0, n5, l_2)).bind fun (n6, l_3) =>
            some (n6, l_3)
    else
      (code_zero n2 t).bind fun b2 =>
      bif b2 then
        (bits_Writer_Put_2 3 2 n4 l_).bind fun (n5, l_2) =>
        (bits_Writer_Put_2 0 2 n5 l_2).bind fun (n6, l_3) =>
        bif (decide ((0 : Int) < e)) then
          (bits_Writer_Num e n6 l_3).bind fun (n7, l_4) =>
          (runL (code_PutEvent_L0_step rec_code_PutEvent [(E_event_Event.mk n2 t), (E_event_Event.mk n3 t2)]) (0, n7, l_4)).bind fun (n8, l_5) =>
          some (n8, l_5)
        else
          (runL (code_PutEvent_L0_step rec_code_PutEvent [(E_event_Event.mk n2 t), (E_event_Event.mk n3 t2)]) (0, n6, l_3)).bind fun (n7, l_4) =>
          some (n7, l_4)
      else
        (code_zero n3 t2).bind fun b3 =>
        bif b3 then
          (bits_Writer_Put_2 3 2 n4 l_).bind fun (n5, l_2) =>
          (bits_Writer_Put_2 1 2 n5 l_2).bind fun (n6, l_3) =>
          bif (decide ((0 : Int) < e)) then
            (bits_Writer_Num e n6 l_3).bind fun (n7, l_4) =>
            (runL (code_PutEvent_L0_step rec_code_PutEvent [(E_event_Event.mk n2 t), (E_event_Event.mk n3 t2)]) (0, n7, l_4)).bind fun (n8, l_5) =>
            some (n8, l_5)
          else
            (runL (code_PutEvent_L0_step rec_code_PutEvent [(E_event_Event.mk n2 t), (E_event_Event.mk n3 t2)]) (0, n6, l_3)).bind fun (n7, l_4) =>
            some (n7, l_4)
        else
          (bits_Writer_Put_2 3 2 n4 l_).bind fun (n5, l_2) =>
          (bits_Writer_Put_2 1 1 n5 l_2).bind fun (n6, l_3) =>
          bif (decide ((0 : Int) < e)) then
            (bits_Writer_Num e n6 l_3).bind fun (n7, l_4) =>
            (runL (code_PutEvent_L0_step rec_code_PutEvent [(E_event_Event.mk n2 t), (E_event_Event.mk n3 t2)]) (0, n7, l_4)).bind fun (n8, l_5) =>
            some (n8, l_5)
          else
            (runL (code_PutEvent_L0_step rec_code_PutEvent [(E_event_Event.mk n2 t), (E_event_Event.mk n3 t2)]) (0, n6, l_3)).bind fun (n7, l_4) =>
            some (n7, l_4)
theorem code_PutEvent_b_runs (rec_code_PutEvent : Int → T_event_halves → Int → List Int → Option (Int × List Int)) (hrec_code_PutEvent : ∀ e e2 n l r_, rec_code_PutEvent e e2 n l = some r_ → Runs Tryd.prog 135 [(.one (.ref 0 0)), (.agg [(.pv (.int .u64 e)), (.pv (T_event_halves.pv e2))])] [[(.own 0 0 (l).length false), (.pv (.int .i64 n))]] [(.ints .u8 l)] (code_PutEvent_out e e2 n l r_)) (e : Int) (e2 : T_event_halves) (n : Int) (l : List Int) (r_ : Int × List Int) (h : code_PutEvent_b rec_code_PutEvent e e2 n l = some r_) : Runs Tryd.prog 135 [(.one (.ref 0 0)), (.agg [(.pv (.int .u64 e)), (.pv (T_event_halves.pv e2))])] [[(.own 0 0 (l).length false), (.pv (.int .i64 n))]] [(.ints .u8 l)] (code_PutEvent_out e e2 n l r_) := by
  unfold code_PutEvent_b at h
  obtain ⟨⟨n2, t⟩, h1, h⟩ := bind_of h
  obtain ⟨⟨n3, t2⟩, h2, h⟩ := bind_of h
  obtain ⟨b, h3, h⟩ := bind_of h
  rcases cond_of h with ⟨h4, h⟩ | ⟨h4, h⟩
  · obtain ⟨⟨n4, l_⟩, h5, h⟩ := bind_of h
    obtain ⟨_, h6, h⟩ := bind_of h
    obtain ⟨⟨n5, l_2⟩, h7, h⟩ := bind_of h
    have h := some_of h
    subst h
    have t_ := tR (event_Event_Left_runs e e2 _ h1) <| tR (event_Event_Left_runs e e2 _ h1) <| tR (event_Event_Left_runs e e2 _ h1) <| tR (event_Event_Left_runs e e2 _ h1) <| tR (event_Event_Left_runs e e2 _ h1) <| tR (event_Event_Left_runs e e2 _ h1) <| tR (event_Event_Left_runs e e2 _ h1) <| tR (event_Event_Right_runs e e2 _ h2) <| tR (event_Event_Right_runs e e2 _ h2) <| tR (event_Event_Right_runs e e2 _ h2) <| tR (event_Event_Left_runs e e2 _ h1) <| tR (event_Event_Right_runs e e2 _ h2) <| tR (event_Event_IsLeaf_runs e e2 _ h3) <| tT h4 <| tR (bits_Writer_Put_2_runs 1 1 n l _ h5) <| tR (event_Event_Base_runs e e2 _ h6) <| tR (bits_Writer_Num_runs e n4 l_ _ h7) <| tN
    exact runs_of (C := cfg) (objs := [[(.own 0 0 (l).length false), (.pv (.int .i64 n))]]) (sc := t_.ev) (.k1 t_.pf (by kernel_rfl) (by kernel_rfl))
  · obtain ⟨⟨n4, l_⟩, h5, h⟩ := bind_of h
    obtain ⟨_, h6, h⟩ := bind_of h
    rcases cond_of h with ⟨h7, h⟩ | ⟨h7, h⟩
    · obtain ⟨b2, h8, h⟩ := bind_of h
      rcases cond_of h with ⟨h9, h⟩ | ⟨h9, h⟩
      · obtain ⟨⟨n5, l_2⟩, h10, h⟩ := bind_of h
        rcases cond_of h with ⟨h11, h⟩ | ⟨h11, h⟩
        · obtain ⟨⟨n6, l_3⟩, h12, h⟩ := bind_of h
          obtain ⟨⟨n7, l_4⟩, h13, h⟩ := bind_of h
          have h := some_of h
          subst h
          have t_ := tR (event_Event_Left_runs e e2 _ h1) <| tR (event_Event_Left_runs e e2 _ h1) <| tR (event_Event_Left_runs e e2 _ h1) <| tR (event_Event_Left_runs e e2 _ h1) <| tR (event_Event_Left_runs e e2 _ h1) <| tR (event_Event_Left_runs e e2 _ h1) <| tR (event_Event_Left_runs e e2 _ h1) <| tR (event_Event_Right_runs e e2 _ h2) <| tR (event_Event_Right_runs e e2 _ h2) <| tR (event_Event_Right_runs e e2 _ h2) <| tR (event_Event_Left_runs e e2 _ h1) <| tR (event_Event_Right_runs e e2 _ h2) <| tR (event_Event_IsLeaf_runs e e2 _ h3) <| tF h4 <| tR (bits_Writer_Put_2_runs 0 1 n l _ h5) <| tR (event_Event_Base_runs e e2 _ h6) <| tT h7 <| tR (code_zero_runs n2 t _ h8) <| tT h9 <| tR (bits_Writer_Put_2_runs 0 2 n4 l_ _ h10) <| tR (event_Event_Base_runs e e2 _ h6) <| tT h11 <| tR (event_Event_Base_runs e e2 _ h6) <| tR (bits_Writer_Num_runs e n5 l_2 _ h12) <| tL (LRuns.coe (s0 := ⟨[(0, (.av (.one (.ref 0 0)))), (75, (.av (.one (.own 1 0 2 true)))), (76, (.av (.one (.pv (.int .i64 2))))), (77, (.av (.one (.pv (.int .i64 0)))))], [(0, [(.own 0 0 (l_3).length false), (.pv (.int .i64 n6))])], [(0, (.live (.ints .u8 l_3))), (1, (.live (.recs 2 [[(.int .u64 n2), (T_event_halves.pv t)], [(.int .u64 n3), (T_event_halves.pv t2)]])))]⟩) (code_PutEvent_L0_runs rec_code_PutEvent hrec_code_PutEvent [(E_event_Event.mk n2 t), (E_event_Event.mk n3 t2)] _ _ h13) ⟨⟨⟨_, rfl, .eq rfl⟩, ⟨_, rfl, .own (by first | rfl | (simp only [List.take_length]; done) | (simp only [List.take_length, List.length_append, List.drop_zero, List.map_append, List.map_take, List.map_drop, List.map_cons, List.map_nil, List.append_nil, List.nil_append, E_event_Event.pv]; done) | (simp; done))⟩, ⟨_, rfl, .eq rfl⟩, ⟨_, rfl, .eq rfl⟩, trivial⟩, ⟨⟨rfl, ⟨.eq rfl, .eq rfl, trivial⟩⟩, trivial⟩, ⟨⟨rfl, .eq rfl⟩, ⟨rfl, .recs (.cons (.cons (.eq rfl) (.cons (.eq rfl) (.nil))) (.cons (.cons (.eq rfl) (.cons (.eq rfl) (.nil))) (.nil)))⟩, trivial⟩⟩) <| tN
          exact runs_of (C := cfg) (objs := [[(.own 0 0 (l).length false), (.pv (.int .i64 n))]]) (sc := t_.ev) (.k1 t_.pf (by kernel_rfl) (by kernel_rfl))
        · obtain ⟨⟨n6, l_3⟩, h12, h⟩ := bind_of h
          have h := some_of h
          subst h
          have t_ := tR (event_Event_Left_runs e e2 _ h1) <| tR (event_Event_Left_runs e e2 _ h1) <| tR (event_Event_Left_runs e e2 _ h1) <| tR (event_Event_Left_runs e e2 _ h1) <| tR (event_Event_Left_runs e e2 _ h1) <| tR (event_Event_Left_runs e e2 _ h1) <| tR (event_Event_Left_runs e e2 _ h1) <| tR (event_Event_Right_runs e e2 _ h2) <| tR (event_Event_Right_runs e e2 _ h2) <| tR (event_Event_Right_runs e e2 _ h2) <| tR (event_Event_Left_runs e e2 _ h1) <| tR (event_Event_Right_runs e e2 _ h2) <| tR (event_Event_IsLeaf_runs e e2 _ h3) <| tF h4 <| tR (bits_Writer_Put_2_runs 0 1 n l _ h5) <| tR (event_Event_Base_runs e e2 _ h6) <| tT h7 <| tR (code_zero_runs n2 t _ h8) <| tT h9 <| tR (bits_Writer_Put_2_runs 0 2 n4 l_ _ h10) <| tR (event_Event_Base_runs e e2 _ h6) <| tF h11 <| tL (LRuns.coe (s0 := ⟨[(0, (.av (.one (.ref 0 0)))), (75, (.av (.one (.own 1 0 2 true)))), (76, (.av (.one (.pv (.int .i64 2))))), (77, (.av (.one (.pv (.int .i64 0)))))], [(0, [(.own 0 0 (l_2).length false), (.pv (.int .i64 n5))])], [(0, (.live (.ints .u8 l_2))), (1, (.live (.recs 2 [[(.int .u64 n2), (T_event_halves.pv t)], [(.int .u64 n3), (T_event_halves.pv t2)]])))]⟩) (code_PutEvent_L0_runs rec_code_PutEvent hrec_code_PutEvent [(E_event_Event.mk n2 t), (E_event_Event.mk n3 t2)] _ _ h12) ⟨⟨⟨_, rfl, .eq rfl⟩, ⟨_, rfl, .own (by first | rfl | (simp only [List.take_length]; done) | (simp only [List.take_length, List.length_append, List.drop_zero, List.map_append, List.map_take, List.map_drop, List.map_cons, List.map_nil, List.append_nil, List.nil_append, E_event_Event.pv]; done) | (simp; done))⟩, ⟨_, rfl, .eq rfl⟩, ⟨_, rfl, .eq rfl⟩, trivial⟩, ⟨⟨rfl, ⟨.eq rfl, .eq rfl, trivial⟩⟩, trivial⟩, ⟨⟨rfl, .eq rfl⟩, ⟨rfl, .recs (.cons (.cons (.eq rfl) (.cons (.eq rfl) (.nil))) (.cons (.cons (.eq rfl) (.cons (.eq rfl) (.nil))) (.nil)))⟩, trivial⟩⟩) <| tN
          exact runs_of (C := cfg) (objs := [[(.own 0 0 (l).length false), (.pv (.int .i64 n))]]) (sc := t_.ev) (.k1 t_.pf (by kernel_rfl) (by kernel_rfl))
      · obtain ⟨b3, h10, h⟩ := bind_of h
        rcases cond_of h with ⟨h11, h⟩ | ⟨h11, h⟩
        · obtain ⟨⟨n5, l_2⟩, h12, h⟩ := bind_of h
          rcases cond_of h with ⟨h13, h⟩ | ⟨h13, h⟩
          · obtain ⟨⟨n6, l_3⟩, h14, h⟩ := bind_of h
            obtain ⟨⟨n7, l_4⟩, h15, h⟩ := bind_of h
            have h := some_of h
            subst h
            have t_ := tR (event_Event_Left_runs e e2 _ h1) <| tR (event_Event_Left_runs e e2 _ h1) <| tR (event_Event_Left_runs e e2 _ h1) <| tR (event_Event_Left_runs e e2 _ h1) <| tR (event_Event_Left_runs e e2 _ h1) <| tR (event_Event_Left_runs e e2 _ h1) <| tR (event_Event_Left_runs e e2 _ h1) <| tR (event_Event_Right_runs e e2 _ h2) <| tR (event_Event_Right_runs e e2 _ h2) <| tR (event_Event_Right_runs e e2 _ h2) <| tR (event_Event_Left_runs e e2 _ h1) <| tR (event_Event_Right_runs e e2 _ h2) <| tR (event_Event_IsLeaf_runs e e2 _ h3) <| tF h4 <| tR (bits_Writer_Put_2_runs 0 1 n l _ h5) <| tR (event_Event_Base_runs e e2 _ h6) <| tT h7 <| tR (code_zero_runs n2 t _ h8) <| tF h9 <| tR (event_Event_Base_runs e e2 _ h6) <| tT h7 <| tR (code_zero_runs n3 t2 _ h10) <| tT h11 <| tR (bits_Writer_Put_2_runs 1 2 n4 l_ _ h12) <| tR (event_Event_Base_runs e e2 _ h6) <| tT h13 <| tR (event_Event_Base_runs e e2 _ h6) <| tR (bits_Writer_Num_runs e n5 l_2 _ h14) <| tL (LRuns.coe (s0 := ⟨[(0, (.av (.one (.ref 0 0)))), (75, (.av (.one (.own 1 0 2 true)))), (76, (.av (.one (.pv (.int .i64 2))))), (77, (.av (.one (.pv (.int .i64 0)))))], [(0, [(.own 0 0 (l_3).length false), (.pv (.int .i64 n6))])], [(0, (.live (.ints .u8 l_3))), (1, (.live (.recs 2 [[(.int .u64 n2), (T_event_halves.pv t)], [(.int .u64 n3), (T_event_halves.pv t2)]])))]⟩) (code_PutEvent_L0_runs rec_code_PutEvent hrec_code_PutEvent [(E_event_Event.mk n2 t), (E_event_Event.mk n3 t2)] _ _ h15) ⟨⟨⟨_, rfl, .eq rfl⟩, ⟨_, rfl, .own (by first | rfl | (simp only [List.take_length]; done) | (simp only [List.take_length, List.length_append, List.drop_zero, List.map_append, List.map_take, List.map_drop, List.map_cons, List.map_nil, List.append_nil, List.nil_append, E_event_Event.pv]; done) | (simp; done))⟩, ⟨_, rfl, .eq rfl⟩, ⟨_, rfl, .eq rfl⟩, trivial⟩, ⟨⟨rfl, ⟨.eq rfl, .eq rfl, trivial⟩⟩, trivial⟩, ⟨⟨rfl, .eq rfl⟩, ⟨rfl, .recs (.cons (.cons (.eq rfl) (.cons (.eq rfl) (.nil))) (.cons (.cons (.eq rfl) (.cons (.eq rfl) (.nil))) (.nil)))⟩, trivial⟩⟩) <| tN
            exact runs_of (C := cfg) (objs := [[(.own 0 0 (l).length false), (.pv (.int .i64 n))]]) (sc := t_.ev) (.k1 t_.pf (by kernel_rfl) (by kernel_rfl))
          · obtain ⟨⟨n6, l_3⟩, h14, h⟩ := bind_of h
            have h := some_of h
            subst h
            have t_ := tR (event_Event_Left_runs e e2 _ h1) <| tR (event_Event_Left_runs e e2 _ h1) <| tR (event_Event_Left_runs e e2 _ h1) <| tR (event_Event_Left_runs e e2 _ h1) <| tR (event_Event_Left_runs e e2 _ h1) <| tR (event_Event_Left_runs e e2 _ h1) <| tR (event_Event_Left_runs e e2 _ h1) <| tR (event_Event_Right_runs e e2 _ h2) <| tR (event_Event_Right_runs e e2 _ h2) <| tR (event_Event_Right_runs e e2 _ h2) <| tR (event_Event_Left_runs e e2 _ h1) <| tR (event_Event_Right_runs e e2 _ h2) <| tR (event_Event_IsLeaf_runs e e2 _ h3) <| tF h4 <| tR (bits_Writer_Put_2_runs 0 1 n l _ h5) <| tR (event_Event_Base_runs e e2 _ h6) <| tT h7 <| tR (code_zero_runs n2 t _ h8) <| tF h9 <| tR (event_Event_Base_runs e e2 _ h6) <| tT h7 <| tR (code_zero_runs n3 t2 _ h10) <| tT h11 <| tR (bits_Writer_Put_2_runs 1 2 n4 l_ _ h12) <| tR (event_Event_Base_runs e e2 _ h6) <| tF h13 <| tL (LRuns.coe (s0 := ⟨[(0, (.av (.one (.ref 0 0)))), (75, (.av (.one (.own 1 0 2 true)))), (76, (.av (.one (.pv (.int .i64 2))))), (77, (.av (.one (.pv (.int .i64 0)))))], [(0, [(.own 0 0 (l_2).length false), (.pv (.int .i64 n5))])], [(0, (.live (.ints .u8 l_2))), (1, (.live (.recs 2 [[(.int .u64 n2), (T_event_halves.pv t)], [(.int .u64 n3), (T_event_halves.pv t2)]])))]⟩) (code_PutEvent_L0_runs rec_code_PutEvent hrec_code_PutEvent [(E_event_Event.mk n2 t), (E_event_Event.mk n3 t2)] _ _ h14) ⟨⟨⟨_, rfl, .eq rfl⟩, ⟨_, rfl, .own (by first | rfl | (simp only [List.take_length]; done) | (simp only [List.take_length, List.length_append, List.drop_zero, List.map_append, List.map_take, List.map_drop, List.map_cons, List.map_nil, List.append_nil, List.nil_append, E_event_Event.pv]; done) | (simp; done))⟩, ⟨_, rfl, .eq rfl⟩, ⟨_, rfl, .eq rfl⟩, trivial⟩, ⟨⟨rfl, ⟨.eq rfl, .eq rfl, trivial⟩⟩, trivial⟩, ⟨⟨rfl, .eq rfl⟩, ⟨rfl, .recs (.cons (.cons (.eq rfl) (.cons (.eq rfl) (.nil))) (.cons (.cons (.eq rfl) (.cons (.eq rfl) (.nil))) (.nil)))⟩, trivial⟩⟩) <| tN
            exact runs_of (C := cfg) (objs := [[(.own 0 0 (l).length false), (.pv (.int .i64 n))]]) (sc := t_.ev) (.k1 t_.pf (by kernel_rfl) (by kernel_rfl))
        · obtain ⟨⟨n5, l_2⟩, h12, h⟩ := bind_of h
          rcases cond_of h with ⟨h13, h⟩ | ⟨h13, h⟩
          · obtain ⟨⟨n6, l_3⟩, h14, h⟩ := bind_of h
            obtain ⟨⟨n7, l_4⟩, h15, h⟩ := bind_of h
            have h := some_of h
            subst h
            have t_ := tR (event_Event_Left_runs e e2 _ h1) <| tR (event_Event_Left_runs e e2 _ h1) <| tR (event_Event_Left_runs e e2 _ h1) <| tR (event_Event_Left_runs e e2 _ h1) <| tR (event_Event_Left_runs e e2 _ h1) <| tR (event_Event_Left_runs e e2 _ h1) <| tR (event_Event_Left_runs e e2 _ h1) <| tR (event_Event_Right_runs e e2 _ h2) <| tR (event_Event_Right_runs e e2 _ h2) <| tR (event_Event_Right_runs e e2 _ h2) <| tR (event_Event_Left_runs e e2 _ h1) <| tR (event_Event_Right_runs e e2 _ h2) <| tR (event_Event_IsLeaf_runs e e2 _ h3) <| tF h4 <| tR (bits_Writer_Put_2_runs 0 1 n l _ h5) <| tR (event_Event_Base_runs e e2 _ h6) <| tT h7 <| tR (code_zero_runs n2 t _ h8) <| tF h9 <| tR (event_Event_Base_runs e e2 _ h6) <| tT h7 <| tR (code_zero_runs n3 t2 _ h10) <| tF h11 <| tR (event_Event_Base_runs e e2 _ h6) <| tT h7 <| tR (bits_Writer_Put_2_runs 2 2 n4 l_ _ h12) <| tR (event_Event_Base_runs e e2 _ h6) <| tT h13 <| tR (event_Event_Base_runs e e2 _ h6) <| tR (bits_Writer_Num_runs e n5 l_2 _ h14) <| tL (LRuns.coe (s0 := ⟨[(0, (.av (.one (.ref 0 0)))), (75, (.av (.one (.own 1 0 2 true)))), (76, (.av (.one (.pv (.int .i64 2))))), (77, (.av (.one (.pv (.int .i64 0)))))], [(0, [(.own 0 0 (l_3).length false), (.pv (.int .i64 n6))])], [(0, (.live (.ints .u8 l_3))), (1, (.live (.recs 2 [[(.int .u64 n2), (T_event_halves.pv t)], [(.int .u64 n3), (T_event_halves.pv t2)]])))]⟩) (code_PutEvent_L0_runs rec_code_PutEvent hrec_code_PutEvent [(E_event_Event.mk n2 t), (E_event_Event.mk n3 t2)] _ _ h15) ⟨⟨⟨_, rfl, .eq rfl⟩, ⟨_, rfl, .own (by first | rfl | (simp only [List.take_length]; done) | (simp only [List.take_length, List.length_append, List.drop_zero, List.map_append, List.map_take, List.map_drop, List.map_cons, List.map_nil, List.append_nil, List.nil_append, E_event_Event.pv]; done) | (simp; done))⟩, ⟨_, rfl, .eq rfl⟩, ⟨_, rfl, .eq rfl⟩, trivial⟩, ⟨⟨rfl, ⟨.eq rfl, .eq rfl, trivial⟩⟩, trivial⟩, ⟨⟨rfl, .eq rfl⟩, ⟨rfl, .recs (.cons (.cons (.eq rfl) (.cons (.eq rfl) (.nil))) (.cons (.cons (.eq rfl) (.cons (.eq rfl) (.nil))) (.nil)))⟩, trivial⟩⟩) <| tN
            exact runs_of (C := cfg) (objs := [[(.own 0 0 (l).length false), (.pv (.int .i64 n))]]) (sc := t_.ev) (.k1 t_.pf (by kernel_rfl) (by kernel_rfl))
          · obtain ⟨⟨n6, l_3⟩, h14, h⟩ := bind_of h
            have h := some_of h
            subst h
            have t_ := tR (event_Event_Left_runs e e2 _ h1) <| tR (event_Event_Left_runs e e2 _ h1) <| tR (event_Event_Left_runs e e2 _ h1) <| tR (event_Event_Left_runs e e2 _ h1) <| tR (event_Event_Left_runs e e2 _ h1) <| tR (event_Event_Left_runs e e2 _ h1) <| tR (event_Event_Left_runs e e2 _ h1) <| tR (event_Event_Right_runs e e2 _ h2) <| tR (event_Event_Right_runs e e2 _ h2) <| tR (event_Event_Right_runs e e2 _ h2) <| tR (event_Event_Left_runs e e2 _ h1) <| tR (event_Event_Right_runs e e2 _ h2) <| tR (event_Event_IsLeaf_runs e e2 _ h3) <| tF h4 <| tR (bits_Writer_Put_2_runs 0 1 n l _ h5) <| tR (event_Event_Base_runs e e2 _ h6) <| tT h7 <| tR (code_zero_runs n2 t _ h8) <| tF h9 <| tR (event_Event_Base_runs e e2 _ h6) <| tT h7 <| tR (code_zero_runs n3 t2 _ h10) <| tF h11 <| tR (event_Event_Base_runs e e2 _ h6) <| tT h7 <| tR (bits_Writer_Put_2_runs 2 2 n4 l_ _ h12) <| tR (event_Event_Base_runs e e2 _ h6) <| tF h13 <| tL (LRuns.coe (s0 := ⟨[(0, (.av (.one (.ref 0 0)))), (75, (.av (.one (.own 1 0 2 true)))), (76, (.av (.one (.pv (.int .i64 2))))), (77, (.av (.one (.pv (.int .i64 0)))))], [(0, [(.own 0 0 (l_2).length false), (.pv (.int .i64 n5))])], [(0, (.live (.ints .u8 l_2))), (1, (.live (.recs 2 [[(.int .u64 n2), (T_event_halves.pv t)], [(.int .u64 n3), (T_event_halves.pv t2)]])))]⟩) (code_PutEvent_L0_runs rec_code_PutEvent hrec_code_PutEvent [(E_event_Event.mk n2 t), (E_event_Event.mk n3 t2)] _ _ h14) ⟨⟨⟨_, rfl, .eq rfl⟩, ⟨_, rfl, .own (by first | rfl | (simp only [List.take_length]; done) | (simp only [List.take_length, List.length_append, List.drop_zero, List.map_append, List.map_take, List.map_drop, List.map_cons, List.map_nil, List.append_nil, List.nil_append, E_event_Event.pv]; done) | (simp; done))⟩, ⟨_, rfl, .eq rfl⟩, ⟨_, rfl, .eq rfl⟩, trivial⟩, ⟨⟨rfl, ⟨.eq rfl, .eq rfl, trivial⟩⟩, trivial⟩, ⟨⟨rfl, .eq rfl⟩, ⟨rfl, .recs (.cons (.cons (.eq rfl) (.cons (.eq rfl) (.nil))) (.cons (.cons (.eq rfl) (.cons (.eq rfl) (.nil))) (.nil)))⟩, trivial⟩⟩) <| tN
            exact runs_of (C := cfg) (objs := [[(.own 0 0 (l).length false), (.pv (.int .i64 n))]]) (sc := t_.ev) (.k1 t_.pf (by kernel_rfl) (by kernel_rfl))
    · obtain ⟨b2, h8, h⟩ := bind_of h
      rcases cond_of h with ⟨h9, h⟩ | ⟨h9, h⟩
      · obtain ⟨⟨n5, l_2⟩, h10, h⟩ := bind_of h
        obtain ⟨⟨n6, l_3⟩, h11, h⟩ := bind_of h
        rcases cond_of h with ⟨h12, h⟩ | ⟨h12, h⟩
        · obtain ⟨⟨n7, l_4⟩, h13, h⟩ := bind_of h
          obtain ⟨⟨n8, l_5⟩, h14, h⟩ := bind_of h
          have h := some_of h
          subst h
          have t_ := tR (event_Event_Left_runs e e2 _ h1) <| tR (event_Event_Left_runs e e2 _ h1) <| tR (event_Event_Left_runs e e2 _ h1) <| tR (event_Event_Left_runs e e2 _ h1) <| tR (event_Event_Left_runs e e2 _ h1) <| tR (event_Event_Left_runs e e2 _ h1) <| tR (event_Event_Left_runs e e2 _ h1) <| tR (event_Event_Right_runs e e2 _ h2) <| tR (event_Event_Right_runs e e2 _ h2) <| tR (event_Event_Right_runs e e2 _ h2) <| tR (event_Event_Left_runs e e2 _ h1) <| tR (event_Event_Right_runs e e2 _ h2) <| tR (event_Event_IsLeaf_runs e e2 _ h3) <| tF h4 <| tR (bits_Writer_Put_2_runs 0 1 n l _ h5) <| tR (event_Event_Base_runs e e2 _ h6) <| tF h7 <| tF (rfl : false = false) <| tR (event_Event_Base_runs e e2 _ h6) <| tF h7 <| tF (rfl : false = false) <| tR (event_Event_Base_runs e e2 _ h6) <| tF h7 <| tR (code_zero_runs n2 t _ h8) <| tT h9 <| tR (bits_Writer_Put_2_runs 3 2 n4 l_ _ h10) <| tR (bits_Writer_Put_2_runs 0 2 n5 l_2 _ h11) <| tR (event_Event_Base_runs e e2 _ h6) <| tT h12 <| tR (event_Event_Base_runs e e2 _ h6) <| tR (bits_Writer_Num_runs e n6 l_3 _ h13) <| tL (LRuns.coe (s0 := ⟨[(0, (.av (.one (.ref 0 0)))), (75, (.av (.one (.own 1 0 2 true)))), (76, (.av (.one (.pv (.int .i64 2))))), (77, (.av (.one (.pv (.int .i64 0)))))], [(0, [(.own 0 0 (l_4).length false), (.pv (.int .i64 n7))])], [(0, (.live (.ints .u8 l_4))), (1, (.live (.recs 2 [[(.int .u64 n2), (T_event_halves.pv t)], [(.int .u64 n3), (T_event_halves.pv t2)]])))]⟩) (code_PutEvent_L0_runs rec_code_PutEvent hrec_code_PutEvent [(E_event_Event.mk n2 t), (E_event_Event.mk n3 t2)] _ _ h14) ⟨⟨⟨_, rfl, .eq rfl⟩, ⟨_, rfl, .own (by first | rfl | (simp only [List.take_length]; done) | (simp only [List.take_length, List.length_append, List.drop_zero, List.map_append, List.map_take, List.map_drop, List.map_cons, List.map_nil, List.append_nil, List.nil_append, E_event_Event.pv]; done) | (simp; done))⟩, ⟨_, rfl, .eq rfl⟩, ⟨_, rfl, .eq rfl⟩, trivial⟩, ⟨⟨rfl, ⟨.eq rfl, .eq rfl, trivial⟩⟩, trivial⟩, ⟨⟨rfl, .eq rfl⟩, ⟨rfl, .recs (.cons (.cons (.eq rfl) (.cons (.eq rfl) (.nil))) (.cons (.cons (.eq rfl) (.cons (.eq rfl) (.nil))) (.nil)))⟩, trivial⟩⟩) <| tN
          exact runs_of (C := cfg) (objs := [[(.own 0 0 (l).length false), (.pv (.int .i64 n))]]) (sc := t_.ev) (.k1 t_.pf (by kernel_rfl) (by kernel_rfl))
        · obtain ⟨⟨n7, l_4⟩, h13, h⟩ := bind_of h
          have h := some_of h
          subst h
          have t_ := tR (event_Event_Left_runs e e2 _ h1) <| tR (event_Event_Left_runs e e2 _ h1) <| tR (event_Event_Left_runs e e2 _ h1) <| tR (event_Event_Left_runs e e2 _ h1) <| tR (event_Event_Left_runs e e2 _ h1) <| tR (event_Event_Left_runs e e2 _ h1) <| tR (event_Event_Left_runs e e2 _ h1) <| tR (event_Event_Right_runs e e2 _ h2) <| tR (event_Event_Right_runs e e2 _ h2) <| tR (event_Event_Right_runs e e2 _ h2) <| tR (event_Event_Left_runs e e2 _ h1) <| tR (event_Event_Right_runs e e2 _ h2) <| tR (event_Event_IsLeaf_runs e e2 _ h3) <| tF h4 <| tR (bits_Writer_Put_2_runs 0 1 n l _ h5) <| tR (event_Event_Base_runs e e2 _ h6) <| tF h7 <| tF (rfl : false = false) <| tR (event_Event_Base_runs e e2 _ h6) <| tF h7 <| tF (rfl : false = false) <| tR (event_Event_Base_runs e e2 _ h6) <| tF h7 <| tR (code_zero_runs n2 t _ h8) <| tT h9 <| tR (bits_Writer_Put_2_runs 3 2 n4 l_ _ h10) <| tR (bits_Writer_Put_2_runs 0 2 n5 l_2 _ h11) <| tR (event_Event_Base_runs e e2 _ h6) <| tF h12 <| tL (LRuns.coe (s0 := ⟨[(0, (.av (.one (.ref 0 0)))), (75, (.av (.one (.own 1 0 2 true)))), (76, (.av (.one (.pv (.int .i64 2))))), (77, (.av (.one (.pv (.int .i64 0)))))], [(0, [(.own 0 0 (l_3).length false), (.pv (.int .i64 n6))])], [(0, (.live (.ints .u8 l_3))), (1, (.live (.recs 2 [[(.int .u64 n2), (T_event_halves.pv t)], [(.int .u64 n3), (T_event_halves.pv t2)]])))]⟩) (code_PutEvent_L0_runs rec_code_PutEvent hrec_code_PutEvent [(E_event_Event.mk n2 t), (E_event_Event.mk n3 t2)] _ _ h13) ⟨⟨⟨_, rfl, .eq rfl⟩, ⟨_, rfl, .own (by first | rfl | (simp only [List.take_length]; done) | (simp only [List.take_length, List.length_append, List.drop_zero, List.map_append, List.map_take, List.map_drop, List.map_cons, List.map_nil, List.append_nil, List.nil_append, E_event_Event.pv]; done) | (simp; done))⟩, ⟨_, rfl, .eq rfl⟩, ⟨_, rfl, .eq rfl⟩, trivial⟩, ⟨⟨rfl, ⟨.eq rfl, .eq rfl, trivial⟩⟩, trivial⟩, ⟨⟨rfl, .eq rfl⟩, ⟨rfl, .recs (.cons (.cons (.eq rfl) (.cons (.eq rfl) (.nil))) (.cons (.cons (.eq rfl) (.cons (.eq rfl) (.nil))) (.nil)))⟩, trivial⟩⟩) <| tN
          exact runs_of (C := cfg) (objs := [[(.own 0 0 (l).length false), (.pv (.int .i64 n))]]) (sc := t_.ev) (.k1 t_.pf (by kernel_rfl) (by kernel_rfl))
      · obtain ⟨b3, h10, h⟩ := bind_of h
        rcases cond_of h with ⟨h11, h⟩ | ⟨h11, h⟩
        · obtain ⟨⟨n5, l_2⟩, h12, h⟩ := bind_of h
          obtain ⟨⟨n6, l_3⟩, h13, h⟩ := bind_of h
          rcases cond_of h with ⟨h14, h⟩ | ⟨h14, h⟩
          · obtain ⟨⟨n7, l_4⟩, h15, h⟩ := bind_of h
            obtain ⟨⟨n8, l_5⟩, h16, h⟩ := bind_of h
            have h := some_of h
            subst h
            have t_ := tR (event_Event_Left_runs e e2 _ h1) <| tR (event_Event_Left_runs e e2 _ h1) <| tR (event_Event_Left_runs e e2 _ h1) <| tR (event_Event_Left_runs e e2 _ h1) <| tR (event_Event_Left_runs e e2 _ h1) <| tR (event_Event_Left_runs e e2 _ h1) <| tR (event_Event_Left_runs e e2 _ h1) <| tR (event_Event_Right_runs e e2 _ h2) <| tR (event_Event_Right_runs e e2 _ h2) <| tR (event_Event_Right_runs e e2 _ h2) <| tR (event_Event_Left_runs e e2 _ h1) <| tR (event_Event_Right_runs e e2 _ h2) <| tR (event_Event_IsLeaf_runs e e2 _ h3) <| tF h4 <| tR (bits_Writer_Put_2_runs 0 1 n l _ h5) <| tR (event_Event_Base_runs e e2 _ h6) <| tF h7 <| tF (rfl : false = false) <| tR (event_Event_Base_runs e e2 _ h6) <| tF h7 <| tF (rfl : false = false) <| tR (event_Event_Base_runs e e2 _ h6) <| tF h7 <| tR (code_zero_runs n2 t _ h8) <| tF h9 <| tR (code_zero_runs n3 t2 _ h10) <| tT h11 <| tR (bits_Writer_Put_2_runs 3 2 n4 l_ _ h12) <| tR (bits_Writer_Put_2_runs 1 2 n5 l_2 _ h13) <| tR (event_Event_Base_runs e e2 _ h6) <| tT h14 <| tR (event_Event_Base_runs e e2 _ h6) <| tR (bits_Writer_Num_runs e n6 l_3 _ h15) <| tL (LRuns.coe (s0 := ⟨[(0, (.av (.one (.ref 0 0)))), (75, (.av (.one (.own 1 0 2 true)))), (76, (.av (.one (.pv (.int .i64 2))))), (77, (.av (.one (.pv (.int .i64 0)))))], [(0, [(.own 0 0 (l_4).length false), (.pv (.int .i64 n7))])], [(0, (.live (.ints .u8 l_4))), (1, (.live (.recs 2 [[(.int .u64 n2), (T_event_halves.pv t)], [(.int .u64 n3), (T_event_halves.pv t2)]])))]⟩) (code_PutEvent_L0_runs rec_code_PutEvent hrec_code_PutEvent [(E_event_Event.mk n2 t), (E_event_Event.mk n3 t2)] _ _ h16) ⟨⟨⟨_, rfl, .eq rfl⟩, ⟨_, rfl, .own (by first | rfl | (simp only [List.take_length]; done) | (simp only [List.take_length, List.length_append, List.drop_zero, List.map_append, List.map_take, List.map_drop, List.map_cons, List.map_nil, List.append_nil, List.nil_append, E_event_Event.pv]; done) | (simp; done))⟩, ⟨_, rfl, .eq rfl⟩, ⟨_, rfl, .eq rfl⟩, trivial⟩, ⟨⟨rfl, ⟨.eq rfl, .eq rfl, trivial⟩⟩, trivial⟩, ⟨⟨rfl, .eq rfl⟩, ⟨rfl, .recs (.cons (.cons (.eq rfl) (.cons (.eq rfl) (.nil))) (.cons (.cons (.eq rfl) (.cons (.eq rfl) (.nil))) (.nil)))⟩, trivial⟩⟩) <| tN
            exact runs_of (C := cfg) (objs := [[(.own 0 0 (l).length false), (.pv (.int .i64 n))]]) (sc := t_.ev) (.k1 t_.pf (by kernel_rfl) (by kernel_rfl))
          · obtain ⟨⟨n7, l_4⟩, h15, h⟩ := bind_of h
            have h := some_of h
            subst h
            have t_ := tR (event_Event_Left_runs e e2 _ h1) <| tR (event_Event_Left_runs e e2 _ h1) <| tR (event_Event_Left_runs e e2 _ h1) <| tR (event_Event_Left_runs e e2 _ h1) <| tR (event_Event_Left_runs e e2 _ h1) <| tR (event_Event_Left_runs e e2 _ h1) <| tR (event_Event_Left_runs e e2 _ h1) <| tR (event_Event_Right_runs e e2 _ h2) <| tR (event_Event_Right_runs e e2 _ h2) <| tR (event_Event_Right_runs e e2 _ h2) <| tR (event_Event_Left_runs e e2 _ h1) <| tR (event_Event_Right_runs e e2 _ h2) <| tR (event_Event_IsLeaf_runs e e2 _ h3) <| tF h4 <| tR (bits_Writer_Put_2_runs 0 1 n l _ h5) <| tR (event_Event_Base_runs e e2 _ h6) <| tF h7 <| tF (rfl : false = false) <| tR (event_Event_Base_runs e e2 _ h6) <| tF h7 <| tF (rfl : false = false) <| tR (event_Event_Base_runs e e2 _ h6) <| tF h7 <| tR (code_zero_runs n2 t _ h8) <| tF h9 <| tR (code_zero_runs n3 t2 _ h10) <| tT h11 <| tR (bits_Writer_Put_2_runs 3 2 n4 l_ _ h12) <| tR (bits_Writer_Put_2_runs 1 2 n5 l_2 _ h13) <| tR (event_Event_Base_runs e e2 _ h6) <| tF h14 <| tL (LRuns.coe (s0 := ⟨[(0, (.av (.one (.ref 0 0)))), (75, (.av (.one (.own 1 0 2 true)))), (76, (.av (.one (.pv (.int .i64 2))))), (77, (.av (.one (.pv (.int .i64 0)))))], [(0, [(.own 0 0 (l_3).length false), (.pv (.int .i64 n6))])], [(0, (.live (.ints .u8 l_3))), (1, (.live (.recs 2 [[(.int .u64 n2), (T_event_halves.pv t)], [(.int .u64 n3), (T_event_halves.pv t2)]])))]⟩) (code_PutEvent_L0_runs rec_code_PutEvent hrec_code_PutEvent [(E_event_Event.mk n2 t), (E_event_Event.mk n3 t2)] _ _ h15) ⟨⟨⟨_, rfl, .eq rfl⟩, ⟨_, rfl, .own (by first | rfl | (simp only [List.take_length]; done) | (simp only [List.take_length, List.length_append, List.drop_zero, List.map_append, List.map_take, List.map_drop, List.map_cons, List.map_nil, List.append_nil, List.nil_append, E_event_Event.pv]; done) | (simp; done))⟩, ⟨_, rfl, .eq rfl⟩, ⟨_, rfl, .eq rfl⟩, trivial⟩, ⟨⟨rfl, ⟨.eq rfl, .eq rfl, trivial⟩⟩, trivial⟩, ⟨⟨rfl, .eq rfl⟩, ⟨rfl, .recs (.cons (.cons (.eq rfl) (.cons (.eq rfl) (.nil))) (.cons (.cons (.eq rfl) (.cons (.eq rfl) (.nil))) (.nil)))⟩, trivial⟩⟩) <| tN
            exact runs_of (C := cfg) (objs := [[(.own 0 0 (l).length false), (.pv (.int .i64 n))]]) (sc := t_.ev) (.k1 t_.pf (by kernel_rfl) (by kernel_rfl))
        · obtain ⟨⟨n5, l_2⟩, h12, h⟩ := bind_of h
          obtain ⟨⟨n6, l_3⟩, h13, h⟩ := bind_of h
          rcases cond_of h with ⟨h14, h⟩ | ⟨h14, h⟩
          · obtain ⟨⟨n7, l_4⟩, h15, h⟩ := bind_of h
            obtain ⟨⟨n8, l_5⟩, h16, h⟩ := bind_of h
            have h := some_of h
            subst h
            have t_ := tR (event_Event_Left_runs e e2 _ h1) <| tR (event_Event_Left_runs e e2 _ h1) <| tR (event_Event_Left_runs e e2 _ h1) <| tR (event_Event_Left_runs e e2 _ h1) <| tR (event_Event_Left_runs e e2 _ h1) <| tR (event_Event_Left_runs e e2 _ h1) <| tR (event_Event_Left_runs e e2 _ h1) <| tR (event_Event_Right_runs e e2 _ h2) <| tR (event_Event_Right_runs e e2 _ h2) <| tR (event_Event_Right_runs e e2 _ h2) <| tR (event_Event_Left_runs e e2 _ h1) <| tR (event_Event_Right_runs e e2 _ h2) <| tR (event_Event_IsLeaf_runs e e2 _ h3) <| tF h4 <| tR (bits_Writer_Put_2_runs 0 1 n l _ h5) <| tR (event_Event_Base_runs e e2 _ h6) <| tF h7 <| tF (rfl : false = false) <| tR (event_Event_Base_runs e e2 _ h6) <| tF h7 <| tF (rfl : false = false) <| tR (event_Event_Base_runs e e2 _ h6) <| tF h7 <| tR (code_zero_runs n2 t _ h8) <| tF h9 <| tR (code_zero_runs n3 t2 _ h10) <| tF h11 <| tR (bits_Writer_Put_2_runs 3 2 n4 l_ _ h12) <| tR (bits_Writer_Put_2_runs 1 1 n5 l_2 _ h13) <| tR (event_Event_Base_runs e e2 _ h6) <| tT h14 <| tR (event_Event_Base_runs e e2 _ h6) <| tR (bits_Writer_Num_runs e n6 l_3 _ h15) <| tL (LRuns.coe (s0 := ⟨[(0, (.av (.one (.ref 0 0)))), (75, (.av (.one (.own 1 0 2 true)))), (76, (.av (.one (.pv (.int .i64 2))))), (77, (.av (.one (.pv (.int .i64 0)))))], [(0, [(.own 0 0 (l_4).length false), (.pv (.int .i64 n7))])], [(0, (.live (.ints .u8 l_4))), (1, (.live (.recs 2 [[(.int .u64 n2), (T_event_halves.pv t)], [(.int .u64 n3), (T_event_halves.pv t2)]])))]⟩) (code_PutEvent_L0_runs rec_code_PutEvent hrec_code_PutEvent [(E_event_Event.mk n2 t), (E_event_Event.mk n3 t2)] _ _ h16) ⟨⟨⟨_, rfl, .eq rfl⟩, ⟨_, rfl, .own (by first | rfl | (simp only [List.take_length]; done) | (simp only [List.take_length, List.length_append, List.drop_zero, List.map_append, List.map_take, List.map_drop, List.map_cons, List.map_nil, List.append_nil, List.nil_append, E_event_Event.pv]; done) | (simp; done))⟩, ⟨_, rfl, .eq rfl⟩, ⟨_, rfl, .eq rfl⟩, trivial⟩, ⟨⟨rfl, ⟨.eq rfl, .eq rfl, trivial⟩⟩, trivial⟩, ⟨⟨rfl, .eq rfl⟩, ⟨rfl, .recs (.cons (.cons (.eq rfl) (.cons (.eq rfl) (.nil))) (.cons (.cons (.eq rfl) (.cons (.eq rfl) (.nil))) (.nil)))⟩, trivial⟩⟩) <| tN
            exact runs_of (C := cfg) (objs := [[(.own 0 0 (l).length false), (.pv (.int .i64 n))]]) (sc := t_.ev) (.k1 t_.pf (by kernel_rfl) (by kernel_rfl))
          · obtain ⟨⟨n7, l_4⟩, h15, h⟩ := bind_of h
            have h := some_of h
            subst h
            have t_ := tR (event_Event_Left_runs e e2 _ h1) <| tR (event_Event_Left_runs e e2 _ h1) <| tR (event_Event_Left_runs e e2 _ h1) <| tR (event_Event_Left_runs e e2 _ h1) <| tR (event_Event_Left_runs e e2 _ h1) <| tR (event_Event_Left_runs e e2 _ h1) <| tR (event_Event_Left_runs e e2 _ h1) <| tR (event_Event_Right_runs e e2 _ h2) <| tR (event_Event_Right_runs e e2 _ h2) <| tR (event_Event_Right_runs e e2 _ h2) <| tR (event_Event_Left_runs e e2 _ h1) <| tR (event_Event_Right_runs e e2 _ h2) <| tR (event_Event_IsLeaf_runs e e2 _ h3) <| tF h4 <| tR (bits_Writer_Put_2_runs 0 1 n l _ h5) <| tR (event_Event_Base_runs e e2 _ h6) <| tF h7 <| tF (rfl : false = false) <| tR (event_Event_Base_runs e e2 _ h6) <| tF h7 <| tF (rfl : false = false) <| tR (event_Event_Base_runs e e2 _ h6) <| tF h7 <| tR (code_zero_runs n2 t _ h8) <| tF h9 <| tR (code_zero_runs n3 t2 _ h10) <| tF h11 <| tR (bits_Writer_Put_2_runs 3 2 n4 l_ _ h12) <| tR (bits_Writer_Put_2_runs 1 1 n5 l_2 _ h13) <| tR (event_Event_Base_runs e e2 _ h6) <| tF h14 <| tL (LRuns.coe (s0 := ⟨[(0, (.av (.one (.ref 0 0)))), (75, (.av (.one (.own 1 0 2 true)))), (76, (.av (.one (.pv (.int .i64 2))))), (77, (.av (.one (.pv (.int .i64 0)))))], [(0, [(.own 0 0 (l_3).length false), (.pv (.int .i64 n6))])], [(0, (.live (.ints .u8 l_3))), (1, (.live (.recs 2 [[(.int .u64 n2), (T_event_halves.pv t)], [(.int .u64 n3), (T_event_halves.pv t2)]])))]⟩) (code_PutEvent_L0_runs rec_code_PutEvent hrec_code_PutEvent [(E_event_Event.mk n2 t), (E_event_Event.mk n3 t2)] _ _ h15) ⟨⟨⟨_, rfl, .eq rfl⟩, ⟨_, rfl, .own (by first | rfl | (simp only [List.take_length]; done) | (simp only [List.take_length, List.length_append, List.drop_zero, List.map_append, List.map_take, List.map_drop, List.map_cons, List.map_nil, List.append_nil, List.nil_append, E_event_Event.pv]; done) | (simp; done))⟩, ⟨_, rfl, .eq rfl⟩, ⟨_, rfl, .eq rfl⟩, trivial⟩, ⟨⟨rfl, ⟨.eq rfl, .eq rfl, trivial⟩⟩, trivial⟩, ⟨⟨rfl, .eq rfl⟩, ⟨rfl, .recs (.cons (.cons (.eq rfl) (.cons (.eq rfl) (.nil))) (.cons (.cons (.eq rfl) (.cons (.eq rfl) (.nil))) (.nil)))⟩, trivial⟩⟩) <| tN
            exact runs_of (C := cfg) (objs := [[(.own 0 0 (l).length false), (.pv (.int .i64 n))]]) (sc := t_.ev) (.k1 t_.pf (by kernel_rfl) (by kernel_rfl))
noncomputable def code_PutEvent : Nat → Int → T_event_halves → Int → List Int → Option (Int × List Int)
  | 0, _, _, _, _ => none
  | N + 1, e, e2, n, l => code_PutEvent_b (code_PutEvent N) e e2 n l
theorem code_PutEvent_runs : ∀ (N : Nat) (e : Int) (e2 : T_event_halves) (n : Int) (l : List Int) (r_ : Int × List Int), code_PutEvent N e e2 n l = some r_ → Runs Tryd.prog 135 [(.one (.ref 0 0)), (.agg [(.pv (.int .u64 e)), (.pv (T_event_halves.pv e2))])] [[(.own 0 0 (l).length false), (.pv (.int .i64 n))]] [(.ints .u8 l)] (code_PutEvent_out e e2 n l r_)
  | 0, _, _, _, _, _, h => by cases h
  | N + 1, e, e2, n, l, r_, h => code_PutEvent_b_runs (code_PutEvent N) (code_PutEvent_runs N) e e2 n l r_ h
/-! ### bits_Writer_Bytes_out -/
def bits_Writer_Bytes_out (n : Int) (l : List Int) : Unit → Res
  | _ => ([(.one (.pv (.ints .u8 l false)))], [[(.pv (.ints .u8 l false)), (.pv (.int .i64 n))]], [])
/-! ### bits_Writer_Bytes -/
noncomputable def bits_Writer_Bytes (n : Int) (l : List Int) : Option (Unit) :=
  bif fits ((List.take (l).length l)).length then
  some ()
  else none
theorem bits_Writer_Bytes_runs (n : Int) (l : List Int) (r_ : Unit) (h : bits_Writer_Bytes n l = some r_) : Runs Tryd.prog 136 [(.one (.ref 0 0))] [[(.own 0 0 (l).length false), (.pv (.int .i64 n))]] [(.ints .u8 l)] (bits_Writer_Bytes_out n l r_) := by
  unfold bits_Writer_Bytes at h
  obtain ⟨h1, h⟩ := need_of h
  have h := some_of h
  subst h
  have t_ := tF (rfl : false = false) <| tR (bytes_Clone_runs (l := (List.take (l).length l)) (t := false) h1) <| tN
  have e_ : Runs Tryd.prog 136 [(.one (.ref 0 0))] [[(.own 0 0 (l).length false), (.pv (.int .i64 n))]] [(.ints .u8 l)] ([(.one (.pv (.ints .u8 (List.take (l).length l) false)))], [[(.pv (.ints .u8 (List.take (l).length l) false)), (.pv (.int .i64 n))]], []) := runs_of (C := cfg) (objs := [[(.own 0 0 (l).length false), (.pv (.int .i64 n))]]) (sc := t_.ev) (.k0 t_.pf (by kernel_rfl))
  exact e_.out ⟨.pv (.ints (by first | rfl | (simp only [List.take_length]; done) | (simp only [List.take_length, List.length_append, List.drop_zero, List.map_append, List.map_take, List.map_drop, List.map_cons, List.map_nil, List.append_nil, List.nil_append, E_event_Event.pv]; done) | (simp; done))), trivial⟩ ⟨⟨.pv (.ints (by first | rfl | (simp only [List.take_length]; done) | (simp only [List.take_length, List.length_append, List.drop_zero, List.map_append, List.map_take, List.map_drop, List.map_cons, List.map_nil, List.append_nil, List.nil_append, E_event_Event.pv]; done) | (simp; done))), .eq rfl, trivial⟩, trivial⟩ trivial rfl
/-! ### code_Stamp -/
noncomputable def code_Stamp (N : Nat) (s : Bool) (s2 : T_id_halves) (s3 : Int) (s4 : T_event_halves) : Option (List Int) :=
  (bits_NewWriter).bind fun _ =>
  (code_PutID N s s2 0).bind fun (n, l_) =>
  (code_PutEvent N s3 s4 n l_).bind fun (n2, l_2) =>
  (bits_Writer_Bytes n2 l_2).bind fun _ =>
  some l_2
theorem code_Stamp_runs (N : Nat) (s : Bool) (s2 : T_id_halves) (s3 : Int) (s4 : T_event_halves) (r_ : List Int) (h : code_Stamp N s s2 s3 s4 = some r_) : Runs Tryd.prog 86 [(.agg [(.pv (.bool s)), (.pv (T_id_halves.pv s2)), (.pv (.int .u64 s3)), (.pv (T_event_halves.pv s4))])] [] [] (code_Stamp_out s s2 s3 s4 r_) := by
  unfold code_Stamp at h
  obtain ⟨_, h1, h⟩ := bind_of h
  obtain ⟨⟨n, l_⟩, h2, h⟩ := bind_of h
  obtain ⟨⟨n2, l_2⟩, h3, h⟩ := bind_of h
  obtain ⟨_, h4, h⟩ := bind_of h
  have h := some_of h
  subst h
  have t_ := tR (bits_NewWriter_runs _ h1) <| tR (code_PutID_runs N s s2 0 _ h2) <| tR (code_PutEvent_runs N s3 s4 n l_ _ h3) <| tR (bits_Writer_Bytes_runs n2 l_2 _ h4) <| tN
  exact runs_of (C := cfg) (objs := []) (sc := t_.ev) (.k0 t_.pf (by kernel_rfl))
/-! ### bytes_Equal_out -/
def bytes_Equal_out (a : List Int) (b : List Int) : Bool → Res
  | r1 => ([(.one (.pv (.bool r1)))], [], [])
/-! ### bytes_Equal -/
noncomputable def bytes_Equal (a : List Int) (b : List Int) : Option (Bool) :=
  some (decide ((strOf a) = (strOf b)))
theorem bytes_Equal_runs (a : List Int) (b : List Int) (r_ : Bool) (h : bytes_Equal a b = some r_) : Runs Tryd.prog 85 [(.one (.pv (.ints .u8 a false))), (.one (.pv (.ints .u8 b false)))] [] [] (bytes_Equal_out a b r_) := by
  unfold bytes_Equal at h
  have h := some_of h
  subst h
  have t_ := tN
  exact runs_of (C := cfg) (objs := []) (sc := t_.ev) (.k0 t_.pf (by kernel_rfl))
/-! ### kinfolklaw07_awake -/
noncomputable def kinfolklaw07_awake (N : Nat) : Option (Bool) :=
  (stamp_Seed).bind fun _ =>
  (code_Stamp N true T_id_halves.nil 0 T_event_halves.nil).bind fun l_ =>
  (bytes_Equal l_ [48]).bind fun b =>
  some b
theorem kinfolklaw07_awake_runs (N : Nat) (r_ : Bool) (h : kinfolklaw07_awake N = some r_) : Runs Tryd.prog 70 [] [] [] (kinfolklaw07_awake_out r_) := by
  unfold kinfolklaw07_awake at h
  obtain ⟨_, h1, h⟩ := bind_of h
  obtain ⟨l_, h2, h⟩ := bind_of h
  obtain ⟨b, h3, h⟩ := bind_of h
  have h := some_of h
  subst h
  have t_ := tR (stamp_Seed_runs _ h1) <| tR (code_Stamp_runs N true T_id_halves.nil 0 T_event_halves.nil _ h2) <| tR (Runs.coe (as' := [(.one (.pv (.ints .u8 l_ false))), (.one (.pv (.ints .u8 [48] true)))]) (objs' := []) (rows' := []) (bytes_Equal_runs l_ [48] _ h3) ⟨.eq rfl, .pv (.ints rfl), trivial⟩ trivial trivial) <| tN
  exact runs_of (C := cfg) (objs := []) (sc := t_.ev) (.k0 t_.pf (by kernel_rfl))
/-! ### kinfolklaw07_cut_out -/
def kinfolklaw07_cut_out (p : List Int) (most : Int) : List Int → Res
  | r1 => ([(.one (.pv (.ints .u8 r1 false)))], [], [])
/-! ### kinfolklaw07_cut -/
noncomputable def kinfolklaw07_cut (p : List Int) (most : Int) : Option (List Int) :=
  bif decide ((0 : Int) ≤ 0) && decide ((0 : Int) ≤ (if (most : Int) < ((p).length : Int) then most else ((p).length : Int))) && decide (((if (most : Int) < ((p).length : Int) then most else ((p).length : Int)) : Int) ≤ ((p).length : Int)) && decide (((if (most : Int) < ((p).length : Int) then most else ((p).length : Int)) : Int) = (if (most : Int) < ((p).length : Int) then most else ((p).length : Int))) then
  bif fits ((List.take ((if (most : Int) < ((p).length : Int) then most else ((p).length : Int)) - 0).toNat p)).length then
  some (List.take ((if (most : Int) < ((p).length : Int) then most else ((p).length : Int)) - 0).toNat p)
  else none
  else none
theorem kinfolklaw07_cut_runs (p : List Int) (most : Int) (r_ : List Int) (h : kinfolklaw07_cut p most = some r_) : Runs Tryd.prog 71 [(.one (.pv (.ints .u8 p false))), (.one (.pv (.int .i64 most)))] [] [] (kinfolklaw07_cut_out p most r_) := by
  unfold kinfolklaw07_cut at h
  obtain ⟨h1, h⟩ := need_of h
  obtain ⟨h2, h⟩ := need_of h
  have h := some_of h
  subst h
  have t_ := tO h1 <| tR (bytes_Clone_runs (l := (List.take ((if (most : Int) < ((p).length : Int) then most else ((p).length : Int)) - 0).toNat p)) (t := false) h2) <| tN
  exact runs_of (C := cfg) (objs := []) (sc := t_.ev) (.k0 t_.pf (by kernel_rfl))
/-! ### code_ReadStamp_out -/
def code_ReadStamp_out (p : List Int) : Bool × T_id_halves × Int × T_event_halves × Int → Res
  | (r1, r2, r3, r4, r5) => ([(.agg [(.pv (.bool r1)), (.pv (T_id_halves.pv r2)), (.pv (.int .u64 r3)), (.pv (T_event_halves.pv r4))]), (.one (.pv (.int .i64 r5)))], [], [])
/-! ### bits_NewReader_out -/
def bits_NewReader_out (p : List Int) : Unit → Res
  | _ => ([(.one (.ref 0 0))], [[(.pv (.ints .u8 p false)), (.pv (.int .i64 0)), (.pv (.int .i64 0))]], [])
/-! ### bits_NewReader -/
noncomputable def bits_NewReader (p : List Int) : Option (Unit) :=
  bif fits (p).length then
  some ()
  else none
theorem bits_NewReader_runs (p : List Int) (r_ : Unit) (h : bits_NewReader p = some r_) : Runs Tryd.prog 73 [(.one (.pv (.ints .u8 p false)))] [] [] (bits_NewReader_out p r_) := by
  unfold bits_NewReader at h
  obtain ⟨h1, h⟩ := need_of h
  have h := some_of h
  subst h
  have t_ := tR (bytes_Clone_runs (l := p) (t := false) h1) <| tN
  exact runs_of (C := cfg) (objs := []) (sc := t_.ev) (.k0 t_.pf (by kernel_rfl))
/-! ### code_GetID_out -/
def code_GetID_out (l : List Int) (n : Int) (n2 : Int) : Bool × T_id_halves × Int × Int × Int → Res
  | (r1, r2, r3, r4, r5) => ([(.agg [(.pv (.bool r1)), (.pv (T_id_halves.pv r2))]), (.one (.pv (.int .i64 r3)))], [[(.pv (.ints .u8 l false)), (.pv (.int .i64 r4)), (.pv (.int .i64 r5))]], [])
/-! ### code_source_id_2_out -/
def code_source_id_2_out (depth : Int) (n : Int) (l : List Int) (n2 : Int) (n3 : Int) : Bool × T_id_halves × Int × Int × Int → Res
  | (r1, r2, r3, r4, r5) => ([(.agg [(.pv (.bool r1)), (.pv (T_id_halves.pv r2))])], [[(.ref 1 0), (.pv (.int .i64 r3))], [(.pv (.ints .u8 l false)), (.pv (.int .i64 r4)), (.pv (.int .i64 r5))]], [])
/-! ### id_Zero_out -/
def id_Zero_out : Unit → Res
  | _ => ([(.agg [(.pv (.bool false)), (.pv (T_id_halves.pv T_id_halves.nil))])], [], [])
/-! ### id_Zero -/
noncomputable def id_Zero : Option (Unit) :=
  some ()
theorem id_Zero_runs (r_ : Unit) (h : id_Zero = some r_) : Runs Tryd.prog 122 [] [] [] (id_Zero_out r_) := by
  unfold id_Zero at h
  have h := some_of h
  subst h
  have t_ := tN
  have e_ : Runs Tryd.prog 122 [] [] [] ([(.agg [(.pv (.bool false)), (.pv .nilp)])], [], []) := runs_of (C := cfg) (objs := []) (sc := t_.ev) (.k0 t_.pf (by kernel_rfl))
  exact e_.out ⟨⟨.eq rfl, .eq rfl, trivial⟩, trivial⟩ trivial trivial rfl
/-! ### code_source_bit_out -/
def code_source_bit_out (k : Int) (n : Int) (l : List Int) (n2 : Int) (n3 : Int) : Int × Int × Int × Int → Res
  | (r1, r2, r3, r4) => ([(.one (.pv (.int .u64 r1)))], [[(.ref 1 0), (.pv (.int .i64 r2))], [(.pv (.ints .u8 l false)), (.pv (.int .i64 r3)), (.pv (.int .i64 r4))]], [])
/-! ### code_source_ok_out -/
def code_source_ok_out (n : Int) (l : List Int) (n2 : Int) (n3 : Int) : Bool × Int → Res
  | (r1, r2) => ([(.one (.pv (.bool r1)))], [[(.ref 1 0), (.pv (.int .i64 r2))], [(.pv (.ints .u8 l false)), (.pv (.int .i64 n2)), (.pv (.int .i64 n3))]], [])
/-! ### bits_Reader_Err_out -/
def bits_Reader_Err_out (l : List Int) (n : Int) (n2 : Int) : Unit → Res
  | _ => ([(.one (.pv (.int .i64 n2)))], [[(.pv (.ints .u8 l false)), (.pv (.int .i64 n)), (.pv (.int .i64 n2))]], [])
/-! ### bits_Reader_Err -/
noncomputable def bits_Reader_Err (l : List Int) (n : Int) (n2 : Int) : Option (Unit) :=
  some ()
theorem bits_Reader_Err_runs (l : List Int) (n : Int) (n2 : Int) (r_ : Unit) (h : bits_Reader_Err l n n2 = some r_) : Runs Tryd.prog 128 [(.one (.ref 0 0))] [[(.pv (.ints .u8 l false)), (.pv (.int .i64 n)), (.pv (.int .i64 n2))]] [] (bits_Reader_Err_out l n n2 r_) := by
  unfold bits_Reader_Err at h
  have h := some_of h
  subst h
  have t_ := tF (rfl : false = false) <| tN
  exact runs_of (C := cfg) (objs := [[(.pv (.ints .u8 l false)), (.pv (.int .i64 n)), (.pv (.int .i64 n2))]]) (sc := t_.ev) (.k0 t_.pf (by kernel_rfl))
/-! ### code_source_fail_out -/
def code_source_fail_out (e : Int) (n : Int) (l : List Int) (n2 : Int) (n3 : Int) : Int → Res
  | r1 => ([], [[(.ref 1 0), (.pv (.int .i64 r1))], [(.pv (.ints .u8 l false)), (.pv (.int .i64 n2)), (.pv (.int .i64 n3))]], [])
/-! ### code_source_fail -/
noncomputable def code_source_fail (e : Int) (n : Int) (l : List Int) (n2 : Int) (n3 : Int) : Option (Int) :=
  bif (decide ((n : Int) = 0)) then
    some e
  else
    some n
theorem code_source_fail_runs (e : Int) (n : Int) (l : List Int) (n2 : Int) (n3 : Int) (r_ : Int) (h : code_source_fail e n l n2 n3 = some r_) : Runs Tryd.prog 148 [(.one (.ref 0 0)), (.one (.pv (.int .i64 e)))] [[(.ref 1 0), (.pv (.int .i64 n))], [(.pv (.ints .u8 l false)), (.pv (.int .i64 n2)), (.pv (.int .i64 n3))]] [] (code_source_fail_out e n l n2 n3 r_) := by
  unfold code_source_fail at h
  rcases cond_of h with ⟨h1, h⟩ | ⟨h1, h⟩
  · have h := some_of h
    subst h
    have t_ := tT h1 <| tN
    exact runs_of (C := cfg) (objs := [[(.ref 1 0), (.pv (.int .i64 n))], [(.pv (.ints .u8 l false)), (.pv (.int .i64 n2)), (.pv (.int .i64 n3))]]) (sc := t_.ev) (.k0 t_.pf (by kernel_rfl))
  · have h := some_of h
    subst h
    have t_ := tF h1 <| tN
    exact runs_of (C := cfg) (objs := [[(.ref 1 0), (.pv (.int .i64 n))], [(.pv (.ints .u8 l false)), (.pv (.int .i64 n2)), (.pv (.int .i64 n3))]]) (sc := t_.ev) (.k0 t_.pf (by kernel_rfl))
/-! ### code_source_ok -/
noncomputable def code_source_ok (n : Int) (l : List Int) (n2 : Int) (n3 : Int) : Option (Bool × Int) :=
  (bits_Reader_Err l n2 n3).bind fun _ =>
  bif (decide ((n3 : Int) = 0)) then
    some ((decide ((n : Int) = 0)), n)
  else
    (code_source_fail 6 n l n2 n3).bind fun n4 =>
    some ((decide ((n4 : Int) = 0)), n4)
theorem code_source_ok_runs (n : Int) (l : List Int) (n2 : Int) (n3 : Int) (r_ : Bool × Int) (h : code_source_ok n l n2 n3 = some r_) : Runs Tryd.prog 149 [(.one (.ref 0 0))] [[(.ref 1 0), (.pv (.int .i64 n))], [(.pv (.ints .u8 l false)), (.pv (.int .i64 n2)), (.pv (.int .i64 n3))]] [] (code_source_ok_out n l n2 n3 r_) := by
  unfold code_source_ok at h
  obtain ⟨_, h1, h⟩ := bind_of h
  rcases cond_of h with ⟨h2, h⟩ | ⟨h2, h⟩
  · have h := some_of h
    subst h
    have t_ := tR (bits_Reader_Err_runs l n2 n3 _ h1) <| tF (not_of2 h2) <| tN
    exact runs_of (C := cfg) (objs := [[(.ref 1 0), (.pv (.int .i64 n))], [(.pv (.ints .u8 l false)), (.pv (.int .i64 n2)), (.pv (.int .i64 n3))]]) (sc := t_.ev) (.k0 t_.pf (by kernel_rfl))
  · obtain ⟨n4, h3, h⟩ := bind_of h
    have h := some_of h
    subst h
    have t_ := tR (bits_Reader_Err_runs l n2 n3 _ h1) <| tT (not_of h2) <| tR (code_source_fail_runs 6 n l n2 n3 _ h3) <| tN
    exact runs_of (C := cfg) (objs := [[(.ref 1 0), (.pv (.int .i64 n))], [(.pv (.ints .u8 l false)), (.pv (.int .i64 n2)), (.pv (.int .i64 n3))]]) (sc := t_.ev) (.k0 t_.pf (by kernel_rfl))
/-! ### bits_Reader_Get_out -/
def bits_Reader_Get_out (k : Int) (l : List Int) (n : Int) (n2 : Int) : Int × Int × Int → Res
  | (r1, r2, r3) => ([(.one (.pv (.int .u64 r1)))], [[(.pv (.ints .u8 l false)), (.pv (.int .i64 r2)), (.pv (.int .i64 r3))]], [])
/-! ### bits_Reader_Left_out -/
def bits_Reader_Left_out (l : List Int) (n : Int) (n2 : Int) : Int → Res
  | r1 => ([(.one (.pv (.int .i64 r1)))], [[(.pv (.ints .u8 l false)), (.pv (.int .i64 n)), (.pv (.int .i64 n2))]], [])
/-! ### bits_Reader_Left -/
noncomputable def bits_Reader_Left (l : List Int) (n : Int) (n2 : Int) : Option (Int) :=
  some (isub .i64 (imul .i64 8 ((l).length : Int)) n)
theorem bits_Reader_Left_runs (l : List Int) (n : Int) (n2 : Int) (r_ : Int) (h : bits_Reader_Left l n n2 = some r_) : Runs Tryd.prog 129 [(.one (.ref 0 0))] [[(.pv (.ints .u8 l false)), (.pv (.int .i64 n)), (.pv (.int .i64 n2))]] [] (bits_Reader_Left_out l n n2 r_) := by
  unfold bits_Reader_Left at h
  have h := some_of h
  subst h
  have t_ := tF (rfl : false = false) <| tN
  exact runs_of (C := cfg) (objs := [[(.pv (.ints .u8 l false)), (.pv (.int .i64 n)), (.pv (.int .i64 n2))]]) (sc := t_.ev) (.k1 t_.pf (by kernel_rfl) (by kernel_rfl))
/-! ### bits_Reader_fail_out -/
def bits_Reader_fail_out (l : List Int) (n : Int) (n2 : Int) : Int → Res
  | r1 => ([(.one (.pv (.int .u64 0)))], [[(.pv (.ints .u8 l false)), (.pv (.int .i64 n)), (.pv (.int .i64 r1))]], [])
/-! ### bits_Reader_fail -/
noncomputable def bits_Reader_fail (l : List Int) (n : Int) (n2 : Int) : Option (Int) :=
  bif (decide ((n2 : Int) = 0)) then
    some 6
  else
    some n2
theorem bits_Reader_fail_runs (l : List Int) (n : Int) (n2 : Int) (r_ : Int) (h : bits_Reader_fail l n n2 = some r_) : Runs Tryd.prog 130 [(.one (.ref 0 0))] [[(.pv (.ints .u8 l false)), (.pv (.int .i64 n)), (.pv (.int .i64 n2))]] [] (bits_Reader_fail_out l n n2 r_) := by
  unfold bits_Reader_fail at h
  rcases cond_of h with ⟨h1, h⟩ | ⟨h1, h⟩
  · have h := some_of h
    subst h
    have t_ := tT (rfl : true = true) <| tT h1 <| tN
    exact runs_of (C := cfg) (objs := [[(.pv (.ints .u8 l false)), (.pv (.int .i64 n)), (.pv (.int .i64 n2))]]) (sc := t_.ev) (.k0 t_.pf (by kernel_rfl))
  · have h := some_of h
    subst h
    have t_ := tT (rfl : true = true) <| tF h1 <| tN
    exact runs_of (C := cfg) (objs := [[(.pv (.ints .u8 l false)), (.pv (.int .i64 n)), (.pv (.int .i64 n2))]]) (sc := t_.ev) (.k0 t_.pf (by kernel_rfl))
/-! ### bits_Reader_Get_L0 -/
def bits_Reader_Get_L0_st (n : Int) (l : List Int) (n3 : Int) : Int × Int × Int → St
  | (n4, n5, n2) => ⟨[(0, (.av (.one (.ref 0 0)))), (5, (.av (.one (.pv (.int .u64 n4))))), (20, (.av (.one (.pv (.int .i64 n))))), (21, (.av (.one (.pv (.int .i64 n5)))))], [(0, [(.pv (.ints .u8 l false)), (.pv (.int .i64 n2)), (.pv (.int .i64 n3))])], []⟩
def bits_Reader_Get_L0_ex (n : Int) (l : List Int) (n3 : Int) : Int × Int → Ex × St
  | (r1, r2) => ((.exit 0), ⟨[(5, (.av (.one (.pv (.int .u64 r1)))))], [(0, [(.pv (.ints .u8 l false)), (.pv (.int .i64 r2)), (.pv (.int .i64 n3))])], []⟩)
noncomputable def bits_Reader_Get_L0_step (n : Int) (l : List Int) (n3 : Int) : Int × Int × Int → Option ((Int × Int × Int) ⊕ (Int × Int))
  | (n4, n5, n2) =>
  bif (decide ((n5 : Int) < n)) then
    bif decide ((0 : Int) ≤ (iquo .i64 n2 8)) && decide (((iquo .i64 n2 8) : Int) < ((l).length : Int)) then
    bif decide ((0 : Int) ≤ (isub .i64 7 (irem .i64 n2 8))) then
    some (.inl ((ior .u64 (ishl .u64 n4 1) (IntKind.u64.wrap (iand .u8 (ishr .u8 (l.getD ((iquo .i64 n2 8)).toNat 0) (isub .i64 7 (irem .i64 n2 8))) 1))), (iadd .i64 n5 1), (iadd .i64 n2 1)))
    else none
    else none
  else
    some (.inr (n4, n2))
theorem bits_Reader_Get_L0_ok (n : Int) (l : List Int) (n3 : Int) (s_ : Int × Int × Int) (z_ : (Int × Int × Int) ⊕ (Int × Int)) (h : bits_Reader_Get_L0_step n l n3 s_ = some z_) : RoundOk Tryd.prog cfg 78 1 (loopAt Tryd.prog 78 0) (bits_Reader_Get_L0_st n l n3) (bits_Reader_Get_L0_ex n l n3) s_ z_ := by
  rcases s_ with ⟨n4, n5, n2⟩
  rcases cond_of h with ⟨h1, h⟩ | ⟨h1, h⟩
  · obtain ⟨h2, h⟩ := need_of h
    obtain ⟨h3, h⟩ := need_of h
    have h := some_of h
    subst h
    have t_ := tT h1 <| tO (rfl : true = true) <| tO (rfl : true = true) <| tO (rfl : true = true) <| tO (rfl : true = true) <| tO (rfl : true = true) <| tO h2 <| tO (rfl : true = true) <| tO (rfl : true = true) <| tO (rfl : true = true) <| tO h2 <| tO h3 <| tO (rfl : true = true) <| tN
    exact ⟨t_.ev, bits_Reader_Get_L0_st n l n3 ((ior .u64 (ishl .u64 n4 1) (IntKind.u64.wrap (iand .u8 (ishr .u8 (l.getD ((iquo .i64 n2 8)).toNat 0) (isub .i64 7 (irem .i64 n2 8))) 1))), (iadd .i64 n5 1), (iadd .i64 n2 1)), .k1 t_.pf (by kernel_rfl) (by kernel_rfl), .same (by kernel_rfl)⟩
  · have h := some_of h
    subst h
    have t_ := tF h1 <| tN
    exact ⟨t_.ev, ⟨[(22, (.av (.one (.pv (.bool false))))), (0, (.av (.one (.ref 0 0)))), (5, (.av (.one (.pv (.int .u64 n4))))), (20, (.av (.one (.pv (.int .i64 n))))), (21, (.av (.one (.pv (.int .i64 n5))))), (22, (.av (.one (.pv (.bool (decide ((n5 : Int) < n)))))))], [(0, [(.pv (.ints .u8 l false)), (.pv (.int .i64 n2)), (.pv (.int .i64 n3))])], []⟩, .k0 t_.pf (by kernel_rfl), ⟨⟨⟨_, rfl, .eq rfl⟩, trivial⟩, ⟨⟨rfl, ⟨.eq rfl, .eq rfl, .eq rfl, trivial⟩⟩, trivial⟩, trivial⟩⟩
theorem bits_Reader_Get_L0_runs (n : Int) (l : List Int) (n3 : Int) (s_ : Int × Int × Int) (r_ : Int × Int) (h : runL (bits_Reader_Get_L0_step n l n3) s_ = some r_) : LRuns Tryd.prog (lEnv Tryd.prog cfg 78 1).nt 1 (.loop (loopAt Tryd.prog 78 0)) (bits_Reader_Get_L0_st n l n3 s_) (bits_Reader_Get_L0_ex n l n3 r_).1 (bits_Reader_Get_L0_ex n l n3 r_).2 :=
  loop_run h (bits_Reader_Get_L0_ok n l n3) (by intro r_; rcases r_ with ⟨r1, r2⟩ <;> simp [bits_Reader_Get_L0_ex])
/-! ### bits_Reader_Get -/
noncomputable def bits_Reader_Get (k : Int) (l : List Int) (n : Int) (n2 : Int) : Option (Int × Int × Int) :=
  (bits_within k).bind fun n3 =>
  (bits_Reader_Err l n n2).bind fun _ =>
  bif (decide ((n2 : Int) = 0)) then
    (bits_Reader_Left l n n2).bind fun n4 =>
    bif (decide ((n4 : Int) < n3)) then
      (bits_Reader_fail l n n2).bind fun n5 =>
      some (0, n, n5)
    else
      (runL (bits_Reader_Get_L0_step n3 l n2) (0, 0, n)).bind fun (n5, n6) =>
      some (n5, n6, n2)
  else
    (bits_Reader_fail l n n2).bind fun n4 =>
    some (0, n, n4)
theorem bits_Reader_Get_runs (k : Int) (l : List Int) (n : Int) (n2 : Int) (r_ : Int × Int × Int) (h : bits_Reader_Get k l n n2 = some r_) : Runs Tryd.prog 78 [(.one (.ref 0 0)), (.one (.pv (.int .i64 k)))] [[(.pv (.ints .u8 l false)), (.pv (.int .i64 n)), (.pv (.int .i64 n2))]] [] (bits_Reader_Get_out k l n n2 r_) := by
  unfold bits_Reader_Get at h
  obtain ⟨n3, h1, h⟩ := bind_of h
  obtain ⟨_, h2, h⟩ := bind_of h
  rcases cond_of h with ⟨h3, h⟩ | ⟨h3, h⟩
  · obtain ⟨n4, h4, h⟩ := bind_of h
    rcases cond_of h with ⟨h5, h⟩ | ⟨h5, h⟩
    · obtain ⟨n5, h6, h⟩ := bind_of h
      have h := some_of h
      subst h
      have t_ := tR (bits_within_runs k _ h1) <| tR (bits_Reader_Err_runs l n n2 _ h2) <| tF (not_of2 h3) <| tR (bits_Reader_Left_runs l n n2 _ h4) <| tT h5 <| tR (bits_Reader_fail_runs l n n2 _ h6) <| tN
      exact runs_of (C := cfg) (objs := [[(.pv (.ints .u8 l false)), (.pv (.int .i64 n)), (.pv (.int .i64 n2))]]) (sc := t_.ev) (.k0 t_.pf (by kernel_rfl))
    · obtain ⟨⟨n5, n6⟩, h6, h⟩ := bind_of h
      have h := some_of h
      subst h
      have t_ := tR (bits_within_runs k _ h1) <| tR (bits_Reader_Err_runs l n n2 _ h2) <| tF (not_of2 h3) <| tR (bits_Reader_Left_runs l n n2 _ h4) <| tF h5 <| tL (bits_Reader_Get_L0_runs n3 l n2 _ _ h6) <| tN
      exact runs_of (C := cfg) (objs := [[(.pv (.ints .u8 l false)), (.pv (.int .i64 n)), (.pv (.int .i64 n2))]]) (sc := t_.ev) (.k0 t_.pf (by kernel_rfl))
  · obtain ⟨n4, h4, h⟩ := bind_of h
    have h := some_of h
    subst h
    have t_ := tR (bits_within_runs k _ h1) <| tR (bits_Reader_Err_runs l n n2 _ h2) <| tT (not_of h3) <| tT (rfl : true = true) <| tR (bits_Reader_fail_runs l n n2 _ h4) <| tN
    exact runs_of (C := cfg) (objs := [[(.pv (.ints .u8 l false)), (.pv (.int .i64 n)), (.pv (.int .i64 n2))]]) (sc := t_.ev) (.k0 t_.pf (by kernel_rfl))
/-! ### code_source_bit -/
noncomputable def code_source_bit (k : Int) (n : Int) (l : List Int) (n2 : Int) (n3 : Int) : Option (Int × Int × Int × Int) :=
  (code_source_ok n l n2 n3).bind fun (b, n4) =>
  bif b then
    (bits_Reader_Get k l n2 n3).bind fun (n5, n6, n7) =>
    (code_source_ok n4 l n6 n7).bind fun (b2, n8) =>
    some (n5, n8, n6, n7)
  else
    some (0, n4, n2, n3)
theorem code_source_bit_runs (k : Int) (n : Int) (l : List Int) (n2 : Int) (n3 : Int) (r_ : Int × Int × Int × Int) (h : code_source_bit k n l n2 n3 = some r_) : Runs Tryd.prog 147 [(.one (.ref 0 0)), (.one (.pv (.int .i64 k)))] [[(.ref 1 0), (.pv (.int .i64 n))], [(.pv (.ints .u8 l false)), (.pv (.int .i64 n2)), (.pv (.int .i64 n3))]] [] (code_source_bit_out k n l n2 n3 r_) := by
  unfold code_source_bit at h
  obtain ⟨⟨b, n4⟩, h1, h⟩ := bind_of h
  rcases cond_of h with ⟨h2, h⟩ | ⟨h2, h⟩
  · obtain ⟨⟨n5, n6, n7⟩, h3, h⟩ := bind_of h
    obtain ⟨⟨b2, n8⟩, h4, h⟩ := bind_of h
    have h := some_of h
    subst h
    have t_ := tR (code_source_ok_runs n l n2 n3 _ h1) <| tF (not_of2 h2) <| tR (bits_Reader_Get_runs k l n2 n3 _ h3) <| tR (code_source_ok_runs n4 l n6 n7 _ h4) <| tN
    exact runs_of (C := cfg) (objs := [[(.ref 1 0), (.pv (.int .i64 n))], [(.pv (.ints .u8 l false)), (.pv (.int .i64 n2)), (.pv (.int .i64 n3))]]) (sc := t_.ev) (.k0 t_.pf (by kernel_rfl))
  · have h := some_of h
    subst h
    have t_ := tR (code_source_ok_runs n l n2 n3 _ h1) <| tT (not_of h2) <| tN
    exact runs_of (C := cfg) (objs := [[(.ref 1 0), (.pv (.int .i64 n))], [(.pv (.ints .u8 l false)), (.pv (.int .i64 n2)), (.pv (.int .i64 n3))]]) (sc := t_.ev) (.k0 t_.pf (by kernel_rfl))
/-! ### code_source_id_C22 -/
def code_source_id_C22_ex (depth : Int) (kind : Int) (b : Bool) (n : Int) (l : List Int) (n2 : Int) (n3 : Int) : Int → Ex × St
  | r1 => (.normal, ⟨[(0, (.av (.one (.ref 0 0)))), (1, (.av (.one (.pv (.int .i64 depth))))), (4, (.av (.one (.ref 2 0)))), (5, (.av (.one (.ref 3 0)))), (6, (.av (.one (.ref 4 0)))), (7, (.av (.one (.pv (.int .u64 kind)))))], [(0, [(.ref 1 0), (.pv (.int .i64 r1))]), (1, [(.pv (.ints .u8 l false)), (.pv (.int .i64 n2)), (.pv (.int .i64 n3))]), (2, [(.pv (.bool false)), (.pv (T_id_halves.pv T_id_halves.nil))]), (3, [(.pv (.bool false)), (.pv (T_id_halves.pv T_id_halves.nil))]), (4, [(.pv (.bool false)), (.pv (T_id_halves.pv T_id_halves.nil))])], []⟩)
noncomputable def code_source_id_C22 (depth : Int) (kind : Int) (b : Bool) (n : Int) (l : List Int) (n2 : Int) (n3 : Int) : Option (Int) :=
  bif b then
    (code_source_fail 3 n l n2 n3).bind fun n4 =>
    some n4
  else
    some n
theorem code_source_id_C22_runs (depth : Int) (kind : Int) (b : Bool) (n : Int) (l : List Int) (n2 : Int) (n3 : Int) (r_ : Int) (h : code_source_id_C22 depth kind b n l n2 n3 = some r_) : LRuns Tryd.prog (lEnv Tryd.prog cfg 121 2).nt 2 (.cond (.tmp 22) (condAt Tryd.prog 121 22).1 (condAt Tryd.prog 121 22).2) ⟨[(0, (.av (.one (.ref 0 0)))), (1, (.av (.one (.pv (.int .i64 depth))))), (4, (.av (.one (.ref 2 0)))), (5, (.av (.one (.ref 3 0)))), (6, (.av (.one (.ref 4 0)))), (7, (.av (.one (.pv (.int .u64 kind))))), (22, (.av (.one (.pv (.bool b)))))], [(0, [(.ref 1 0), (.pv (.int .i64 n))]), (1, [(.pv (.ints .u8 l false)), (.pv (.int .i64 n2)), (.pv (.int .i64 n3))]), (2, [(.pv (.bool false)), (.pv (T_id_halves.pv T_id_halves.nil))]), (3, [(.pv (.bool false)), (.pv (T_id_halves.pv T_id_halves.nil))]), (4, [(.pv (.bool false)), (.pv (T_id_halves.pv T_id_halves.nil))])], []⟩ (code_source_id_C22_ex depth kind b n l n2 n3 r_).1 (code_source_id_C22_ex depth kind b n l n2 n3 r_).2 := by
  unfold code_source_id_C22 at h
  rcases cond_of h with ⟨h1, h⟩ | ⟨h1, h⟩
  · obtain ⟨n4, h2, h⟩ := bind_of h
    have h := some_of h
    subst h
    have t_ := tT h1 <| tR (code_source_fail_runs 3 n l n2 n3 _ h2) <| tN
    exact piece_ok (C := cfg) (sc := t_.ev) (.k0 t_.pf (by kernel_rfl))
  · have h := some_of h
    subst h
    have t_ := tF h1 <| tN
    exact piece_ok (C := cfg) (sc := t_.ev) (.k0 t_.pf (by kernel_rfl))
/-! ### code_source_must_out -/
def code_source_must_out (is_ : Bool) (n : Int) (l : List Int) (n2 : Int) (n3 : Int) : Int → Res
  | r1 => ([], [[(.ref 1 0), (.pv (.int .i64 r1))], [(.pv (.ints .u8 l false)), (.pv (.int .i64 n2)), (.pv (.int .i64 n3))]], [])
/-! ### code_source_must -/
noncomputable def code_source_must (is_ : Bool) (n : Int) (l : List Int) (n2 : Int) (n3 : Int) : Option (Int) :=
  bif is_ then
    some n
  else
    (code_source_fail 6 n l n2 n3).bind fun n4 =>
    some n4
theorem code_source_must_runs (is_ : Bool) (n : Int) (l : List Int) (n2 : Int) (n3 : Int) (r_ : Int) (h : code_source_must is_ n l n2 n3 = some r_) : Runs Tryd.prog 150 [(.one (.ref 0 0)), (.one (.pv (.bool is_)))] [[(.ref 1 0), (.pv (.int .i64 n))], [(.pv (.ints .u8 l false)), (.pv (.int .i64 n2)), (.pv (.int .i64 n3))]] [] (code_source_must_out is_ n l n2 n3 r_) := by
  unfold code_source_must at h
  rcases cond_of h with ⟨h1, h⟩ | ⟨h1, h⟩
  · have h := some_of h
    subst h
    have t_ := tF (not_of2 h1) <| tN
    exact runs_of (C := cfg) (objs := [[(.ref 1 0), (.pv (.int .i64 n))], [(.pv (.ints .u8 l false)), (.pv (.int .i64 n2)), (.pv (.int .i64 n3))]]) (sc := t_.ev) (.k0 t_.pf (by kernel_rfl))
  · obtain ⟨n4, h2, h⟩ := bind_of h
    have h := some_of h
    subst h
    have t_ := tT (not_of h1) <| tR (code_source_fail_runs 6 n l n2 n3 _ h2) <| tN
    exact runs_of (C := cfg) (objs := [[(.ref 1 0), (.pv (.int .i64 n))], [(.pv (.ints .u8 l false)), (.pv (.int .i64 n2)), (.pv (.int .i64 n3))]]) (sc := t_.ev) (.k0 t_.pf (by kernel_rfl))
/-! ### id_Pair_out -/
def id_Pair_out (l : Bool) (l2 : T_id_halves) (r : Bool) (r2 : T_id_halves) : Bool × T_id_halves × Int → Res
  | (r1, r2, r3) => ([(.agg [(.pv (.bool r1)), (.pv (T_id_halves.pv r2))]), (.one (.pv (.int .i64 r3)))], [], [])
/-! ### id_pair_out -/
def id_pair_out (l : Bool) (l2 : T_id_halves) (r : Bool) (r2 : T_id_halves) : Bool × T_id_halves → Res
  | (r1, r2) => ([(.agg [(.pv (.bool r1)), (.pv (T_id_halves.pv r2))])], [], [])

end Go.Proofs.YtjjakdmcnkldoaaDoor
