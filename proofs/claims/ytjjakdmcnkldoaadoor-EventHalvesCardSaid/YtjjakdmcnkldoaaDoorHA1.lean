/- What functions compute, and that they do. -/
import Derived.Test.YtjjakdmcnkldoaaDoorHCfg
import Derived.Test.YtjjakdmcnkldoaaDoorHM2
import Derived.Test.YtjjakdmcnkldoaaDoorHTell
set_option linter.unusedVariables false
set_option linter.unusedSimpArgs false
set_option maxRecDepth 100000
namespace Go.Proofs.YtjjakdmcnkldoaaDoor
open Go.Ev

/-! ### bytes_Clone -/
theorem bytes_Clone_nil  : evFn Tryd.prog cfg (Runs Tryd.prog) (LRuns Tryd.prog (lEnv Tryd.prog cfg 120 0).nt 0) 120 [(.one (.pv .nils))] [] []
    [.br true] =
  some (([(.one (.pv .nils))], [], []), obs [
    true = true]) := by kernel_rfl
theorem bytes_Clone_emp  : evFn Tryd.prog cfg (Runs Tryd.prog) (LRuns Tryd.prog (lEnv Tryd.prog cfg 120 0).nt 0) 120 [(.one (.pv .emp))] [] []
    [.br false, .br true] =
  some (([(.one (.own 0 0 0 false))], [], [(.ints .u8 [])]), obs [
    false = false,
    true = true]) := by kernel_rfl
theorem bytes_Clone_fn (l : List Int) (t : Bool) : evFn Tryd.prog cfg (Runs Tryd.prog) (LRuns Tryd.prog (lEnv Tryd.prog cfg 120 0).nt 0) 120 [(.one (.pv (.ints .u8 l t)))] [] []
    [.br false, .br false] =
  some (([(.one (.own 0 0 (([] ++ l)).length false))], [], [(.ints .u8 ([] ++ l))]), obs [
    (!(Nat.beq (l).length 0)) = true,
    false = false,
    (!(Nat.beq (l).length 0)) = true,
    (fits (([] ++ l)).length) = true]) := by kernel_rfl
theorem bytes_Clone_runs {l : List Int} {t : Bool} (hl : fits l.length = true) : Runs Tryd.prog 120 [.one (.pv (.ints .u8 l t))] [] [] ([.one (.pv (.ints .u8 l false))], [], []) := by
  cases l with
  | nil =>
    have h1 : Runs Tryd.prog 120 [.one (.pv .nils)] [] [] ([.one (.pv (.ints .u8 [] false))], [], []) := by
      have h0 : Runs Tryd.prog 120 [.one (.pv .nils)] [] [] ([.one (.pv .nils)], [], []) := runs_of (Says.of bytes_Clone_nil ⟨rfl, trivial⟩)
      refine h0.res rfl (Nat.zero_le _) fun y v hs hv => ⟨y, rfl, Ext.refl y, rfl, hs, nils_ints hv⟩
    have h2 : Runs Tryd.prog 120 [.one (.pv .emp)] [] [] ([.one (.pv (.ints .u8 [] false))], [], []) :=
      Runs.close0 (rw := .ints .u8 []) (runs_of (Says.of bytes_Clone_emp ⟨rfl, rfl, trivial⟩)) rfl
    refine h1.split h2 fun x vals hr => ?_
    match vals, hr with
    | [v], hr =>
      rcases rep_empty hr.1 with h | h
      · exact .inl ⟨h, trivial⟩
      · exact .inr ⟨h, trivial⟩
  | cons a l =>
    have H := bytes_Clone_fn (a :: l) t
    rw [List.nil_append] at H
    exact Runs.close0 (rw := .ints .u8 (a :: l)) (runs_of (Says.of H ⟨by simp [Nat.beq], rfl, by simp [Nat.beq], hl, trivial⟩)) rfl
/-! ### kinfolklaw02_EventHalves_out -/
def kinfolklaw02_EventHalves_out (p : List Int) (q : List Int) : Bool → Res
  | r1 => ([(.one (.pv (.bool r1)))], [], [])
/-! ### kinfolklaw02_awake_out -/
def kinfolklaw02_awake_out : Bool → Res
  | r1 => ([(.one (.pv (.bool r1)))], [], [])
/-! ### event_Parse_out -/
def event_Parse_out (s : ByteArray) : Int × T_event_halves × Int → Res
  | (r1, r2, r3) => ([(.agg [(.pv (.int .u64 r1)), (.pv (T_event_halves.pv r2))]), (.one (.pv (.int .i64 r3)))], [], [])
/-! ### event_reader_event_out -/
def event_reader_event_out (s : ByteArray) (b : Bool) (b2 : Bool) : Int × T_event_halves × ByteArray × Bool × Bool → Res
  | (r1, r2, r3, r4, r5) => ([(.agg [(.pv (.int .u64 r1)), (.pv (T_event_halves.pv r2))])], [[(.pv (.str r3)), (.pv (.bool r4)), (.pv (.bool r5))]], [])
/-! ### event_reader_number_out -/
def event_reader_number_out (s : ByteArray) (b : Bool) (b2 : Bool) : Int × ByteArray × Bool × Bool → Res
  | (r1, r2, r3, r4) => ([(.one (.pv (.int .u64 r1)))], [[(.pv (.str r2)), (.pv (.bool r3)), (.pv (.bool r4))]], [])
/-! ### event_reader_number_L0 -/
def event_reader_number_L0_st (s : ByteArray) (b : Bool) (b2 : Bool) : Int → St
  | k => ⟨[(0, (.av (.one (.ref 0 0)))), (3, (.av (.one (.pv (.int .i64 k)))))], [(0, [(.pv (.str s)), (.pv (.bool b)), (.pv (.bool b2))])], []⟩
def event_reader_number_L0_ex (s : ByteArray) (b : Bool) (b2 : Bool) : Int → Ex × St
  | r1 => ((.exit 0), ⟨[(0, (.av (.one (.ref 0 0)))), (3, (.av (.one (.pv (.int .i64 r1)))))], [(0, [(.pv (.str s)), (.pv (.bool b)), (.pv (.bool b2))])], []⟩)
noncomputable def event_reader_number_L0_step (s : ByteArray) (b : Bool) (b2 : Bool) : Int → Option ((Int) ⊕ (Int))
  | k =>
  bif (decide ((k : Int) < (s.size : Int))) then
    bif (decide ((k : Int) < 19)) then
      bif decide ((0 : Int) ≤ k) && decide ((k : Int) < (s.size : Int)) then
      bif (decide ((48 : Int) ≤ ((s.data.getD (k).toNat 0).toNat : Int))) then
        bif (decide ((((s.data.getD (k).toNat 0).toNat : Int) : Int) ≤ 57)) then
          some (.inl (iadd .i64 k 1))
        else
          some (.inr k)
      else
        some (.inr k)
      else none
    else
      some (.inr k)
  else
    some (.inr k)
theorem event_reader_number_L0_ok (s : ByteArray) (b : Bool) (b2 : Bool) (k : Int) (z_ : (Int) ⊕ (Int)) (h : event_reader_number_L0_step s b b2 k = some z_) : RoundOk Tryd.prog cfg 144 1 (loopAt Tryd.prog 144 0) (event_reader_number_L0_st s b b2) (event_reader_number_L0_ex s b b2) k z_ := by
  rcases cond_of h with ⟨h1, h⟩ | ⟨h1, h⟩
  · rcases cond_of h with ⟨h2, h⟩ | ⟨h2, h⟩
    · obtain ⟨h3, h⟩ := need_of h
      rcases cond_of h with ⟨h4, h⟩ | ⟨h4, h⟩
      · rcases cond_of h with ⟨h5, h⟩ | ⟨h5, h⟩
        · have h := some_of h
          subst h
          have t_ := tT h1 <| tT h2 <| tO h3 <| tT h4 <| tO h3 <| tT h5 <| tN
          exact ⟨t_.ev, event_reader_number_L0_st s b b2 (iadd .i64 k 1), .k0 t_.pf (by kernel_rfl), .same (by kernel_rfl)⟩
        · have h := some_of h
          subst h
          have t_ := tT h1 <| tT h2 <| tO h3 <| tT h4 <| tO h3 <| tF h5 <| tN
          exact ⟨t_.ev, ⟨[(34, (.av (.one (.pv (.bool false))))), (0, (.av (.one (.ref 0 0)))), (3, (.av (.one (.pv (.int .i64 k))))), (34, (.av (.one (.pv (.bool (decide ((((s.data.getD (k).toNat 0).toNat : Int) : Int) ≤ 57)))))))], [(0, [(.pv (.str s)), (.pv (.bool b)), (.pv (.bool b2))])], []⟩, .k0 t_.pf (by kernel_rfl), ⟨⟨⟨_, rfl, .eq rfl⟩, ⟨_, rfl, .eq rfl⟩, trivial⟩, ⟨⟨rfl, ⟨.eq rfl, .eq rfl, .eq rfl, trivial⟩⟩, trivial⟩, trivial⟩⟩
      · have h := some_of h
        subst h
        have t_ := tT h1 <| tT h2 <| tO h3 <| tF h4 <| tF (rfl : false = false) <| tN
        exact ⟨t_.ev, ⟨[(34, (.av (.one (.pv (.bool false))))), (0, (.av (.one (.ref 0 0)))), (3, (.av (.one (.pv (.int .i64 k))))), (34, (.av (.one (.pv (.bool false)))))], [(0, [(.pv (.str s)), (.pv (.bool b)), (.pv (.bool b2))])], []⟩, .k0 t_.pf (by kernel_rfl), ⟨⟨⟨_, rfl, .eq rfl⟩, ⟨_, rfl, .eq rfl⟩, trivial⟩, ⟨⟨rfl, ⟨.eq rfl, .eq rfl, .eq rfl, trivial⟩⟩, trivial⟩, trivial⟩⟩
    · have h := some_of h
      subst h
      have t_ := tT h1 <| tF h2 <| tF (rfl : false = false) <| tF (rfl : false = false) <| tN
      exact ⟨t_.ev, ⟨[(34, (.av (.one (.pv (.bool false))))), (0, (.av (.one (.ref 0 0)))), (3, (.av (.one (.pv (.int .i64 k))))), (34, (.av (.one (.pv (.bool false)))))], [(0, [(.pv (.str s)), (.pv (.bool b)), (.pv (.bool b2))])], []⟩, .k0 t_.pf (by kernel_rfl), ⟨⟨⟨_, rfl, .eq rfl⟩, ⟨_, rfl, .eq rfl⟩, trivial⟩, ⟨⟨rfl, ⟨.eq rfl, .eq rfl, .eq rfl, trivial⟩⟩, trivial⟩, trivial⟩⟩
  · have h := some_of h
    subst h
    have t_ := tF h1 <| tF (rfl : false = false) <| tF (rfl : false = false) <| tF (rfl : false = false) <| tN
    exact ⟨t_.ev, ⟨[(34, (.av (.one (.pv (.bool false))))), (0, (.av (.one (.ref 0 0)))), (3, (.av (.one (.pv (.int .i64 k))))), (34, (.av (.one (.pv (.bool false)))))], [(0, [(.pv (.str s)), (.pv (.bool b)), (.pv (.bool b2))])], []⟩, .k0 t_.pf (by kernel_rfl), ⟨⟨⟨_, rfl, .eq rfl⟩, ⟨_, rfl, .eq rfl⟩, trivial⟩, ⟨⟨rfl, ⟨.eq rfl, .eq rfl, .eq rfl, trivial⟩⟩, trivial⟩, trivial⟩⟩
theorem event_reader_number_L0_runs (s : ByteArray) (b : Bool) (b2 : Bool) (s_ : Int) (r_ : Int) (h : runL (event_reader_number_L0_step s b b2) s_ = some r_) : LRuns Tryd.prog (lEnv Tryd.prog cfg 144 1).nt 1 (.loop (loopAt Tryd.prog 144 0)) (event_reader_number_L0_st s b b2 s_) (event_reader_number_L0_ex s b b2 r_).1 (event_reader_number_L0_ex s b b2 r_).2 :=
  loop_run h (event_reader_number_L0_ok s b b2) (by intro r_; rcases r_ with r1 <;> simp [event_reader_number_L0_ex])
/-! ### strconv_FormatUint_out -/
def strconv_FormatUint_out (i : Int) (base : Int) : ByteArray → Res
  | r1 => ([(.one (.pv (.str r1)))], [], [])
/-! ### strconv_FormatUint -/
noncomputable def strconv_FormatUint (i : Int) (base : Int) : Option (ByteArray) :=
  (strconv_FormatUint10 i base).bind fun s =>
  some s
theorem strconv_FormatUint_runs (i : Int) (base : Int) (r_ : ByteArray) (h : strconv_FormatUint i base = some r_) : Runs Tryd.prog 97 [(.one (.pv (.int .u64 i))), (.one (.pv (.int .i64 base)))] [] [] (strconv_FormatUint_out i base r_) := by
  unfold strconv_FormatUint at h
  obtain ⟨s, h1, h⟩ := bind_of h
  have h := some_of h
  subst h
  have t_ := tR (strconv_FormatUint10_runs i base _ h1) <| tN
  exact runs_of (C := cfg) (objs := []) (sc := t_.ev) (.k0 t_.pf (by kernel_rfl))
/-! ### event_reader_number -/
noncomputable def event_reader_number (s : ByteArray) (b : Bool) (b2 : Bool) : Option (Int × ByteArray × Bool × Bool) :=
  (runL (event_reader_number_L0_step s b b2) 0).bind fun n =>
  bif decide ((0 : Int) ≤ 0) && decide ((0 : Int) ≤ n) && decide ((n : Int) ≤ (s.size : Int)) then
  (strconv_ParseUint (s.extract 0 (n).toNat) 10 64).bind fun z_ => match z_ with
  | .inl n2 =>
    (strconv_FormatUint n2 10).bind fun s2 =>
    bif decide (s2 = (s.extract 0 (n).toNat)) then
      bif decide ((0 : Int) ≤ n) && decide ((n : Int) ≤ (s.size : Int)) && decide (((s.size : Int) : Int) ≤ (s.size : Int)) then
      bif (decide ((1048576 : Int) < n2)) then
        some (1048576, (s.extract (n).toNat ((s.size : Int)).toNat), b, true)
      else
        some (n2, (s.extract (n).toNat ((s.size : Int)).toNat), b, b2)
      else none
    else
      some (0, s, true, b2)
  | .inr _ =>
    some (0, s, true, b2)
  else none
theorem event_reader_number_runs (s : ByteArray) (b : Bool) (b2 : Bool) (r_ : Int × ByteArray × Bool × Bool) (h : event_reader_number s b b2 = some r_) : Runs Tryd.prog 144 [(.one (.ref 0 0))] [[(.pv (.str s)), (.pv (.bool b)), (.pv (.bool b2))]] [] (event_reader_number_out s b b2 r_) := by
  unfold event_reader_number at h
  obtain ⟨n, h1, h⟩ := bind_of h
  obtain ⟨h2, h⟩ := need_of h
  obtain ⟨z_, h3, h⟩ := bind_of h
  rcases z_ with n2 | _
  · have q_3 := (strconv_ParseUint_runs (s.extract 0 (n).toNat) 10 64 _ h3)
    obtain ⟨s2, h4, h⟩ := bind_of h
    rcases cond_of h with ⟨h5, h⟩ | ⟨h5, h⟩
    · obtain ⟨h6, h⟩ := need_of h
      rcases cond_of h with ⟨h7, h⟩ | ⟨h7, h⟩
      · have h := some_of h
        subst h
        have t_ := tL (event_reader_number_L0_runs s b b2 _ _ h1) <| tO h2 <| tR q_3 <| tF (rfl : false = false) <| tR (strconv_FormatUint_runs n2 10 _ h4) <| tO h2 <| tO h2 <| tR (strconv_FormatUint_runs n2 10 _ h4) <| tF (not_of2 h5) <| tO h6 <| tT h7 <| tN
        exact runs_of (C := cfg) (objs := [[(.pv (.str s)), (.pv (.bool b)), (.pv (.bool b2))]]) (sc := t_.ev) (.k1 t_.pf (by kernel_rfl) (by kernel_rfl))
      · have h := some_of h
        subst h
        have t_ := tL (event_reader_number_L0_runs s b b2 _ _ h1) <| tO h2 <| tR q_3 <| tF (rfl : false = false) <| tR (strconv_FormatUint_runs n2 10 _ h4) <| tO h2 <| tO h2 <| tR (strconv_FormatUint_runs n2 10 _ h4) <| tF (not_of2 h5) <| tO h6 <| tF h7 <| tN
        exact runs_of (C := cfg) (objs := [[(.pv (.str s)), (.pv (.bool b)), (.pv (.bool b2))]]) (sc := t_.ev) (.k1 t_.pf (by kernel_rfl) (by kernel_rfl))
    · have h := some_of h
      subst h
      have t_ := tL (event_reader_number_L0_runs s b b2 _ _ h1) <| tO h2 <| tR q_3 <| tF (rfl : false = false) <| tR (strconv_FormatUint_runs n2 10 _ h4) <| tO h2 <| tO h2 <| tR (strconv_FormatUint_runs n2 10 _ h4) <| tT (not_of h5) <| tN
      exact runs_of (C := cfg) (objs := [[(.pv (.str s)), (.pv (.bool b)), (.pv (.bool b2))]]) (sc := t_.ev) (.k1 t_.pf (by kernel_rfl) (by kernel_rfl))
  · have h := some_of h
    subst h
    have t_ := tL (event_reader_number_L0_runs s b b2 _ _ h1) <| tO h2 <| tR (strconv_ParseUint_runs (s.extract 0 (n).toNat) 10 64 _ h3) <| tT (rfl : true = true) <| tT (rfl : true = true) <| tN
    exact runs_of (C := cfg) (objs := [[(.pv (.str s)), (.pv (.bool b)), (.pv (.bool b2))]]) (sc := t_.ev) (.k1 t_.pf (by kernel_rfl) (by kernel_rfl))
/-! ### event_reader_take_out -/
def event_reader_take_out (c : Int) (s : ByteArray) (b : Bool) (b2 : Bool) : ByteArray × Bool → Res
  | (r1, r2) => ([], [[(.pv (.str r1)), (.pv (.bool r2)), (.pv (.bool b2))]], [])
/-! ### event_reader_take -/
noncomputable def event_reader_take (c : Int) (s : ByteArray) (b : Bool) (b2 : Bool) : Option (ByteArray × Bool) :=
  bif (decide (s = (⟨#[]⟩ : ByteArray))) then
    some (s, true)
  else
    bif decide ((0 : Int) ≤ 0) && decide ((0 : Int) < (s.size : Int)) then
    bif (decide ((((s.data.getD 0 0).toNat : Int) : Int) = c)) then
      bif decide ((0 : Int) ≤ 1) && decide ((1 : Int) ≤ (s.size : Int)) && decide (((s.size : Int) : Int) ≤ (s.size : Int)) then
      some ((s.extract 1 ((s.size : Int)).toNat), b)
      else none
    else
      some (s, true)
    else none
theorem event_reader_take_runs (c : Int) (s : ByteArray) (b : Bool) (b2 : Bool) (r_ : ByteArray × Bool) (h : event_reader_take c s b b2 = some r_) : Runs Tryd.prog 145 [(.one (.ref 0 0)), (.one (.pv (.int .u8 c)))] [[(.pv (.str s)), (.pv (.bool b)), (.pv (.bool b2))]] [] (event_reader_take_out c s b b2 r_) := by
  unfold event_reader_take at h
  rcases cond_of h with ⟨h1, h⟩ | ⟨h1, h⟩
  · have h := some_of h
    subst h
    have t_ := tT h1 <| tT (rfl : true = true) <| tN
    exact runs_of (C := cfg) (objs := [[(.pv (.str s)), (.pv (.bool b)), (.pv (.bool b2))]]) (sc := t_.ev) (.k0 t_.pf (by kernel_rfl))
  · obtain ⟨h2, h⟩ := need_of h
    rcases cond_of h with ⟨h3, h⟩ | ⟨h3, h⟩
    · obtain ⟨h4, h⟩ := need_of h
      have h := some_of h
      subst h
      have t_ := tF h1 <| tO h2 <| tF (not_of2 h3) <| tO h4 <| tN
      exact runs_of (C := cfg) (objs := [[(.pv (.str s)), (.pv (.bool b)), (.pv (.bool b2))]]) (sc := t_.ev) (.k0 t_.pf (by kernel_rfl))
    · have h := some_of h
      subst h
      have t_ := tF h1 <| tO h2 <| tT (not_of h3) <| tN
      exact runs_of (C := cfg) (objs := [[(.pv (.str s)), (.pv (.bool b)), (.pv (.bool b2))]]) (sc := t_.ev) (.k0 t_.pf (by kernel_rfl))
/-! ### event_reader_event -/
noncomputable def event_reader_event_b (rec_event_reader_event : ByteArray → Bool → Bool → Option (Int × T_event_halves × ByteArray × Bool × Bool)) (s : ByteArray) (b : Bool) (b2 : Bool) : Option (Int × T_event_halves × ByteArray × Bool × Bool) :=
  bif b then
    some (0, T_event_halves.nil, s, b, b2)
  else
    bif (decide (s = (⟨#[]⟩ : ByteArray))) then
      (event_reader_number s b b2).bind fun (n, s2, b3, b4) =>
      some (n, T_event_halves.nil, s2, b3, b4)
    else
      bif decide ((0 : Int) ≤ 0) && decide ((0 : Int) < (s.size : Int)) then
      bif (decide ((((s.data.getD 0 0).toNat : Int) : Int) = 40)) then
        (event_reader_take 40 s b b2).bind fun (s2, b3) =>
        (event_reader_number s2 b3 b2).bind fun (n, s3, b4, b5) =>
        (event_reader_take 44 s3 b4 b5).bind fun (s4, b6) =>
        (rec_event_reader_event s4 b6 b5).bind fun (n2, t, s5, b7, b8) =>
        (event_reader_take 44 s5 b7 b8).bind fun (s6, b9) =>
        (rec_event_reader_event s6 b9 b8).bind fun (n3, t2, s7, b10, b11) =>
        (event_reader_take 41 s7 b10 b11).bind fun (s8, b12) =>
        bif (decide ((0 : Int) < (if (n3 : Int) < n2 then n3 else n2))) then
          some (0, T_event_halves.nil, s8, true, b11)
        else
          match t with
          | .nil =>
            match t2 with
            | .nil =>
              bif (decide ((n2 : Int) = n3)) then
                some (0, T_event_halves.nil, s8, true, b11)
              else
                some (n, (T_event_halves.mk n2 t n3 t2), s8, b12, b11)
            | .mk n4 t3 n5 t4 =>
              some (n, (T_event_halves.mk n2 t n3 t2), s8, b12, b11)
          | .mk n4 t3 n5 t4 =>
            some (n, (T_event_halves.mk n2 t n3 t2), s8, b12, b11)
      else
        (event_reader_number s b b2).bind fun (n, s2, b3, b4) =>
        some (n, T_event_halves.nil, s2, b3, b4)
      else none
theorem event_reader_event_b_runs (rec_event_reader_event : ByteArray → Bool → Bool → Option (Int × T_event_halves × ByteArray × Bool × Bool)) (hrec_event_reader_event : ∀ s b b2 r_, rec_event_reader_event s b b2 = some r_ → Runs Tryd.prog 113 [(.one (.ref 0 0))] [[(.pv (.str s)), (.pv (.bool b)), (.pv (.bool b2))]] [] (event_reader_event_out s b b2 r_)) (s : ByteArray) (b : Bool) (b2 : Bool) (r_ : Int × T_event_halves × ByteArray × Bool × Bool) (h : event_reader_event_b rec_event_reader_event s b b2 = some r_) : Runs Tryd.prog 113 [(.one (.ref 0 0))] [[(.pv (.str s)), (.pv (.bool b)), (.pv (.bool b2))]] [] (event_reader_event_out s b b2 r_) := by
  unfold event_reader_event_b at h
  rcases cond_of h with ⟨h1, h⟩ | ⟨h1, h⟩
  · have h := some_of h
    subst h
    have t_ := tT h1 <| tN
    have e_ : Runs Tryd.prog 113 [(.one (.ref 0 0))] [[(.pv (.str s)), (.pv (.bool b)), (.pv (.bool b2))]] [] ([(.agg [(.pv (.int .u64 0)), (.pv .nilp)])], [[(.pv (.str s)), (.pv (.bool b)), (.pv (.bool b2))]], []) := runs_of (C := cfg) (objs := [[(.pv (.str s)), (.pv (.bool b)), (.pv (.bool b2))]]) (sc := t_.ev) (.k0 t_.pf (by kernel_rfl))
    exact e_.out ⟨⟨.eq rfl, .eq rfl, trivial⟩, trivial⟩ ⟨⟨.eq rfl, .eq rfl, .eq rfl, trivial⟩, trivial⟩ trivial rfl
  · rcases cond_of h with ⟨h2, h⟩ | ⟨h2, h⟩
    · obtain ⟨⟨n, s2, b3, b4⟩, h3, h⟩ := bind_of h
      have h := some_of h
      subst h
      have t_ := tF h1 <| tT h2 <| tT (rfl : true = true) <| tR (event_reader_number_runs s b b2 _ h3) <| tN
      have e_ : Runs Tryd.prog 113 [(.one (.ref 0 0))] [[(.pv (.str s)), (.pv (.bool b)), (.pv (.bool b2))]] [] ([(.agg [(.pv (.int .u64 n)), (.pv .nilp)])], [[(.pv (.str s2)), (.pv (.bool b3)), (.pv (.bool b4))]], []) := runs_of (C := cfg) (objs := [[(.pv (.str s)), (.pv (.bool b)), (.pv (.bool b2))]]) (sc := t_.ev) (.k0 t_.pf (by kernel_rfl))
      exact e_.out ⟨⟨.eq rfl, .eq rfl, trivial⟩, trivial⟩ ⟨⟨.eq rfl, .eq rfl, .eq rfl, trivial⟩, trivial⟩ trivial rfl
    · obtain ⟨h3, h⟩ := need_of h
      rcases cond_of h with ⟨h4, h⟩ | ⟨h4, h⟩
      · obtain ⟨⟨s2, b3⟩, h5, h⟩ := bind_of h
        obtain ⟨⟨n, s3, b4, b5⟩, h6, h⟩ := bind_of h
        obtain ⟨⟨s4, b6⟩, h7, h⟩ := bind_of h
        obtain ⟨⟨n2, t, s5, b7, b8⟩, h8, h⟩ := bind_of h
        obtain ⟨⟨s6, b9⟩, h9, h⟩ := bind_of h
        obtain ⟨⟨n3, t2, s7, b10, b11⟩, h10, h⟩ := bind_of h
        obtain ⟨⟨s8, b12⟩, h11, h⟩ := bind_of h
        have p11_ := fun {sc_ : List Ev} {Q_ : Prop} (t_ : Tell sc_ Q_) => tF h1 <| tF h2 <| tO h3 <| tF (not_of2 h4) <| tR (event_reader_take_runs 40 s b b2 _ h5) <| tR (event_reader_number_runs s2 b3 b2 _ h6) <| tR (event_reader_take_runs 44 s3 b4 b5 _ h7) <| tR (hrec_event_reader_event s4 b6 b5 _ h8) <| tR (event_reader_take_runs 44 s5 b7 b8 _ h9) <| tR (hrec_event_reader_event s6 b9 b8 _ h10) <| tR (event_reader_take_runs 41 s7 b10 b11 _ h11) <| t_
        rcases cond_of h with ⟨h12, h⟩ | ⟨h12, h⟩
        · have h := some_of h
          subst h
          have t_ := p11_ <| tT h12 <| tT (rfl : true = true) <| tN
          have e_ : Runs Tryd.prog 113 [(.one (.ref 0 0))] [[(.pv (.str s)), (.pv (.bool b)), (.pv (.bool b2))]] [] ([(.agg [(.pv (.int .u64 0)), (.pv .nilp)])], [[(.pv (.str s8)), (.pv (.bool true)), (.pv (.bool b11))]], []) := runs_of (C := cfg) (objs := [[(.pv (.str s)), (.pv (.bool b)), (.pv (.bool b2))]]) (sc := t_.ev) (.k0 t_.pf (by kernel_rfl))
          exact e_.out ⟨⟨.eq rfl, .eq rfl, trivial⟩, trivial⟩ ⟨⟨.eq rfl, .eq rfl, .eq rfl, trivial⟩, trivial⟩ trivial rfl
        · cases t with
          | nil =>
            cases t2 with
            | nil =>
              rcases cond_of h with ⟨h13, h⟩ | ⟨h13, h⟩
              · have h := some_of h
                subst h
                have t_ := p11_ <| tF h12 <| tT (rfl : true = true) <| tT (rfl : true = true) <| tT h13 <| tN
                have e_ : Runs Tryd.prog 113 [(.one (.ref 0 0))] [[(.pv (.str s)), (.pv (.bool b)), (.pv (.bool b2))]] [] ([(.agg [(.pv (.int .u64 0)), (.pv .nilp)])], [[(.pv (.str s8)), (.pv (.bool true)), (.pv (.bool b11))]], []) := runs_of (C := cfg) (objs := [[(.pv (.str s)), (.pv (.bool b)), (.pv (.bool b2))]]) (sc := t_.ev) (.k0 t_.pf (by kernel_rfl))
                exact e_.out ⟨⟨.eq rfl, .eq rfl, trivial⟩, trivial⟩ ⟨⟨.eq rfl, .eq rfl, .eq rfl, trivial⟩, trivial⟩ trivial rfl
              · have h := some_of h
                subst h
                have t_ := p11_ <| tF h12 <| tT (rfl : true = true) <| tT (rfl : true = true) <| tF h13 <| tN
                have e_ : Runs Tryd.prog 113 [(.one (.ref 0 0))] [[(.pv (.str s)), (.pv (.bool b)), (.pv (.bool b2))]] [] ([(.agg [(.pv (.int .u64 n)), (.pv (.imm [(.int .u64 n2), (T_event_halves.pv T_event_halves.nil), (.int .u64 n3), (T_event_halves.pv T_event_halves.nil)] 0))])], [[(.pv (.str s8)), (.pv (.bool b12)), (.pv (.bool b11))]], []) := runs_of (C := cfg) (objs := [[(.pv (.str s)), (.pv (.bool b)), (.pv (.bool b2))]]) (sc := t_.ev) (.k0 t_.pf (by kernel_rfl))
                exact e_.out ⟨⟨.eq rfl, .eq rfl, trivial⟩, trivial⟩ ⟨⟨.eq rfl, .eq rfl, .eq rfl, trivial⟩, trivial⟩ trivial rfl
            | mk n4 t3 n5 t4 =>
              have h := some_of h
              subst h
              have t_ := p11_ <| tF h12 <| tT (rfl : true = true) <| tF (rfl : false = false) <| tF (rfl : false = false) <| tN
              have e_ : Runs Tryd.prog 113 [(.one (.ref 0 0))] [[(.pv (.str s)), (.pv (.bool b)), (.pv (.bool b2))]] [] ([(.agg [(.pv (.int .u64 n)), (.pv (.imm [(.int .u64 n2), (T_event_halves.pv T_event_halves.nil), (.int .u64 n3), (T_event_halves.pv (T_event_halves.mk n4 t3 n5 t4))] 0))])], [[(.pv (.str s8)), (.pv (.bool b12)), (.pv (.bool b11))]], []) := runs_of (C := cfg) (objs := [[(.pv (.str s)), (.pv (.bool b)), (.pv (.bool b2))]]) (sc := t_.ev) (.k0 t_.pf (by kernel_rfl))
              exact e_.out ⟨⟨.eq rfl, .eq rfl, trivial⟩, trivial⟩ ⟨⟨.eq rfl, .eq rfl, .eq rfl, trivial⟩, trivial⟩ trivial rfl
          | mk n4 t3 n5 t4 =>
            have h := some_of h
            subst h
            have t_ := p11_ <| tF h12 <| tF (rfl : false = false) <| tF (rfl : false = false) <| tF (rfl : false = false) <| tN
            have e_ : Runs Tryd.prog 113 [(.one (.ref 0 0))] [[(.pv (.str s)), (.pv (.bool b)), (.pv (.bool b2))]] [] ([(.agg [(.pv (.int .u64 n)), (.pv (.imm [(.int .u64 n2), (T_event_halves.pv (T_event_halves.mk n4 t3 n5 t4)), (.int .u64 n3), (T_event_halves.pv t2)] 0))])], [[(.pv (.str s8)), (.pv (.bool b12)), (.pv (.bool b11))]], []) := runs_of (C := cfg) (objs := [[(.pv (.str s)), (.pv (.bool b)), (.pv (.bool b2))]]) (sc := t_.ev) (.k0 t_.pf (by kernel_rfl))
            exact e_.out ⟨⟨.eq rfl, .eq rfl, trivial⟩, trivial⟩ ⟨⟨.eq rfl, .eq rfl, .eq rfl, trivial⟩, trivial⟩ trivial rfl
      · obtain ⟨⟨n, s2, b3, b4⟩, h5, h⟩ := bind_of h
        have h := some_of h
        subst h
        have t_ := tF h1 <| tF h2 <| tO h3 <| tT (not_of h4) <| tR (event_reader_number_runs s b b2 _ h5) <| tN
        have e_ : Runs Tryd.prog 113 [(.one (.ref 0 0))] [[(.pv (.str s)), (.pv (.bool b)), (.pv (.bool b2))]] [] ([(.agg [(.pv (.int .u64 n)), (.pv .nilp)])], [[(.pv (.str s2)), (.pv (.bool b3)), (.pv (.bool b4))]], []) := runs_of (C := cfg) (objs := [[(.pv (.str s)), (.pv (.bool b)), (.pv (.bool b2))]]) (sc := t_.ev) (.k0 t_.pf (by kernel_rfl))
        exact e_.out ⟨⟨.eq rfl, .eq rfl, trivial⟩, trivial⟩ ⟨⟨.eq rfl, .eq rfl, .eq rfl, trivial⟩, trivial⟩ trivial rfl
noncomputable def event_reader_event : Nat → ByteArray → Bool → Bool → Option (Int × T_event_halves × ByteArray × Bool × Bool)
  | 0, _, _, _ => none
  | N + 1, s, b, b2 => event_reader_event_b (event_reader_event N) s b b2
theorem event_reader_event_runs : ∀ (N : Nat) (s : ByteArray) (b : Bool) (b2 : Bool) (r_ : Int × T_event_halves × ByteArray × Bool × Bool), event_reader_event N s b b2 = some r_ → Runs Tryd.prog 113 [(.one (.ref 0 0))] [[(.pv (.str s)), (.pv (.bool b)), (.pv (.bool b2))]] [] (event_reader_event_out s b b2 r_)
  | 0, _, _, _, _, h => by cases h
  | N + 1, s, b, b2, r_, h => event_reader_event_b_runs (event_reader_event N) (event_reader_event_runs N) s b b2 r_ h
/-! ### event_Event_right_out -/
def event_Event_right_out (e : Int) (e2 : T_event_halves) : Int → Res
  | r1 => ([(.one (.pv (.int .i64 r1)))], [], [])
/-! ### event_Event_Depth_out -/
def event_Event_Depth_out (e : Int) (e2 : T_event_halves) : Int → Res
  | r1 => ([(.one (.pv (.int .i64 r1)))], [], [])
/-! ### event_Event_Depth -/
noncomputable def event_Event_Depth_b (rec_event_Event_Depth : Int → T_event_halves → Option (Int)) (e : Int) (e2 : T_event_halves) : Option (Int) :=
  match e2 with
  | .nil =>
    some 0
  | .mk n t n2 t2 =>
    (rec_event_Event_Depth n t).bind fun n3 =>
    (rec_event_Event_Depth n2 t2).bind fun n4 =>
    some (iadd .i64 1 (if (n3 : Int) < n4 then n4 else n3))
theorem event_Event_Depth_b_runs (rec_event_Event_Depth : Int → T_event_halves → Option (Int)) (hrec_event_Event_Depth : ∀ e e2 r_, rec_event_Event_Depth e e2 = some r_ → Runs Tryd.prog 37 [(.agg [(.pv (.int .u64 e)), (.pv (T_event_halves.pv e2))])] [] [] (event_Event_Depth_out e e2 r_)) (e : Int) (e2 : T_event_halves) (r_ : Int) (h : event_Event_Depth_b rec_event_Event_Depth e e2 = some r_) : Runs Tryd.prog 37 [(.agg [(.pv (.int .u64 e)), (.pv (T_event_halves.pv e2))])] [] [] (event_Event_Depth_out e e2 r_) := by
  unfold event_Event_Depth_b at h
  cases e2 with
  | nil =>
    have h := some_of h
    subst h
    have t_ := tT (rfl : true = true) <| tN
    exact runs_of (C := cfg) (objs := []) (sc := t_.ev) (.k0 t_.pf (by kernel_rfl))
  | mk n t n2 t2 =>
    obtain ⟨n3, h1, h⟩ := bind_of h
    obtain ⟨n4, h2, h⟩ := bind_of h
    have h := some_of h
    subst h
    have t_ := tF (rfl : false = false) <| tR (hrec_event_Event_Depth n t _ h1) <| tR (hrec_event_Event_Depth n t _ h1) <| tR (hrec_event_Event_Depth n2 t2 _ h2) <| tN
    exact runs_of (C := cfg) (objs := []) (sc := t_.ev) (.k1 t_.pf (by kernel_rfl) (by kernel_rfl))
noncomputable def event_Event_Depth : Nat → Int → T_event_halves → Option (Int)
  | 0, _, _ => none
  | N + 1, e, e2 => event_Event_Depth_b (event_Event_Depth N) e e2
theorem event_Event_Depth_runs : ∀ (N : Nat) (e : Int) (e2 : T_event_halves) (r_ : Int), event_Event_Depth N e e2 = some r_ → Runs Tryd.prog 37 [(.agg [(.pv (.int .u64 e)), (.pv (T_event_halves.pv e2))])] [] [] (event_Event_Depth_out e e2 r_)
  | 0, _, _, _, h => by cases h
  | N + 1, e, e2, r_, h => event_Event_Depth_b_runs (event_Event_Depth N) (event_Event_Depth_runs N) e e2 r_ h
/-! ### event_Event_Max_out -/
def event_Event_Max_out (e : Int) (e2 : T_event_halves) : Int → Res
  | r1 => ([(.one (.pv (.int .u64 r1)))], [], [])
/-! ### event_Event_Max -/
noncomputable def event_Event_Max_b (rec_event_Event_Max : Int → T_event_halves → Option (Int)) (e : Int) (e2 : T_event_halves) : Option (Int) :=
  match e2 with
  | .nil =>
    some e
  | .mk n t n2 t2 =>
    (rec_event_Event_Max n t).bind fun n3 =>
    (rec_event_Event_Max n2 t2).bind fun n4 =>
    some (iadd .u64 e (if (n3 : Int) < n4 then n4 else n3))
theorem event_Event_Max_b_runs (rec_event_Event_Max : Int → T_event_halves → Option (Int)) (hrec_event_Event_Max : ∀ e e2 r_, rec_event_Event_Max e e2 = some r_ → Runs Tryd.prog 30 [(.agg [(.pv (.int .u64 e)), (.pv (T_event_halves.pv e2))])] [] [] (event_Event_Max_out e e2 r_)) (e : Int) (e2 : T_event_halves) (r_ : Int) (h : event_Event_Max_b rec_event_Event_Max e e2 = some r_) : Runs Tryd.prog 30 [(.agg [(.pv (.int .u64 e)), (.pv (T_event_halves.pv e2))])] [] [] (event_Event_Max_out e e2 r_) := by
  unfold event_Event_Max_b at h
  cases e2 with
  | nil =>
    have h := some_of h
    subst h
    have t_ := tT (rfl : true = true) <| tN
    exact runs_of (C := cfg) (objs := []) (sc := t_.ev) (.k0 t_.pf (by kernel_rfl))
  | mk n t n2 t2 =>
    obtain ⟨n3, h1, h⟩ := bind_of h
    obtain ⟨n4, h2, h⟩ := bind_of h
    have h := some_of h
    subst h
    have t_ := tF (rfl : false = false) <| tR (hrec_event_Event_Max n t _ h1) <| tR (hrec_event_Event_Max n t _ h1) <| tR (hrec_event_Event_Max n t _ h1) <| tR (hrec_event_Event_Max n2 t2 _ h2) <| tR (hrec_event_Event_Max n t _ h1) <| tR (hrec_event_Event_Max n2 t2 _ h2) <| tN
    exact runs_of (C := cfg) (objs := []) (sc := t_.ev) (.k1 t_.pf (by kernel_rfl) (by kernel_rfl))
noncomputable def event_Event_Max : Nat → Int → T_event_halves → Option (Int)
  | 0, _, _ => none
  | N + 1, e, e2 => event_Event_Max_b (event_Event_Max N) e e2
theorem event_Event_Max_runs : ∀ (N : Nat) (e : Int) (e2 : T_event_halves) (r_ : Int), event_Event_Max N e e2 = some r_ → Runs Tryd.prog 30 [(.agg [(.pv (.int .u64 e)), (.pv (T_event_halves.pv e2))])] [] [] (event_Event_Max_out e e2 r_)
  | 0, _, _, _, h => by cases h
  | N + 1, e, e2, r_, h => event_Event_Max_b_runs (event_Event_Max N) (event_Event_Max_runs N) e e2 r_ h
/-! ### event_Event_right -/
noncomputable def event_Event_right (N : Nat) (e : Int) (e2 : T_event_halves) : Option (Int) :=
  (event_Event_Depth N e e2).bind fun n =>
  bif (decide ((16 : Int) < n)) then
    some 3
  else
    (event_Event_Max N e e2).bind fun n2 =>
    bif (decide ((1048576 : Int) < n2)) then
      some 4
    else
      some 0
theorem event_Event_right_runs (N : Nat) (e : Int) (e2 : T_event_halves) (r_ : Int) (h : event_Event_right N e e2 = some r_) : Runs Tryd.prog 114 [(.agg [(.pv (.int .u64 e)), (.pv (T_event_halves.pv e2))])] [] [] (event_Event_right_out e e2 r_) := by
  unfold event_Event_right at h
  obtain ⟨n, h1, h⟩ := bind_of h
  rcases cond_of h with ⟨h2, h⟩ | ⟨h2, h⟩
  · have h := some_of h
    subst h
    have t_ := tR (event_Event_Depth_runs N e e2 _ h1) <| tT h2 <| tN
    exact runs_of (C := cfg) (objs := []) (sc := t_.ev) (.k0 t_.pf (by kernel_rfl))
  · obtain ⟨n2, h3, h⟩ := bind_of h
    rcases cond_of h with ⟨h4, h⟩ | ⟨h4, h⟩
    · have h := some_of h
      subst h
      have t_ := tR (event_Event_Depth_runs N e e2 _ h1) <| tF h2 <| tR (event_Event_Max_runs N e e2 _ h3) <| tT h4 <| tN
      exact runs_of (C := cfg) (objs := []) (sc := t_.ev) (.k0 t_.pf (by kernel_rfl))
    · have h := some_of h
      subst h
      have t_ := tR (event_Event_Depth_runs N e e2 _ h1) <| tF h2 <| tR (event_Event_Max_runs N e e2 _ h3) <| tF h4 <| tN
      exact runs_of (C := cfg) (objs := []) (sc := t_.ev) (.k0 t_.pf (by kernel_rfl))
/-! ### event_Parse -/
noncomputable def event_Parse (N : Nat) (s : ByteArray) : Option (Int × T_event_halves × Int) :=
  (event_reader_event N s false false).bind fun (n, t, s2, b, b2) =>
  (event_Event_right N n t).bind fun n2 =>
  bif b then
    some (0, T_event_halves.nil, 6)
  else
    bif decide (s2 = (⟨#[]⟩ : ByteArray)) then
      bif (decide ((n2 : Int) = 0)) then
        bif b2 then
          some (0, T_event_halves.nil, 4)
        else
          some (n, t, 0)
      else
        some (0, T_event_halves.nil, n2)
    else
      some (0, T_event_halves.nil, 6)
theorem event_Parse_runs (N : Nat) (s : ByteArray) (r_ : Int × T_event_halves × Int) (h : event_Parse N s = some r_) : Runs Tryd.prog 51 [(.one (.pv (.str s)))] [] [] (event_Parse_out s r_) := by
  unfold event_Parse at h
  obtain ⟨⟨n, t, s2, b, b2⟩, h1, h⟩ := bind_of h
  obtain ⟨n2, h2, h⟩ := bind_of h
  rcases cond_of h with ⟨h3, h⟩ | ⟨h3, h⟩
  · have h := some_of h
    subst h
    have t_ := tR (event_reader_event_runs N s false false _ h1) <| tR (event_Event_right_runs N n t _ h2) <| tT h3 <| tT (rfl : true = true) <| tN
    have e_ : Runs Tryd.prog 51 [(.one (.pv (.str s)))] [] [] ([(.agg [(.pv (.int .u64 0)), (.pv .nilp)]), (.one (.pv (.int .i64 6)))], [], []) := runs_of (C := cfg) (objs := []) (sc := t_.ev) (.k0 t_.pf (by kernel_rfl))
    exact e_.out ⟨⟨.eq rfl, .eq rfl, trivial⟩, .eq rfl, trivial⟩ trivial trivial rfl
  · rcases cond_of h with ⟨h4, h⟩ | ⟨h4, h⟩
    · rcases cond_of h with ⟨h5, h⟩ | ⟨h5, h⟩
      · rcases cond_of h with ⟨h6, h⟩ | ⟨h6, h⟩
        · have h := some_of h
          subst h
          have t_ := tR (event_reader_event_runs N s false false _ h1) <| tR (event_Event_right_runs N n t _ h2) <| tF h3 <| tF (not_of2 h4) <| tT h5 <| tT h6 <| tN
          have e_ : Runs Tryd.prog 51 [(.one (.pv (.str s)))] [] [] ([(.agg [(.pv (.int .u64 0)), (.pv .nilp)]), (.one (.pv (.int .i64 4)))], [], []) := runs_of (C := cfg) (objs := []) (sc := t_.ev) (.k0 t_.pf (by kernel_rfl))
          exact e_.out ⟨⟨.eq rfl, .eq rfl, trivial⟩, .eq rfl, trivial⟩ trivial trivial rfl
        · have h := some_of h
          subst h
          have t_ := tR (event_reader_event_runs N s false false _ h1) <| tR (event_Event_right_runs N n t _ h2) <| tF h3 <| tF (not_of2 h4) <| tT h5 <| tF h6 <| tF (not_of2 h5) <| tN
          exact runs_of (C := cfg) (objs := []) (sc := t_.ev) (.k0 t_.pf (by kernel_rfl))
      · have h := some_of h
        subst h
        have t_ := tR (event_reader_event_runs N s false false _ h1) <| tR (event_Event_right_runs N n t _ h2) <| tF h3 <| tF (not_of2 h4) <| tF h5 <| tF (rfl : false = false) <| tT (not_of h5) <| tN
        have e_ : Runs Tryd.prog 51 [(.one (.pv (.str s)))] [] [] ([(.agg [(.pv (.int .u64 0)), (.pv .nilp)]), (.one (.pv (.int .i64 n2)))], [], []) := runs_of (C := cfg) (objs := []) (sc := t_.ev) (.k0 t_.pf (by kernel_rfl))
        exact e_.out ⟨⟨.eq rfl, .eq rfl, trivial⟩, .eq rfl, trivial⟩ trivial trivial rfl
    · have h := some_of h
      subst h
      have t_ := tR (event_reader_event_runs N s false false _ h1) <| tR (event_Event_right_runs N n t _ h2) <| tF h3 <| tT (not_of h4) <| tN
      have e_ : Runs Tryd.prog 51 [(.one (.pv (.str s)))] [] [] ([(.agg [(.pv (.int .u64 0)), (.pv .nilp)]), (.one (.pv (.int .i64 6)))], [], []) := runs_of (C := cfg) (objs := []) (sc := t_.ev) (.k0 t_.pf (by kernel_rfl))
      exact e_.out ⟨⟨.eq rfl, .eq rfl, trivial⟩, .eq rfl, trivial⟩ trivial trivial rfl
/-! ### event_Join_out -/
def event_Join_out (a : Int) (a2 : T_event_halves) (b : Int) (b2 : T_event_halves) : Int × T_event_halves → Res
  | (r1, r2) => ([(.agg [(.pv (.int .u64 r1)), (.pv (T_event_halves.pv r2))])], [], [])
/-! ### event_Event_Left_out -/
def event_Event_Left_out (e : Int) (e2 : T_event_halves) : Int × T_event_halves → Res
  | (r1, r2) => ([(.agg [(.pv (.int .u64 r1)), (.pv (T_event_halves.pv r2))])], [], [])
/-! ### event_Event_Left -/
noncomputable def event_Event_Left (e : Int) (e2 : T_event_halves) : Option (Int × T_event_halves) :=
  match e2 with
  | .nil =>
    some (0, T_event_halves.nil)
  | .mk n t n2 t2 =>
    some (n, t)
theorem event_Event_Left_runs (e : Int) (e2 : T_event_halves) (r_ : Int × T_event_halves) (h : event_Event_Left e e2 = some r_) : Runs Tryd.prog 65 [(.agg [(.pv (.int .u64 e)), (.pv (T_event_halves.pv e2))])] [] [] (event_Event_Left_out e e2 r_) := by
  unfold event_Event_Left at h
  cases e2 with
  | nil =>
    have h := some_of h
    subst h
    have t_ := tT (rfl : true = true) <| tN
    have e_ : Runs Tryd.prog 65 [(.agg [(.pv (.int .u64 e)), (.pv (T_event_halves.pv T_event_halves.nil))])] [] [] ([(.agg [(.pv (.int .u64 0)), (.pv .nilp)])], [], []) := runs_of (C := cfg) (objs := []) (sc := t_.ev) (.k0 t_.pf (by kernel_rfl))
    exact e_.out ⟨⟨.eq rfl, .eq rfl, trivial⟩, trivial⟩ trivial trivial rfl
  | mk n t n2 t2 =>
    have h := some_of h
    subst h
    have t_ := tF (rfl : false = false) <| tN
    exact runs_of (C := cfg) (objs := []) (sc := t_.ev) (.k0 t_.pf (by kernel_rfl))
/-! ### event_Event_up_out -/
def event_Event_up_out (e : Int) (e2 : T_event_halves) (n : Int) : Int → Res
  | r1 => ([(.agg [(.pv (.int .u64 r1)), (.pv (T_event_halves.pv e2))])], [], [])
/-! ### event_Event_up -/
noncomputable def event_Event_up (e : Int) (e2 : T_event_halves) (n : Int) : Option (Int) :=
  some (iadd .u64 e n)
theorem event_Event_up_runs (e : Int) (e2 : T_event_halves) (n : Int) (r_ : Int) (h : event_Event_up e e2 n = some r_) : Runs Tryd.prog 118 [(.agg [(.pv (.int .u64 e)), (.pv (T_event_halves.pv e2))]), (.one (.pv (.int .u64 n)))] [] [] (event_Event_up_out e e2 n r_) := by
  unfold event_Event_up at h
  have h := some_of h
  subst h
  have t_ := tN
  exact runs_of (C := cfg) (objs := []) (sc := t_.ev) (.k0 t_.pf (by kernel_rfl))
/-! ### event_Event_Right_out -/
def event_Event_Right_out (e : Int) (e2 : T_event_halves) : Int × T_event_halves → Res
  | (r1, r2) => ([(.agg [(.pv (.int .u64 r1)), (.pv (T_event_halves.pv r2))])], [], [])
/-! ### event_Event_Right -/
noncomputable def event_Event_Right (e : Int) (e2 : T_event_halves) : Option (Int × T_event_halves) :=
  match e2 with
  | .nil =>
    some (0, T_event_halves.nil)
  | .mk n t n2 t2 =>
    some (n2, t2)
theorem event_Event_Right_runs (e : Int) (e2 : T_event_halves) (r_ : Int × T_event_halves) (h : event_Event_Right e e2 = some r_) : Runs Tryd.prog 66 [(.agg [(.pv (.int .u64 e)), (.pv (T_event_halves.pv e2))])] [] [] (event_Event_Right_out e e2 r_) := by
  unfold event_Event_Right at h
  cases e2 with
  | nil =>
    have h := some_of h
    subst h
    have t_ := tT (rfl : true = true) <| tN
    have e_ : Runs Tryd.prog 66 [(.agg [(.pv (.int .u64 e)), (.pv (T_event_halves.pv T_event_halves.nil))])] [] [] ([(.agg [(.pv (.int .u64 0)), (.pv .nilp)])], [], []) := runs_of (C := cfg) (objs := []) (sc := t_.ev) (.k0 t_.pf (by kernel_rfl))
    exact e_.out ⟨⟨.eq rfl, .eq rfl, trivial⟩, trivial⟩ trivial trivial rfl
  | mk n t n2 t2 =>
    have h := some_of h
    subst h
    have t_ := tF (rfl : false = false) <| tN
    exact runs_of (C := cfg) (objs := []) (sc := t_.ev) (.k0 t_.pf (by kernel_rfl))
/-! ### event_node_out -/
def event_node_out (n : Int) (l : Int) (l2 : T_event_halves) (r : Int) (r2 : T_event_halves) : Int × T_event_halves → Res
  | (r1, r2) => ([(.agg [(.pv (.int .u64 r1)), (.pv (T_event_halves.pv r2))])], [], [])
/-! ### event_node -/
noncomputable def event_node (n : Int) (l : Int) (l2 : T_event_halves) (r : Int) (r2 : T_event_halves) : Option (Int × T_event_halves) :=
  match l2 with
  | .nil =>
    match r2 with
    | .nil =>
      bif (decide ((l : Int) = r)) then
        some ((iadd .u64 n l), T_event_halves.nil)
      else
        some ((iadd .u64 n (if (r : Int) < l then r else l)), (T_event_halves.mk (isub .u64 l (if (r : Int) < l then r else l)) l2 (isub .u64 r (if (r : Int) < l then r else l)) r2))
    | .mk n2 t n3 t2 =>
      some ((iadd .u64 n (if (r : Int) < l then r else l)), (T_event_halves.mk (isub .u64 l (if (r : Int) < l then r else l)) l2 (isub .u64 r (if (r : Int) < l then r else l)) r2))
  | .mk n2 t n3 t2 =>
    some ((iadd .u64 n (if (r : Int) < l then r else l)), (T_event_halves.mk (isub .u64 l (if (r : Int) < l then r else l)) l2 (isub .u64 r (if (r : Int) < l then r else l)) r2))
theorem event_node_runs (n : Int) (l : Int) (l2 : T_event_halves) (r : Int) (r2 : T_event_halves) (r_ : Int × T_event_halves) (h : event_node n l l2 r r2 = some r_) : Runs Tryd.prog 116 [(.one (.pv (.int .u64 n))), (.agg [(.pv (.int .u64 l)), (.pv (T_event_halves.pv l2))]), (.agg [(.pv (.int .u64 r)), (.pv (T_event_halves.pv r2))])] [] [] (event_node_out n l l2 r r2 r_) := by
  unfold event_node at h
  cases l2 with
  | nil =>
    cases r2 with
    | nil =>
      rcases cond_of h with ⟨h1, h⟩ | ⟨h1, h⟩
      · have h := some_of h
        subst h
        have t_ := tT (rfl : true = true) <| tT (rfl : true = true) <| tT h1 <| tN
        have e_ : Runs Tryd.prog 116 [(.one (.pv (.int .u64 n))), (.agg [(.pv (.int .u64 l)), (.pv (T_event_halves.pv T_event_halves.nil))]), (.agg [(.pv (.int .u64 r)), (.pv (T_event_halves.pv T_event_halves.nil))])] [] [] ([(.agg [(.pv (.int .u64 (iadd .u64 n l))), (.pv .nilp)])], [], []) := runs_of (C := cfg) (objs := []) (sc := t_.ev) (.k0 t_.pf (by kernel_rfl))
        exact e_.out ⟨⟨.eq rfl, .eq rfl, trivial⟩, trivial⟩ trivial trivial rfl
      · have h := some_of h
        subst h
        have t_ := tT (rfl : true = true) <| tT (rfl : true = true) <| tF h1 <| tN
        have e_ : Runs Tryd.prog 116 [(.one (.pv (.int .u64 n))), (.agg [(.pv (.int .u64 l)), (.pv (T_event_halves.pv T_event_halves.nil))]), (.agg [(.pv (.int .u64 r)), (.pv (T_event_halves.pv T_event_halves.nil))])] [] [] ([(.agg [(.pv (.int .u64 (iadd .u64 n (if (r : Int) < l then r else l)))), (.pv (.imm [(.int .u64 (isub .u64 l (if (r : Int) < l then r else l))), (T_event_halves.pv T_event_halves.nil), (.int .u64 (isub .u64 r (if (r : Int) < l then r else l))), (T_event_halves.pv T_event_halves.nil)] 0))])], [], []) := runs_of (C := cfg) (objs := []) (sc := t_.ev) (.k0 t_.pf (by kernel_rfl))
        exact e_.out ⟨⟨.eq rfl, .eq rfl, trivial⟩, trivial⟩ trivial trivial rfl
    | mk n2 t n3 t2 =>
      have h := some_of h
      subst h
      have t_ := tT (rfl : true = true) <| tF (rfl : false = false) <| tF (rfl : false = false) <| tN
      have e_ : Runs Tryd.prog 116 [(.one (.pv (.int .u64 n))), (.agg [(.pv (.int .u64 l)), (.pv (T_event_halves.pv T_event_halves.nil))]), (.agg [(.pv (.int .u64 r)), (.pv (T_event_halves.pv (T_event_halves.mk n2 t n3 t2)))])] [] [] ([(.agg [(.pv (.int .u64 (iadd .u64 n (if (r : Int) < l then r else l)))), (.pv (.imm [(.int .u64 (isub .u64 l (if (r : Int) < l then r else l))), (T_event_halves.pv T_event_halves.nil), (.int .u64 (isub .u64 r (if (r : Int) < l then r else l))), (T_event_halves.pv (T_event_halves.mk n2 t n3 t2))] 0))])], [], []) := runs_of (C := cfg) (objs := []) (sc := t_.ev) (.k0 t_.pf (by kernel_rfl))
      exact e_.out ⟨⟨.eq rfl, .eq rfl, trivial⟩, trivial⟩ trivial trivial rfl
  | mk n2 t n3 t2 =>
    have h := some_of h
    subst h
    have t_ := tF (rfl : false = false) <| tF (rfl : false = false) <| tF (rfl : false = false) <| tN
    have e_ : Runs Tryd.prog 116 [(.one (.pv (.int .u64 n))), (.agg [(.pv (.int .u64 l)), (.pv (T_event_halves.pv (T_event_halves.mk n2 t n3 t2)))]), (.agg [(.pv (.int .u64 r)), (.pv (T_event_halves.pv r2))])] [] [] ([(.agg [(.pv (.int .u64 (iadd .u64 n (if (r : Int) < l then r else l)))), (.pv (.imm [(.int .u64 (isub .u64 l (if (r : Int) < l then r else l))), (T_event_halves.pv (T_event_halves.mk n2 t n3 t2)), (.int .u64 (isub .u64 r (if (r : Int) < l then r else l))), (T_event_halves.pv r2)] 0))])], [], []) := runs_of (C := cfg) (objs := []) (sc := t_.ev) (.k0 t_.pf (by kernel_rfl))
    exact e_.out ⟨⟨.eq rfl, .eq rfl, trivial⟩, trivial⟩ trivial trivial rfl
/-! ### event_Join -/
noncomputable def event_Join_b (rec_event_Join : Int → T_event_halves → Int → T_event_halves → Option (Int × T_event_halves)) (a : Int) (a2 : T_event_halves) (b : Int) (b2 : T_event_halves) : Option (Int × T_event_halves) :=
  match a2 with
  | .nil =>
    match b2 with
    | .nil =>
      some ((if (a : Int) < b then b else a), T_event_halves.nil)
    | .mk n t n2 t2 =>
      (event_Event_Left a a2).bind fun (n3, t3) =>
      (event_Event_up n3 t3 a).bind fun n4 =>
      (event_Event_Left b b2).bind fun (n5, t4) =>
      (event_Event_up n5 t4 b).bind fun n6 =>
      (rec_event_Join n4 t3 n6 t4).bind fun (n7, t5) =>
      (event_Event_Right a a2).bind fun (n8, t6) =>
      (event_Event_up n8 t6 a).bind fun n9 =>
      (event_Event_Right b b2).bind fun (n10, t7) =>
      (event_Event_up n10 t7 b).bind fun n11 =>
      (rec_event_Join n9 t6 n11 t7).bind fun (n12, t8) =>
      (event_node 0 n7 t5 n12 t8).bind fun (n13, t9) =>
      some (n13, t9)
  | .mk n t n2 t2 =>
    (event_Event_Left a a2).bind fun (n3, t3) =>
    (event_Event_up n3 t3 a).bind fun n4 =>
    (event_Event_Left b b2).bind fun (n5, t4) =>
    (event_Event_up n5 t4 b).bind fun n6 =>
    (rec_event_Join n4 t3 n6 t4).bind fun (n7, t5) =>
    (event_Event_Right a a2).bind fun (n8, t6) =>
    (event_Event_up n8 t6 a).bind fun n9 =>
    (event_Event_Right b b2).bind fun (n10, t7) =>
    (event_Event_up n10 t7 b).bind fun n11 =>
    (rec_event_Join n9 t6 n11 t7).bind fun (n12, t8) =>
    (event_node 0 n7 t5 n12 t8).bind fun (n13, t9) =>
    some (n13, t9)
theorem event_Join_b_runs (rec_event_Join : Int → T_event_halves → Int → T_event_halves → Option (Int × T_event_halves)) (hrec_event_Join : ∀ a a2 b b2 r_, rec_event_Join a a2 b b2 = some r_ → Runs Tryd.prog 60 [(.agg [(.pv (.int .u64 a)), (.pv (T_event_halves.pv a2))]), (.agg [(.pv (.int .u64 b)), (.pv (T_event_halves.pv b2))])] [] [] (event_Join_out a a2 b b2 r_)) (a : Int) (a2 : T_event_halves) (b : Int) (b2 : T_event_halves) (r_ : Int × T_event_halves) (h : event_Join_b rec_event_Join a a2 b b2 = some r_) : Runs Tryd.prog 60 [(.agg [(.pv (.int .u64 a)), (.pv (T_event_halves.pv a2))]), (.agg [(.pv (.int .u64 b)), (.pv (T_event_halves.pv b2))])] [] [] (event_Join_out a a2 b b2 r_) := by
  unfold event_Join_b at h
  cases a2 with
  | nil =>
    cases b2 with
    | nil =>
      have h := some_of h
      subst h
      have t_ := tT (rfl : true = true) <| tT (rfl : true = true) <| tN
      have e_ : Runs Tryd.prog 60 [(.agg [(.pv (.int .u64 a)), (.pv (T_event_halves.pv T_event_halves.nil))]), (.agg [(.pv (.int .u64 b)), (.pv (T_event_halves.pv T_event_halves.nil))])] [] [] ([(.agg [(.pv (.int .u64 (if (a : Int) < b then b else a))), (.pv .nilp)])], [], []) := runs_of (C := cfg) (objs := []) (sc := t_.ev) (.k0 t_.pf (by kernel_rfl))
      exact e_.out ⟨⟨.eq rfl, .eq rfl, trivial⟩, trivial⟩ trivial trivial rfl
    | mk n t n2 t2 =>
      obtain ⟨⟨n3, t3⟩, h1, h⟩ := bind_of h
      obtain ⟨n4, h2, h⟩ := bind_of h
      obtain ⟨⟨n5, t4⟩, h3, h⟩ := bind_of h
      obtain ⟨n6, h4, h⟩ := bind_of h
      obtain ⟨⟨n7, t5⟩, h5, h⟩ := bind_of h
      obtain ⟨⟨n8, t6⟩, h6, h⟩ := bind_of h
      obtain ⟨n9, h7, h⟩ := bind_of h
      obtain ⟨⟨n10, t7⟩, h8, h⟩ := bind_of h
      obtain ⟨n11, h9, h⟩ := bind_of h
      obtain ⟨⟨n12, t8⟩, h10, h⟩ := bind_of h
      obtain ⟨⟨n13, t9⟩, h11, h⟩ := bind_of h
      have h := some_of h
      subst h
      have t_ := tT (rfl : true = true) <| tF (rfl : false = false) <| tR (event_Event_Left_runs a T_event_halves.nil _ h1) <| tR (event_Event_Left_runs a T_event_halves.nil _ h1) <| tR (event_Event_Left_runs a T_event_halves.nil _ h1) <| tR (event_Event_Left_runs a T_event_halves.nil _ h1) <| tR (event_Event_Left_runs a T_event_halves.nil _ h1) <| tR (event_Event_Left_runs a T_event_halves.nil _ h1) <| tR (event_Event_Left_runs a T_event_halves.nil _ h1) <| tR (event_Event_Left_runs a T_event_halves.nil _ h1) <| tR (event_Event_Left_runs a T_event_halves.nil _ h1) <| tR (event_Event_Left_runs a T_event_halves.nil _ h1) <| tR (event_Event_Left_runs a T_event_halves.nil _ h1) <| tR (event_Event_Left_runs a T_event_halves.nil _ h1) <| tR (event_Event_Left_runs a T_event_halves.nil _ h1) <| tR (event_Event_Left_runs a T_event_halves.nil _ h1) <| tR (event_Event_Left_runs a T_event_halves.nil _ h1) <| tR (event_Event_Left_runs a T_event_halves.nil _ h1) <| tR (event_Event_Left_runs a T_event_halves.nil _ h1) <| tR (event_Event_Left_runs a T_event_halves.nil _ h1) <| tR (event_Event_Left_runs a T_event_halves.nil _ h1) <| tR (event_Event_Left_runs a T_event_halves.nil _ h1) <| tR (event_Event_Left_runs a T_event_halves.nil _ h1) <| tR (event_Event_Left_runs a T_event_halves.nil _ h1) <| tR (event_Event_Left_runs a T_event_halves.nil _ h1) <| tR (event_Event_Left_runs a T_event_halves.nil _ h1) <| tR (event_Event_Left_runs a T_event_halves.nil _ h1) <| tR (event_Event_Left_runs a T_event_halves.nil _ h1) <| tR (event_Event_Left_runs a T_event_halves.nil _ h1) <| tR (event_Event_Left_runs a T_event_halves.nil _ h1) <| tR (event_Event_Left_runs a T_event_halves.nil _ h1) <| tR (event_Event_up_runs n3 t3 a _ h2) <| tR (event_Event_up_runs n3 t3 a _ h2) <| tR (event_Event_up_runs n3 t3 a _ h2) <| tR (event_Event_up_runs n3 t3 a _ h2) <| tR (event_Event_up_runs n3 t3 a _ h2) <| tR (event_Event_up_runs n3 t3 a _ h2) <| tR (event_Event_up_runs n3 t3 a _ h2) <| tR (event_Event_Left_runs a T_event_halves.nil _ h1) <| tR (event_Event_Left_runs a T_event_halves.nil _ h1) <| tR (event_Event_Left_runs a T_event_halves.nil _ h1) <| tR (event_Event_Left_runs a T_event_halves.nil _ h1) <| tR (event_Event_Left_runs a T_event_halves.nil _ h1) <| tR (event_Event_Left_runs a T_event_halves.nil _ h1) <| tR (event_Event_Left_runs a T_event_halves.nil _ h1) <| tR (event_Event_Left_runs a T_event_halves.nil _ h1) <| tR (event_Event_Left_runs a T_event_halves.nil _ h1) <| tR (event_Event_Left_runs a T_event_halves.nil _ h1) <| tR (event_Event_Left_runs a T_event_halves.nil _ h1) <| tR (event_Event_Left_runs a T_event_halves.nil _ h1) <| tR (event_Event_Left_runs a T_event_halves.nil _ h1) <| tR (event_Event_Left_runs a T_event_halves.nil _ h1) <| tR (event_Event_Left_runs a T_event_halves.nil _ h1) <| tR (event_Event_Left_runs a T_event_halves.nil _ h1) <| tR (event_Event_Left_runs a T_event_halves.nil _ h1) <| tR (event_Event_Left_runs a T_event_halves.nil _ h1) <| tR (event_Event_Left_runs a T_event_halves.nil _ h1) <| tR (event_Event_Left_runs a T_event_halves.nil _ h1) <| tR (event_Event_Left_runs a T_event_halves.nil _ h1) <| tR (event_Event_Left_runs a T_event_halves.nil _ h1) <| tR (event_Event_Left_runs a T_event_halves.nil _ h1) <| tR (event_Event_Left_runs a T_event_halves.nil _ h1) <| tR (event_Event_Left_runs a T_event_halves.nil _ h1) <| tR (event_Event_Left_runs a T_event_halves.nil _ h1) <| tR (event_Event_Left_runs a T_event_halves.nil _ h1) <| tR (event_Event_Left_runs a T_event_halves.nil _ h1) <| tR (event_Event_Left_runs a T_event_halves.nil _ h1) <| tR (event_Event_Left_runs a T_event_halves.nil _ h1) <| tR (event_Event_Left_runs a T_event_halves.nil _ h1) <| tR (event_Event_Left_runs a T_event_halves.nil _ h1) <| tR (event_Event_Left_runs a T_event_halves.nil _ h1) <| tR (event_Event_Left_runs a T_event_halves.nil _ h1) <| tR (event_Event_Left_runs a T_event_halves.nil _ h1) <| tR (event_Event_Left_runs a T_event_halves.nil _ h1) <| tR (event_Event_Left_runs a T_event_halves.nil _ h1) <| tR (event_Event_Left_runs a T_event_halves.nil _ h1) <| tR (event_Event_Left_runs a T_event_halves.nil _ h1) <| tR (event_Event_Left_runs a T_event_halves.nil _ h1) <| tR (event_Event_Left_runs a T_event_halves.nil _ h1) <| tR (event_Event_Left_runs a T_event_halves.nil _ h1) <| tR (event_Event_Left_runs a T_event_halves.nil _ h1) <| tR (event_Event_Left_runs a T_event_halves.nil _ h1) <| tR (event_Event_Left_runs a T_event_halves.nil _ h1) <| tR (event_Event_Left_runs a T_event_halves.nil _ h1) <| tR (event_Event_Left_runs a T_event_halves.nil _ h1) <| tR (event_Event_Left_runs a T_event_halves.nil _ h1) <| tR (event_Event_Left_runs a T_event_halves.nil _ h1) <| tR (event_Event_Left_runs a T_event_halves.nil _ h1) <| tR (event_Event_Left_runs a T_event_halves.nil _ h1) <| tR (event_Event_Left_runs a T_event_halves.nil _ h1) <| tR (event_Event_Left_runs a T_event_halves.nil _ h1) <| tR (event_Event_Left_runs a T_event_halves.nil _ h1) <| tR (event_Event_Left_runs a T_event_halves.nil _ h1) <| tR (event_Event_Left_runs a T_event_halves.nil _ h1) <| tR (event_Event_Left_runs a T_event_halves.nil _ h1) <| tR (event_Event_Left_runs a T_event_halves.nil _ h1) <| tR (event_Event_Left_runs a T_event_halves.nil _ h1) <| tR (event_Event_Left_runs a T_event_halves.nil _ h1) <| tR (event_Event_Left_runs a T_event_halves.nil _ h1) <| tR (event_Event_Left_runs a T_event_halves.nil _ h1) <| tR (event_Event_Left_runs a T_event_halves.nil _ h1) <| tR (event_Event_Left_runs a T_event_halves.nil _ h1) <| tR (event_Event_Left_runs a T_event_halves.nil _ h1) <| tR (event_Event_Left_runs a T_event_halves.nil _ h1) <| tR (event_Event_Left_runs a T_event_halves.nil _ h1) <| tR (event_Event_Left_runs a T_event_halves.nil _ h1) <| tR (event_Event_Left_runs a T_event_halves.nil _ h1) <| tR (event_Event_Left_runs a T_event_halves.nil _ h1) <| tR (event_Event_up_runs n3 t3 a _ h2) <| tR (event_Event_up_runs n3 t3 a _ h2) <| tR (event_Event_up_runs n3 t3 a _ h2) <| tR (event_Event_up_runs n3 t3 a _ h2) <| tR (event_Event_up_runs n3 t3 a _ h2) <| tR (event_Event_up_runs n3 t3 a _ h2) <| tR (event_Event_up_runs n3 t3 a _ h2) <| tR (event_Event_up_runs n3 t3 a _ h2) <| tR (event_Event_up_runs n3 t3 a _ h2) <| tR (event_Event_up_runs n3 t3 a _ h2) <| tR (event_Event_up_runs n3 t3 a _ h2) <| tR (event_Event_up_runs n3 t3 a _ h2) <| tR (event_Event_up_runs n3 t3 a _ h2) <| tR (event_Event_up_runs n3 t3 a _ h2) <| tR (event_Event_up_runs n3 t3 a _ h2) <| tR (event_Event_Left_runs b (T_event_halves.mk n t n2 t2) _ h3) <| tR (event_Event_Left_runs b (T_event_halves.mk n t n2 t2) _ h3) <| tR (event_Event_Left_runs b (T_event_halves.mk n t n2 t2) _ h3) <| tR (event_Event_Left_runs b (T_event_halves.mk n t n2 t2) _ h3) <| tR (event_Event_Left_runs b (T_event_halves.mk n t n2 t2) _ h3) <| tR (event_Event_Left_runs b (T_event_halves.mk n t n2 t2) _ h3) <| tR (event_Event_up_runs n3 t3 a _ h2) <| tR (event_Event_up_runs n3 t3 a _ h2) <| tR (event_Event_up_runs n3 t3 a _ h2) <| tR (event_Event_up_runs n3 t3 a _ h2) <| tR (event_Event_up_runs n3 t3 a _ h2) <| tR (event_Event_up_runs n3 t3 a _ h2) <| tR (event_Event_up_runs n3 t3 a _ h2) <| tR (event_Event_up_runs n3 t3 a _ h2) <| tR (event_Event_up_runs n3 t3 a _ h2) <| tR (event_Event_up_runs n3 t3 a _ h2) <| tR (event_Event_Left_runs a T_event_halves.nil _ h1) <| tR (event_Event_Left_runs a T_event_halves.nil _ h1) <| tR (event_Event_Left_runs a T_event_halves.nil _ h1) <| tR (event_Event_up_runs n3 t3 a _ h2) <| tR (event_Event_up_runs n3 t3 a _ h2) <| tR (event_Event_up_runs n3 t3 a _ h2) <| tR (event_Event_Left_runs a T_event_halves.nil _ h1) <| tR (event_Event_Left_runs a T_event_halves.nil _ h1) <| tR (event_Event_up_runs n3 t3 a _ h2) <| tR (event_Event_up_runs n3 t3 a _ h2) <| tR (event_Event_Left_runs a T_event_halves.nil _ h1) <| tR (event_Event_up_runs n3 t3 a _ h2) <| tR (event_Event_Left_runs a T_event_halves.nil _ h1) <| tR (event_Event_Left_runs a T_event_halves.nil _ h1) <| tR (event_Event_Left_runs a T_event_halves.nil _ h1) <| tR (event_Event_Left_runs a T_event_halves.nil _ h1) <| tR (event_Event_Left_runs a T_event_halves.nil _ h1) <| tR (event_Event_Left_runs a T_event_halves.nil _ h1) <| tR (event_Event_up_runs n3 t3 a _ h2) <| tR (event_Event_up_runs n3 t3 a _ h2) <| tR (event_Event_Left_runs a T_event_halves.nil _ h1) <| tR (event_Event_Left_runs a T_event_halves.nil _ h1) <| tR (event_Event_Left_runs a T_event_halves.nil _ h1) <| tR (event_Event_up_runs n3 t3 a _ h2) <| tR (event_Event_Left_runs a T_event_halves.nil _ h1) <| tR (event_Event_Left_runs a T_event_halves.nil _ h1) <| tR (event_Event_Left_runs a T_event_halves.nil _ h1) <| tR (event_Event_Left_runs a T_event_halves.nil _ h1) <| tR (event_Event_Left_runs a T_event_halves.nil _ h1) <| tR (event_Event_Left_runs a T_event_halves.nil _ h1) <| tR (event_Event_up_runs n3 t3 a _ h2) <| tR (event_Event_up_runs n3 t3 a _ h2) <| tR (event_Event_Left_runs a T_event_halves.nil _ h1) <| tR (event_Event_Left_runs a T_event_halves.nil _ h1) <| tR (event_Event_Left_runs a T_event_halves.nil _ h1) <| tR (event_Event_up_runs n3 t3 a _ h2) <| tR (event_Event_Left_runs a T_event_halves.nil _ h1) <| tR (event_Event_up_runs n3 t3 a _ h2) <| tR (event_Event_up_runs n3 t3 a _ h2) <| tR (event_Event_up_runs n3 t3 a _ h2) <| tR (event_Event_Left_runs a T_event_halves.nil _ h1) <| tR (event_Event_Left_runs a T_event_halves.nil _ h1) <| tR (event_Event_Left_runs a T_event_halves.nil _ h1) <| tR (event_Event_up_runs n3 t3 a _ h2) <| tR (event_Event_up_runs n3 t3 a _ h2) <| tR (event_Event_up_runs n3 t3 a _ h2) <| tR (event_Event_up_runs n3 t3 a _ h2) <| tR (event_Event_up_runs n3 t3 a _ h2) <| tR (event_Event_up_runs n3 t3 a _ h2) <| tR (event_Event_up_runs n3 t3 a _ h2) <| tR (event_Event_up_runs n3 t3 a _ h2) <| tR (event_Event_up_runs n3 t3 a _ h2) <| tR (event_Event_up_runs n3 t3 a _ h2) <| tR (event_Event_Left_runs b (T_event_halves.mk n t n2 t2) _ h3) <| tR (event_Event_Left_runs b (T_event_halves.mk n t n2 t2) _ h3) <| tR (event_Event_Left_runs b (T_event_halves.mk n t n2 t2) _ h3) <| tR (event_Event_Left_runs b (T_event_halves.mk n t n2 t2) _ h3) <| tR (event_Event_Left_runs b (T_event_halves.mk n t n2 t2) _ h3) <| tR (event_Event_Left_runs b (T_event_halves.mk n t n2 t2) _ h3) <| tR (event_Event_Left_runs b (T_event_halves.mk n t n2 t2) _ h3) <| tR (event_Event_Left_runs b (T_event_halves.mk n t n2 t2) _ h3) <| tR (event_Event_Left_runs b (T_event_halves.mk n t n2 t2) _ h3) <| tR (event_Event_Left_runs b (T_event_halves.mk n t n2 t2) _ h3) <| tR (event_Event_up_runs n5 t4 b _ h4) <| tR (hrec_event_Join n4 t3 n6 t4 _ h5) <| tR (event_Event_up_runs n5 t4 b _ h4) <| tR (event_Event_up_runs n5 t4 b _ h4) <| tR (event_Event_up_runs n5 t4 b _ h4) <| tR (event_Event_up_runs n5 t4 b _ h4) <| tR (event_Event_Left_runs b (T_event_halves.mk n t n2 t2) _ h3) <| tR (event_Event_Left_runs b (T_event_halves.mk n t n2 t2) _ h3) <| tR (event_Event_Left_runs b (T_event_halves.mk n t n2 t2) _ h3) <| tR (event_Event_Left_runs b (T_event_halves.mk n t n2 t2) _ h3) <| tR (event_Event_Left_runs b (T_event_halves.mk n t n2 t2) _ h3) <| tR (event_Event_Left_runs b (T_event_halves.mk n t n2 t2) _ h3) <| tR (event_Event_Left_runs b (T_event_halves.mk n t n2 t2) _ h3) <| tR (event_Event_Left_runs b (T_event_halves.mk n t n2 t2) _ h3) <| tR (event_Event_Left_runs b (T_event_halves.mk n t n2 t2) _ h3) <| tR (event_Event_Left_runs b (T_event_halves.mk n t n2 t2) _ h3) <| tR (event_Event_up_runs n3 t3 a _ h2) <| tR (event_Event_up_runs n3 t3 a _ h2) <| tR (event_Event_up_runs n3 t3 a _ h2) <| tR (event_Event_up_runs n3 t3 a _ h2) <| tR (event_Event_Left_runs a T_event_halves.nil _ h1) <| tR (event_Event_up_runs n3 t3 a _ h2) <| tR (event_Event_up_runs n3 t3 a _ h2) <| tR (event_Event_up_runs n3 t3 a _ h2) <| tR (event_Event_Left_runs b (T_event_halves.mk n t n2 t2) _ h3) <| tR (event_Event_Left_runs b (T_event_halves.mk n t n2 t2) _ h3) <| tR (event_Event_Left_runs b (T_event_halves.mk n t n2 t2) _ h3) <| tR (event_Event_Left_runs b (T_event_halves.mk n t n2 t2) _ h3) <| tR (event_Event_Left_runs b (T_event_halves.mk n t n2 t2) _ h3) <| tR (event_Event_up_runs n5 t4 b _ h4) <| tR (event_Event_up_runs n5 t4 b _ h4) <| tR (event_Event_up_runs n5 t4 b _ h4) <| tR (event_Event_up_runs n5 t4 b _ h4) <| tR (event_Event_up_runs n5 t4 b _ h4) <| tR (event_Event_up_runs n5 t4 b _ h4) <| tR (hrec_event_Join n4 t3 n6 t4 _ h5) <| tR (hrec_event_Join n4 t3 n6 t4 _ h5) <| tR (hrec_event_Join n4 t3 n6 t4 _ h5) <| tR (hrec_event_Join n4 t3 n6 t4 _ h5) <| tR (event_Event_Right_runs a T_event_halves.nil _ h6) <| tR (hrec_event_Join n4 t3 n6 t4 _ h5) <| tR (hrec_event_Join n4 t3 n6 t4 _ h5) <| tR (hrec_event_Join n4 t3 n6 t4 _ h5) <| tR (hrec_event_Join n4 t3 n6 t4 _ h5) <| tR (hrec_event_Join n4 t3 n6 t4 _ h5) <| tR (hrec_event_Join n4 t3 n6 t4 _ h5) <| tR (event_Event_up_runs n5 t4 b _ h4) <| tR (event_Event_up_runs n5 t4 b _ h4) <| tR (event_Event_up_runs n5 t4 b _ h4) <| tR (event_Event_up_runs n5 t4 b _ h4) <| tR (event_Event_Left_runs b (T_event_halves.mk n t n2 t2) _ h3) <| tR (event_Event_up_runs n5 t4 b _ h4) <| tR (hrec_event_Join n4 t3 n6 t4 _ h5) <| tR (hrec_event_Join n4 t3 n6 t4 _ h5) <| tR (hrec_event_Join n4 t3 n6 t4 _ h5) <| tR (hrec_event_Join n4 t3 n6 t4 _ h5) <| tR (event_Event_Right_runs a T_event_halves.nil _ h6) <| tR (event_Event_Right_runs a T_event_halves.nil _ h6) <| tR (event_Event_Right_runs a T_event_halves.nil _ h6) <| tR (event_Event_up_runs n8 t6 a _ h7) <| tR (event_Event_Right_runs a T_event_halves.nil _ h6) <| tR (event_Event_Right_runs a T_event_halves.nil _ h6) <| tR (event_Event_Right_runs a T_event_halves.nil _ h6) <| tR (hrec_event_Join n4 t3 n6 t4 _ h5) <| tR (event_Event_Right_runs a T_event_halves.nil _ h6) <| tR (event_Event_up_runs n8 t6 a _ h7) <| tR (event_Event_up_runs n8 t6 a _ h7) <| tR (event_Event_Right_runs b (T_event_halves.mk n t n2 t2) _ h8) <| tR (event_Event_up_runs n8 t6 a _ h7) <| tR (event_Event_Right_runs b (T_event_halves.mk n t n2 t2) _ h8) <| tR (event_Event_up_runs n10 t7 b _ h9) <| tR (hrec_event_Join n9 t6 n11 t7 _ h10) <| tR (event_node_runs 0 n7 t5 n12 t8 _ h11) <| tN
      exact runs_of (C := cfg) (objs := []) (sc := t_.ev) (.k1 t_.pf (by kernel_rfl) (by kernel_rfl))
  | mk n t n2 t2 =>
    obtain ⟨⟨n3, t3⟩, h1, h⟩ := bind_of h
    obtain ⟨n4, h2, h⟩ := bind_of h
    obtain ⟨⟨n5, t4⟩, h3, h⟩ := bind_of h
    obtain ⟨n6, h4, h⟩ := bind_of h
    obtain ⟨⟨n7, t5⟩, h5, h⟩ := bind_of h
    obtain ⟨⟨n8, t6⟩, h6, h⟩ := bind_of h
    obtain ⟨n9, h7, h⟩ := bind_of h
    obtain ⟨⟨n10, t7⟩, h8, h⟩ := bind_of h
    obtain ⟨n11, h9, h⟩ := bind_of h
    obtain ⟨⟨n12, t8⟩, h10, h⟩ := bind_of h
    obtain ⟨⟨n13, t9⟩, h11, h⟩ := bind_of h
    have h := some_of h
    subst h
    have t_ := tF (rfl : false = false) <| tF (rfl : false = false) <| tR (event_Event_Left_runs a (T_event_halves.mk n t n2 t2) _ h1) <| tR (event_Event_Left_runs a (T_event_halves.mk n t n2 t2) _ h1) <| tR (event_Event_Left_runs a (T_event_halves.mk n t n2 t2) _ h1) <| tR (event_Event_Left_runs a (T_event_halves.mk n t n2 t2) _ h1) <| tR (event_Event_Left_runs a (T_event_halves.mk n t n2 t2) _ h1) <| tR (event_Event_Left_runs a (T_event_halves.mk n t n2 t2) _ h1) <| tR (event_Event_Left_runs a (T_event_halves.mk n t n2 t2) _ h1) <| tR (event_Event_Left_runs a (T_event_halves.mk n t n2 t2) _ h1) <| tR (event_Event_Left_runs a (T_event_halves.mk n t n2 t2) _ h1) <| tR (event_Event_Left_runs a (T_event_halves.mk n t n2 t2) _ h1) <| tR (event_Event_Left_runs a (T_event_halves.mk n t n2 t2) _ h1) <| tR (event_Event_Left_runs a (T_event_halves.mk n t n2 t2) _ h1) <| tR (event_Event_Left_runs a (T_event_halves.mk n t n2 t2) _ h1) <| tR (event_Event_Left_runs a (T_event_halves.mk n t n2 t2) _ h1) <| tR (event_Event_Left_runs a (T_event_halves.mk n t n2 t2) _ h1) <| tR (event_Event_Left_runs a (T_event_halves.mk n t n2 t2) _ h1) <| tR (event_Event_Left_runs a (T_event_halves.mk n t n2 t2) _ h1) <| tR (event_Event_Left_runs a (T_event_halves.mk n t n2 t2) _ h1) <| tR (event_Event_Left_runs a (T_event_halves.mk n t n2 t2) _ h1) <| tR (event_Event_Left_runs a (T_event_halves.mk n t n2 t2) _ h1) <| tR (event_Event_Left_runs a (T_event_halves.mk n t n2 t2) _ h1) <| tR (event_Event_Left_runs a (T_event_halves.mk n t n2 t2) _ h1) <| tR (event_Event_Left_runs a (T_event_halves.mk n t n2 t2) _ h1) <| tR (event_Event_Left_runs a (T_event_halves.mk n t n2 t2) _ h1) <| tR (event_Event_Left_runs a (T_event_halves.mk n t n2 t2) _ h1) <| tR (event_Event_Left_runs a (T_event_halves.mk n t n2 t2) _ h1) <| tR (event_Event_Left_runs a (T_event_halves.mk n t n2 t2) _ h1) <| tR (event_Event_Left_runs a (T_event_halves.mk n t n2 t2) _ h1) <| tR (event_Event_Left_runs a (T_event_halves.mk n t n2 t2) _ h1) <| tR (event_Event_up_runs n3 t3 a _ h2) <| tR (event_Event_up_runs n3 t3 a _ h2) <| tR (event_Event_up_runs n3 t3 a _ h2) <| tR (event_Event_up_runs n3 t3 a _ h2) <| tR (event_Event_up_runs n3 t3 a _ h2) <| tR (event_Event_up_runs n3 t3 a _ h2) <| tR (event_Event_up_runs n3 t3 a _ h2) <| tR (event_Event_Left_runs a (T_event_halves.mk n t n2 t2) _ h1) <| tR (event_Event_Left_runs a (T_event_halves.mk n t n2 t2) _ h1) <| tR (event_Event_Left_runs a (T_event_halves.mk n t n2 t2) _ h1) <| tR (event_Event_Left_runs a (T_event_halves.mk n t n2 t2) _ h1) <| tR (event_Event_Left_runs a (T_event_halves.mk n t n2 t2) _ h1) <| tR (event_Event_Left_runs a (T_event_halves.mk n t n2 t2) _ h1) <| tR (event_Event_Left_runs a (T_event_halves.mk n t n2 t2) _ h1) <| tR (event_Event_Left_runs a (T_event_halves.mk n t n2 t2) _ h1) <| tR (event_Event_Left_runs a (T_event_halves.mk n t n2 t2) _ h1) <| tR (event_Event_Left_runs a (T_event_halves.mk n t n2 t2) _ h1) <| tR (event_Event_Left_runs a (T_event_halves.mk n t n2 t2) _ h1) <| tR (event_Event_Left_runs a (T_event_halves.mk n t n2 t2) _ h1) <| tR (event_Event_Left_runs a (T_event_halves.mk n t n2 t2) _ h1) <| tR (event_Event_Left_runs a (T_event_halves.mk n t n2 t2) _ h1) <| tR (event_Event_Left_runs a (T_event_halves.mk n t n2 t2) _ h1) <| tR (event_Event_Left_runs a (T_event_halves.mk n t n2 t2) _ h1) <| tR (event_Event_Left_runs a (T_event_halves.mk n t n2 t2) _ h1) <| tR (event_Event_Left_runs a (T_event_halves.mk n t n2 t2) _ h1) <| tR (event_Event_Left_runs a (T_event_halves.mk n t n2 t2) _ h1) <| tR (event_Event_Left_runs a (T_event_halves.mk n t n2 t2) _ h1) <| tR (event_Event_Left_runs a (T_event_halves.mk n t n2 t2) _ h1) <| tR (event_Event_Left_runs a (T_event_halves.mk n t n2 t2) _ h1) <| tR (event_Event_Left_runs a (T_event_halves.mk n t n2 t2) _ h1) <| tR (event_Event_Left_runs a (T_event_halves.mk n t n2 t2) _ h1) <| tR (event_Event_Left_runs a (T_event_halves.mk n t n2 t2) _ h1) <| tR (event_Event_Left_runs a (T_event_halves.mk n t n2 t2) _ h1) <| tR (event_Event_Left_runs a (T_event_halves.mk n t n2 t2) _ h1) <| tR (event_Event_Left_runs a (T_event_halves.mk n t n2 t2) _ h1) <| tR (event_Event_Left_runs a (T_event_halves.mk n t n2 t2) _ h1) <| tR (event_Event_Left_runs a (T_event_halves.mk n t n2 t2) _ h1) <| tR (event_Event_Left_runs a (T_event_halves.mk n t n2 t2) _ h1) <| tR (event_Event_Left_runs a (T_event_halves.mk n t n2 t2) _ h1) <| tR (event_Event_Left_runs a (T_event_halves.mk n t n2 t2) _ h1) <| tR (event_Event_Left_runs a (T_event_halves.mk n t n2 t2) _ h1) <| tR (event_Event_Left_runs a (T_event_halves.mk n t n2 t2) _ h1) <| tR (event_Event_Left_runs a (T_event_halves.mk n t n2 t2) _ h1) <| tR (event_Event_Left_runs a (T_event_halves.mk n t n2 t2) _ h1) <| tR (event_Event_Left_runs a (T_event_halves.mk n t n2 t2) _ h1) <| tR (event_Event_Left_runs a (T_event_halves.mk n t n2 t2) _ h1) <| tR (event_Event_Left_runs a (T_event_halves.mk n t n2 t2) _ h1) <| tR (event_Event_Left_runs a (T_event_halves.mk n t n2 t2) _ h1) <| tR (event_Event_Left_runs a (T_event_halves.mk n t n2 t2) _ h1) <| tR (event_Event_Left_runs a (T_event_halves.mk n t n2 t2) _ h1) <| tR (event_Event_Left_runs a (T_event_halves.mk n t n2 t2) _ h1) <| tR (event_Event_Left_runs a (T_event_halves.mk n t n2 t2) _ h1) <| tR (event_Event_Left_runs a (T_event_halves.mk n t n2 t2) _ h1) <| tR (event_Event_Left_runs a (T_event_halves.mk n t n2 t2) _ h1) <| tR (event_Event_Left_runs a (T_event_halves.mk n t n2 t2) _ h1) <| tR (event_Event_Left_runs a (T_event_halves.mk n t n2 t2) _ h1) <| tR (event_Event_Left_runs a (T_event_halves.mk n t n2 t2) _ h1) <| tR (event_Event_Left_runs a (T_event_halves.mk n t n2 t2) _ h1) <| tR (event_Event_Left_runs a (T_event_halves.mk n t n2 t2) _ h1) <| tR (event_Event_Left_runs a (T_event_halves.mk n t n2 t2) _ h1) <| tR (event_Event_Left_runs a (T_event_halves.mk n t n2 t2) _ h1) <| tR (event_Event_Left_runs a (T_event_halves.mk n t n2 t2) _ h1) <| tR (event_Event_Left_runs a (T_event_halves.mk n t n2 t2) _ h1) <| tR (event_Event_Left_runs a (T_event_halves.mk n t n2 t2) _ h1) <| tR (event_Event_Left_runs a (T_event_halves.mk n t n2 t2) _ h1) <| tR (event_Event_Left_runs a (T_event_halves.mk n t n2 t2) _ h1) <| tR (event_Event_Left_runs a (T_event_halves.mk n t n2 t2) _ h1) <| tR (event_Event_Left_runs a (T_event_halves.mk n t n2 t2) _ h1) <| tR (event_Event_Left_runs a (T_event_halves.mk n t n2 t2) _ h1) <| tR (event_Event_Left_runs a (T_event_halves.mk n t n2 t2) _ h1) <| tR (event_Event_Left_runs a (T_event_halves.mk n t n2 t2) _ h1) <| tR (event_Event_Left_runs a (T_event_halves.mk n t n2 t2) _ h1) <| tR (event_Event_Left_runs a (T_event_halves.mk n t n2 t2) _ h1) <| tR (event_Event_Left_runs a (T_event_halves.mk n t n2 t2) _ h1) <| tR (event_Event_Left_runs a (T_event_halves.mk n t n2 t2) _ h1) <| tR (event_Event_Left_runs a (T_event_halves.mk n t n2 t2) _ h1) <| tR (event_Event_Left_runs a (T_event_halves.mk n t n2 t2) _ h1) <| tR (event_Event_up_runs n3 t3 a _ h2) <| tR (event_Event_up_runs n3 t3 a _ h2) <| tR (event_Event_up_runs n3 t3 a _ h2) <| tR (event_Event_up_runs n3 t3 a _ h2) <| tR (event_Event_up_runs n3 t3 a _ h2) <| tR (event_Event_up_runs n3 t3 a _ h2) <| tR (event_Event_up_runs n3 t3 a _ h2) <| tR (event_Event_up_runs n3 t3 a _ h2) <| tR (event_Event_up_runs n3 t3 a _ h2) <| tR (event_Event_up_runs n3 t3 a _ h2) <| tR (event_Event_up_runs n3 t3 a _ h2) <| tR (event_Event_up_runs n3 t3 a _ h2) <| tR (event_Event_up_runs n3 t3 a _ h2) <| tR (event_Event_up_runs n3 t3 a _ h2) <| tR (event_Event_up_runs n3 t3 a _ h2) <| tR (event_Event_Left_runs b b2 _ h3) <| tR (event_Event_Left_runs b b2 _ h3) <| tR (event_Event_Left_runs b b2 _ h3) <| tR (event_Event_Left_runs b b2 _ h3) <| tR (event_Event_Left_runs b b2 _ h3) <| tR (event_Event_Left_runs b b2 _ h3) <| tR (event_Event_up_runs n3 t3 a _ h2) <| tR (event_Event_up_runs n3 t3 a _ h2) <| tR (event_Event_up_runs n3 t3 a _ h2) <| tR (event_Event_up_runs n3 t3 a _ h2) <| tR (event_Event_up_runs n3 t3 a _ h2) <| tR (event_Event_up_runs n3 t3 a _ h2) <| tR (event_Event_up_runs n3 t3 a _ h2) <| tR (event_Event_up_runs n3 t3 a _ h2) <| tR (event_Event_up_runs n3 t3 a _ h2) <| tR (event_Event_up_runs n3 t3 a _ h2) <| tR (event_Event_Left_runs a (T_event_halves.mk n t n2 t2) _ h1) <| tR (event_Event_Left_runs a (T_event_halves.mk n t n2 t2) _ h1) <| tR (event_Event_Left_runs a (T_event_halves.mk n t n2 t2) _ h1) <| tR (event_Event_up_runs n3 t3 a _ h2) <| tR (event_Event_up_runs n3 t3 a _ h2) <| tR (event_Event_up_runs n3 t3 a _ h2) <| tR (event_Event_Left_runs a (T_event_halves.mk n t n2 t2) _ h1) <| tR (event_Event_Left_runs a (T_event_halves.mk n t n2 t2) _ h1) <| tR (event_Event_up_runs n3 t3 a _ h2) <| tR (event_Event_up_runs n3 t3 a _ h2) <| tR (event_Event_Left_runs a (T_event_halves.mk n t n2 t2) _ h1) <| tR (event_Event_up_runs n3 t3 a _ h2) <| tR (event_Event_Left_runs a (T_event_halves.mk n t n2 t2) _ h1) <| tR (event_Event_Left_runs a (T_event_halves.mk n t n2 t2) _ h1) <| tR (event_Event_Left_runs a (T_event_halves.mk n t n2 t2) _ h1) <| tR (event_Event_Left_runs a (T_event_halves.mk n t n2 t2) _ h1) <| tR (event_Event_Left_runs a (T_event_halves.mk n t n2 t2) _ h1) <| tR (event_Event_Left_runs a (T_event_halves.mk n t n2 t2) _ h1) <| tR (event_Event_up_runs n3 t3 a _ h2) <| tR (event_Event_up_runs n3 t3 a _ h2) <| tR (event_Event_Left_runs a (T_event_halves.mk n t n2 t2) _ h1) <| tR (event_Event_Left_runs a (T_event_halves.mk n t n2 t2) _ h1) <| tR (event_Event_Left_runs a (T_event_halves.mk n t n2 t2) _ h1) <| tR (event_Event_up_runs n3 t3 a _ h2) <| tR (event_Event_Left_runs a (T_event_halves.mk n t n2 t2) _ h1) <| tR (event_Event_Left_runs a (T_event_halves.mk n t n2 t2) _ h1) <| tR (event_Event_Left_runs a (T_event_halves.mk n t n2 t2) _ h1) <| tR (event_Event_Left_runs a (T_event_halves.mk n t n2 t2) _ h1) <| tR (event_Event_Left_runs a (T_event_halves.mk n t n2 t2) _ h1) <| tR (event_Event_Left_runs a (T_event_halves.mk n t n2 t2) _ h1) <| tR (event_Event_up_runs n3 t3 a _ h2) <| tR (event_Event_up_runs n3 t3 a _ h2) <| tR (event_Event_Left_runs a (T_event_halves.mk n t n2 t2) _ h1) <| tR (event_Event_Left_runs a (T_event_halves.mk n t n2 t2) _ h1) <| tR (event_Event_Left_runs a (T_event_halves.mk n t n2 t2) _ h1) <| tR (event_Event_up_runs n3 t3 a _ h2) <| tR (event_Event_Left_runs a (T_event_halves.mk n t n2 t2) _ h1) <| tR (event_Event_up_runs n3 t3 a _ h2) <| tR (event_Event_up_runs n3 t3 a _ h2) <| tR (event_Event_up_runs n3 t3 a _ h2) <| tR (event_Event_Left_runs a (T_event_halves.mk n t n2 t2) _ h1) <| tR (event_Event_Left_runs a (T_event_halves.mk n t n2 t2) _ h1) <| tR (event_Event_Left_runs a (T_event_halves.mk n t n2 t2) _ h1) <| tR (event_Event_up_runs n3 t3 a _ h2) <| tR (event_Event_up_runs n3 t3 a _ h2) <| tR (event_Event_up_runs n3 t3 a _ h2) <| tR (event_Event_up_runs n3 t3 a _ h2) <| tR (event_Event_up_runs n3 t3 a _ h2) <| tR (event_Event_up_runs n3 t3 a _ h2) <| tR (event_Event_up_runs n3 t3 a _ h2) <| tR (event_Event_up_runs n3 t3 a _ h2) <| tR (event_Event_up_runs n3 t3 a _ h2) <| tR (event_Event_up_runs n3 t3 a _ h2) <| tR (event_Event_Left_runs b b2 _ h3) <| tR (event_Event_Left_runs b b2 _ h3) <| tR (event_Event_Left_runs b b2 _ h3) <| tR (event_Event_Left_runs b b2 _ h3) <| tR (event_Event_Left_runs b b2 _ h3) <| tR (event_Event_Left_runs b b2 _ h3) <| tR (event_Event_Left_runs b b2 _ h3) <| tR (event_Event_Left_runs b b2 _ h3) <| tR (event_Event_Left_runs b b2 _ h3) <| tR (event_Event_Left_runs b b2 _ h3) <| tR (event_Event_up_runs n5 t4 b _ h4) <| tR (hrec_event_Join n4 t3 n6 t4 _ h5) <| tR (event_Event_up_runs n5 t4 b _ h4) <| tR (event_Event_up_runs n5 t4 b _ h4) <| tR (event_Event_up_runs n5 t4 b _ h4) <| tR (event_Event_up_runs n5 t4 b _ h4) <| tR (event_Event_Left_runs b b2 _ h3) <| tR (event_Event_Left_runs b b2 _ h3) <| tR (event_Event_Left_runs b b2 _ h3) <| tR (event_Event_Left_runs b b2 _ h3) <| tR (event_Event_Left_runs b b2 _ h3) <| tR (event_Event_Left_runs b b2 _ h3) <| tR (event_Event_Left_runs b b2 _ h3) <| tR (event_Event_Left_runs b b2 _ h3) <| tR (event_Event_Left_runs b b2 _ h3) <| tR (event_Event_Left_runs b b2 _ h3) <| tR (event_Event_up_runs n3 t3 a _ h2) <| tR (event_Event_up_runs n3 t3 a _ h2) <| tR (event_Event_up_runs n3 t3 a _ h2) <| tR (event_Event_up_runs n3 t3 a _ h2) <| tR (event_Event_Left_runs a (T_event_halves.mk n t n2 t2) _ h1) <| tR (event_Event_up_runs n3 t3 a _ h2) <| tR (event_Event_up_runs n3 t3 a _ h2) <| tR (event_Event_up_runs n3 t3 a _ h2) <| tR (event_Event_Left_runs b b2 _ h3) <| tR (event_Event_Left_runs b b2 _ h3) <| tR (event_Event_Left_runs b b2 _ h3) <| tR (event_Event_Left_runs b b2 _ h3) <| tR (event_Event_Left_runs b b2 _ h3) <| tR (event_Event_up_runs n5 t4 b _ h4) <| tR (event_Event_up_runs n5 t4 b _ h4) <| tR (event_Event_up_runs n5 t4 b _ h4) <| tR (event_Event_up_runs n5 t4 b _ h4) <| tR (event_Event_up_runs n5 t4 b _ h4) <| tR (event_Event_up_runs n5 t4 b _ h4) <| tR (hrec_event_Join n4 t3 n6 t4 _ h5) <| tR (hrec_event_Join n4 t3 n6 t4 _ h5) <| tR (hrec_event_Join n4 t3 n6 t4 _ h5) <| tR (hrec_event_Join n4 t3 n6 t4 _ h5) <| tR (event_Event_Right_runs a (T_event_halves.mk n t n2 t2) _ h6) <| tR (hrec_event_Join n4 t3 n6 t4 _ h5) <| tR (hrec_event_Join n4 t3 n6 t4 _ h5) <| tR (hrec_event_Join n4 t3 n6 t4 _ h5) <| tR (hrec_event_Join n4 t3 n6 t4 _ h5) <| tR (hrec_event_Join n4 t3 n6 t4 _ h5) <| tR (hrec_event_Join n4 t3 n6 t4 _ h5) <| tR (event_Event_up_runs n5 t4 b _ h4) <| tR (event_Event_up_runs n5 t4 b _ h4) <| tR (event_Event_up_runs n5 t4 b _ h4) <| tR (event_Event_up_runs n5 t4 b _ h4) <| tR (event_Event_Left_runs b b2 _ h3) <| tR (event_Event_up_runs n5 t4 b _ h4) <| tR (hrec_event_Join n4 t3 n6 t4 _ h5) <| tR (hrec_event_Join n4 t3 n6 t4 _ h5) <| tR (hrec_event_Join n4 t3 n6 t4 _ h5) <| tR (hrec_event_Join n4 t3 n6 t4 _ h5) <| tR (event_Event_Right_runs a (T_event_halves.mk n t n2 t2) _ h6) <| tR (event_Event_Right_runs a (T_event_halves.mk n t n2 t2) _ h6) <| tR (event_Event_Right_runs a (T_event_halves.mk n t n2 t2) _ h6) <| tR (event_Event_up_runs n8 t6 a _ h7) <| tR (event_Event_Right_runs a (T_event_halves.mk n t n2 t2) _ h6) <| tR (event_Event_Right_runs a (T_event_halves.mk n t n2 t2) _ h6) <| tR (event_Event_Right_runs a (T_event_halves.mk n t n2 t2) _ h6) <| tR (hrec_event_Join n4 t3 n6 t4 _ h5) <| tR (event_Event_Right_runs a (T_event_halves.mk n t n2 t2) _ h6) <| tR (event_Event_up_runs n8 t6 a _ h7) <| tR (event_Event_up_runs n8 t6 a _ h7) <| tR (event_Event_Right_runs b b2 _ h8) <| tR (event_Event_up_runs n8 t6 a _ h7) <| tR (event_Event_Right_runs b b2 _ h8) <| tR (event_Event_up_runs n10 t7 b _ h9) <| tR (hrec_event_Join n9 t6 n11 t7 _ h10) <| tR (event_node_runs 0 n7 t5 n12 t8 _ h11) <| tN
    exact runs_of (C := cfg) (objs := []) (sc := t_.ev) (.k1 t_.pf (by kernel_rfl) (by kernel_rfl))
noncomputable def event_Join : Nat → Int → T_event_halves → Int → T_event_halves → Option (Int × T_event_halves)
  | 0, _, _, _, _ => none
  | N + 1, a, a2, b, b2 => event_Join_b (event_Join N) a a2 b b2
theorem event_Join_runs : ∀ (N : Nat) (a : Int) (a2 : T_event_halves) (b : Int) (b2 : T_event_halves) (r_ : Int × T_event_halves), event_Join N a a2 b b2 = some r_ → Runs Tryd.prog 60 [(.agg [(.pv (.int .u64 a)), (.pv (T_event_halves.pv a2))]), (.agg [(.pv (.int .u64 b)), (.pv (T_event_halves.pv b2))])] [] [] (event_Join_out a a2 b b2 r_)
  | 0, _, _, _, _, _, h => by cases h
  | N + 1, a, a2, b, b2, r_, h => event_Join_b_runs (event_Join N) (event_Join_runs N) a a2 b b2 r_ h
/-! ### event_Event_Text_out -/
def event_Event_Text_out (e : Int) (e2 : T_event_halves) : ByteArray → Res
  | r1 => ([(.one (.pv (.str r1)))], [], [])
/-! ### event_Event_Text -/
noncomputable def event_Event_Text_b (rec_event_Event_Text : Int → T_event_halves → Option (ByteArray)) (e : Int) (e2 : T_event_halves) : Option (ByteArray) :=
  (strconv_FormatUint e 10).bind fun s =>
  match e2 with
  | .nil =>
    some s
  | .mk n t n2 t2 =>
    bif decide ((⟨#[40]⟩ : ByteArray).size + s.size ≤ 140737488355328) then
    bif decide (((⟨#[40]⟩ : ByteArray) ++ s).size + (⟨#[44]⟩ : ByteArray).size ≤ 140737488355328) then
    (rec_event_Event_Text n t).bind fun s2 =>
    bif decide ((((⟨#[40]⟩ : ByteArray) ++ s) ++ (⟨#[44]⟩ : ByteArray)).size + s2.size ≤ 140737488355328) then
    bif decide (((((⟨#[40]⟩ : ByteArray) ++ s) ++ (⟨#[44]⟩ : ByteArray)) ++ s2).size + (⟨#[44]⟩ : ByteArray).size ≤ 140737488355328) then
    (rec_event_Event_Text n2 t2).bind fun s3 =>
    bif decide ((((((⟨#[40]⟩ : ByteArray) ++ s) ++ (⟨#[44]⟩ : ByteArray)) ++ s2) ++ (⟨#[44]⟩ : ByteArray)).size + s3.size ≤ 140737488355328) then
    bif decide (((((((⟨#[40]⟩ : ByteArray) ++ s) ++ (⟨#[44]⟩ : ByteArray)) ++ s2) ++ (⟨#[44]⟩ : ByteArray)) ++ s3).size + (⟨#[41]⟩ : ByteArray).size ≤ 140737488355328) then
    some (((((((⟨#[40]⟩ : ByteArray) ++ s) ++ (⟨#[44]⟩ : ByteArray)) ++ s2) ++ (⟨#[44]⟩ : ByteArray)) ++ s3) ++ (⟨#[41]⟩ : ByteArray))
    else none
    else none
    else none
    else none
    else none
    else none
theorem event_Event_Text_b_runs (rec_event_Event_Text : Int → T_event_halves → Option (ByteArray)) (hrec_event_Event_Text : ∀ e e2 r_, rec_event_Event_Text e e2 = some r_ → Runs Tryd.prog 21 [(.agg [(.pv (.int .u64 e)), (.pv (T_event_halves.pv e2))])] [] [] (event_Event_Text_out e e2 r_)) (e : Int) (e2 : T_event_halves) (r_ : ByteArray) (h : event_Event_Text_b rec_event_Event_Text e e2 = some r_) : Runs Tryd.prog 21 [(.agg [(.pv (.int .u64 e)), (.pv (T_event_halves.pv e2))])] [] [] (event_Event_Text_out e e2 r_) := by
  unfold event_Event_Text_b at h
  obtain ⟨s, h1, h⟩ := bind_of h
  cases e2 with
  | nil =>
    have h := some_of h
    subst h
    have t_ := tR (strconv_FormatUint_runs e 10 _ h1) <| tT (rfl : true = true) <| tN
    exact runs_of (C := cfg) (objs := []) (sc := t_.ev) (.k0 t_.pf (by kernel_rfl))
  | mk n t n2 t2 =>
    obtain ⟨h2, h⟩ := need_of h
    obtain ⟨h3, h⟩ := need_of h
    obtain ⟨s2, h4, h⟩ := bind_of h
    obtain ⟨h5, h⟩ := need_of h
    obtain ⟨h6, h⟩ := need_of h
    obtain ⟨s3, h7, h⟩ := bind_of h
    obtain ⟨h8, h⟩ := need_of h
    obtain ⟨h9, h⟩ := need_of h
    have h := some_of h
    subst h
    have t_ := tR (strconv_FormatUint_runs e 10 _ h1) <| tF (rfl : false = false) <| tO h2 <| tO h3 <| tR (hrec_event_Event_Text n t _ h4) <| tO h5 <| tO h6 <| tR (hrec_event_Event_Text n t _ h4) <| tO h5 <| tO h6 <| tR (hrec_event_Event_Text n2 t2 _ h7) <| tO h8 <| tO h9 <| tN
    exact runs_of (C := cfg) (objs := []) (sc := t_.ev) (.k1 t_.pf (by kernel_rfl) (by kernel_rfl))
noncomputable def event_Event_Text : Nat → Int → T_event_halves → Option (ByteArray)
  | 0, _, _ => none
  | N + 1, e, e2 => event_Event_Text_b (event_Event_Text N) e e2
theorem event_Event_Text_runs : ∀ (N : Nat) (e : Int) (e2 : T_event_halves) (r_ : ByteArray), event_Event_Text N e e2 = some r_ → Runs Tryd.prog 21 [(.agg [(.pv (.int .u64 e)), (.pv (T_event_halves.pv e2))])] [] [] (event_Event_Text_out e e2 r_)
  | 0, _, _, _, h => by cases h
  | N + 1, e, e2, r_, h => event_Event_Text_b_runs (event_Event_Text N) (event_Event_Text_runs N) e e2 r_ h
/-! ### kinfolklaw02_awake -/
noncomputable def kinfolklaw02_awake (N : Nat) : Option (Bool) :=
  (event_Parse N (⟨#[40, 49, 44, 50, 44, 48, 41]⟩ : ByteArray)).bind fun (n, t, n2) =>
  (event_Parse N (⟨#[40, 48, 44, 48, 44, 52, 41]⟩ : ByteArray)).bind fun (n3, t2, n4) =>
  bif (decide ((n2 : Int) = 0)) then
    bif (decide ((n4 : Int) = 0)) then
      (event_Join N n t n3 t2).bind fun (n5, t3) =>
      (event_Event_Text N n5 t3).bind fun s =>
      some (decide (s = (⟨#[40, 51, 44, 48, 44, 49, 41]⟩ : ByteArray)))
    else
      some false
  else
    some false
theorem kinfolklaw02_awake_runs (N : Nat) (r_ : Bool) (h : kinfolklaw02_awake N = some r_) : Runs Tryd.prog 50 [] [] [] (kinfolklaw02_awake_out r_) := by
  unfold kinfolklaw02_awake at h
  obtain ⟨⟨n, t, n2⟩, h1, h⟩ := bind_of h
  have q_1 := (event_Parse_runs N (⟨#[40, 49, 44, 50, 44, 48, 41]⟩ : ByteArray) _ h1)
  obtain ⟨⟨n3, t2, n4⟩, h2, h⟩ := bind_of h
  have q_2 := (event_Parse_runs N (⟨#[40, 48, 44, 48, 44, 52, 41]⟩ : ByteArray) _ h2)
  rcases cond_of h with ⟨h3, h⟩ | ⟨h3, h⟩
  · rcases cond_of h with ⟨h4, h⟩ | ⟨h4, h⟩
    · obtain ⟨⟨n5, t3⟩, h5, h⟩ := bind_of h
      obtain ⟨s, h6, h⟩ := bind_of h
      have h := some_of h
      subst h
      have t_ := tR q_1 <| tR q_2 <| tT h3 <| tT h4 <| tR (event_Join_runs N n t n3 t2 _ h5) <| tR (event_Event_Text_runs N n5 t3 _ h6) <| tN
      exact runs_of (C := cfg) (objs := []) (sc := t_.ev) (.k0 t_.pf (by kernel_rfl))
    · have h := some_of h
      subst h
      have t_ := tR q_1 <| tR q_2 <| tT h3 <| tF h4 <| tN
      exact runs_of (C := cfg) (objs := []) (sc := t_.ev) (.k0 t_.pf (by kernel_rfl))
  · have h := some_of h
    subst h
    have t_ := tR q_1 <| tR q_2 <| tF h3 <| tF (rfl : false = false) <| tN
    exact runs_of (C := cfg) (objs := []) (sc := t_.ev) (.k0 t_.pf (by kernel_rfl))
/-! ### kinfolklaw02_made_out -/
def kinfolklaw02_made_out (p : List Int) : Int × T_event_halves × T_kinfolkref02_Event → Res
  | (r1, r2, r3) => ([(.agg [(.pv (.int .u64 r1)), (.pv (T_event_halves.pv r2))]), (.one (.pv (T_kinfolkref02_Event.pv r3)))], [], [])
/-! ### kinfolkref02_Make_out -/
def kinfolkref02_Make_out (p : List Int) (most : Int) : T_kinfolkref02_Event × List Int → Res
  | (r1, r2) => ([(.one (.pv (T_kinfolkref02_Event.pv r1))), (.one (.pv (.ints .u8 r2 false)))], [], [])
/-! ### kinfolkref02_Leaf_out -/
def kinfolkref02_Leaf_out (n : Int) : T_kinfolkref02_Event → Res
  | r1 => ([(.one (.pv (T_kinfolkref02_Event.pv r1)))], [], [])
/-! ### kinfolkref02_Leaf -/
noncomputable def kinfolkref02_Leaf (n : Int) : Option (T_kinfolkref02_Event) :=
  some (T_kinfolkref02_Event.mk n T_kinfolkref02_Event.nil T_kinfolkref02_Event.nil)
theorem kinfolkref02_Leaf_runs (n : Int) (r_ : T_kinfolkref02_Event) (h : kinfolkref02_Leaf n = some r_) : Runs Tryd.prog 59 [(.one (.pv (.int .u64 n)))] [] [] (kinfolkref02_Leaf_out n r_) := by
  unfold kinfolkref02_Leaf at h
  have h := some_of h
  subst h
  have t_ := tN
  have e_ : Runs Tryd.prog 59 [(.one (.pv (.int .u64 n)))] [] [] ([(.one (.pv (.imm [(.int .u64 n), .nilp, .nilp] 0)))], [], []) := runs_of (C := cfg) (objs := []) (sc := t_.ev) (.k0 t_.pf (by kernel_rfl))
  exact e_.out ⟨.eq rfl, trivial⟩ trivial trivial rfl
/-! ### kinfolkref02_Node_out -/
def kinfolkref02_Node_out (n : Int) (l : T_kinfolkref02_Event) (r : T_kinfolkref02_Event) : T_kinfolkref02_Event → Res
  | r1 => ([(.one (.pv (T_kinfolkref02_Event.pv r1)))], [], [])
/-! ### kinfolkref02_Min_out -/
def kinfolkref02_Min_out (e : T_kinfolkref02_Event) : Int → Res
  | r1 => ([(.one (.pv (.int .u64 r1)))], [], [])
/-! ### kinfolkref02_Min -/
noncomputable def kinfolkref02_Min_b (rec_kinfolkref02_Min : T_kinfolkref02_Event → Option (Int)) (e : T_kinfolkref02_Event) : Option (Int) :=
  match e with
  | .nil =>
    none
  | .mk n t t2 =>
    match t with
    | .nil =>
      some n
    | .mk n2 t3 t4 =>
      (rec_kinfolkref02_Min t).bind fun n3 =>
      (rec_kinfolkref02_Min t2).bind fun n4 =>
      bif (decide ((n3 : Int) < n4)) then
        some (iadd .u64 n n3)
      else
        some (iadd .u64 n n4)
theorem kinfolkref02_Min_b_runs (rec_kinfolkref02_Min : T_kinfolkref02_Event → Option (Int)) (hrec_kinfolkref02_Min : ∀ e r_, rec_kinfolkref02_Min e = some r_ → Runs Tryd.prog 100 [(.one (.pv (T_kinfolkref02_Event.pv e)))] [] [] (kinfolkref02_Min_out e r_)) (e : T_kinfolkref02_Event) (r_ : Int) (h : kinfolkref02_Min_b rec_kinfolkref02_Min e = some r_) : Runs Tryd.prog 100 [(.one (.pv (T_kinfolkref02_Event.pv e)))] [] [] (kinfolkref02_Min_out e r_) := by
  unfold kinfolkref02_Min_b at h
  cases e with
  | nil =>
    cases h
  | mk n t t2 =>
    cases t with
    | nil =>
      have h := some_of h
      subst h
      have t_ := tT (rfl : true = true) <| tN
      exact runs_of (C := cfg) (objs := []) (sc := t_.ev) (.k0 t_.pf (by kernel_rfl))
    | mk n2 t3 t4 =>
      obtain ⟨n3, h1, h⟩ := bind_of h
      obtain ⟨n4, h2, h⟩ := bind_of h
      rcases cond_of h with ⟨h3, h⟩ | ⟨h3, h⟩
      · have h := some_of h
        subst h
        have t_ := tF (rfl : false = false) <| tR (hrec_kinfolkref02_Min (T_kinfolkref02_Event.mk n2 t3 t4) _ h1) <| tR (hrec_kinfolkref02_Min t2 _ h2) <| tT h3 <| tN
        exact runs_of (C := cfg) (objs := []) (sc := t_.ev) (.k0 t_.pf (by kernel_rfl))
      · have h := some_of h
        subst h
        have t_ := tF (rfl : false = false) <| tR (hrec_kinfolkref02_Min (T_kinfolkref02_Event.mk n2 t3 t4) _ h1) <| tR (hrec_kinfolkref02_Min t2 _ h2) <| tF h3 <| tN
        exact runs_of (C := cfg) (objs := []) (sc := t_.ev) (.k0 t_.pf (by kernel_rfl))
noncomputable def kinfolkref02_Min : Nat → T_kinfolkref02_Event → Option (Int)
  | 0, _ => none
  | N + 1, e => kinfolkref02_Min_b (kinfolkref02_Min N) e
theorem kinfolkref02_Min_runs : ∀ (N : Nat) (e : T_kinfolkref02_Event) (r_ : Int), kinfolkref02_Min N e = some r_ → Runs Tryd.prog 100 [(.one (.pv (T_kinfolkref02_Event.pv e)))] [] [] (kinfolkref02_Min_out e r_)
  | 0, _, _, h => by cases h
  | N + 1, e, r_, h => kinfolkref02_Min_b_runs (kinfolkref02_Min N) (kinfolkref02_Min_runs N) e r_ h
/-! ### kinfolkref02_Node -/
noncomputable def kinfolkref02_Node (N : Nat) (n : Int) (l : T_kinfolkref02_Event) (r : T_kinfolkref02_Event) : Option (T_kinfolkref02_Event) :=
  match l with
  | .nil =>
    none
  | .mk n2 t t2 =>
    match t with
    | .nil =>
      match r with
      | .nil =>
        none
      | .mk n3 t3 t4 =>
        match t3 with
        | .nil =>
          bif (decide ((n2 : Int) = n3)) then
            (kinfolkref02_Leaf (iadd .u64 n n2)).bind fun t5 =>
            some t5
          else
            (kinfolkref02_Min N l).bind fun n4 =>
            (kinfolkref02_Min N r).bind fun n5 =>
            bif (decide ((n5 : Int) < n4)) then
              some (T_kinfolkref02_Event.mk (iadd .u64 n n5) (T_kinfolkref02_Event.mk (isub .u64 n2 n5) t t2) (T_kinfolkref02_Event.mk (isub .u64 n3 n5) t3 t4))
            else
              some (T_kinfolkref02_Event.mk (iadd .u64 n n4) (T_kinfolkref02_Event.mk (isub .u64 n2 n4) t t2) (T_kinfolkref02_Event.mk (isub .u64 n3 n4) t3 t4))
        | .mk n4 t5 t6 =>
          (kinfolkref02_Min N l).bind fun n5 =>
          (kinfolkref02_Min N r).bind fun n6 =>
          bif (decide ((n6 : Int) < n5)) then
            some (T_kinfolkref02_Event.mk (iadd .u64 n n6) (T_kinfolkref02_Event.mk (isub .u64 n2 n6) t t2) (T_kinfolkref02_Event.mk (isub .u64 n3 n6) t3 t4))
          else
            some (T_kinfolkref02_Event.mk (iadd .u64 n n5) (T_kinfolkref02_Event.mk (isub .u64 n2 n5) t t2) (T_kinfolkref02_Event.mk (isub .u64 n3 n5) t3 t4))
    | .mk n3 t3 t4 =>
      (kinfolkref02_Min N l).bind fun n4 =>
      (kinfolkref02_Min N r).bind fun n5 =>
      bif (decide ((n5 : Int) < n4)) then
        match r with
        | .nil =>
          none
        | .mk n6 t5 t6 =>
          some (T_kinfolkref02_Event.mk (iadd .u64 n n5) (T_kinfolkref02_Event.mk (isub .u64 n2 n5) t t2) (T_kinfolkref02_Event.mk (isub .u64 n6 n5) t5 t6))
      else
        match r with
        | .nil =>
          none
        | .mk n6 t5 t6 =>
          some (T_kinfolkref02_Event.mk (iadd .u64 n n4) (T_kinfolkref02_Event.mk (isub .u64 n2 n4) t t2) (T_kinfolkref02_Event.mk (isub .u64 n6 n4) t5 t6))
theorem kinfolkref02_Node_runs (N : Nat) (n : Int) (l : T_kinfolkref02_Event) (r : T_kinfolkref02_Event) (r_ : T_kinfolkref02_Event) (h : kinfolkref02_Node N n l r = some r_) : Runs Tryd.prog 56 [(.one (.pv (.int .u64 n))), (.one (.pv (T_kinfolkref02_Event.pv l))), (.one (.pv (T_kinfolkref02_Event.pv r)))] [] [] (kinfolkref02_Node_out n l r r_) := by
  unfold kinfolkref02_Node at h
  cases l with
  | nil =>
    cases h
  | mk n2 t t2 =>
    cases t with
    | nil =>
      cases r with
      | nil =>
        cases h
      | mk n3 t3 t4 =>
        cases t3 with
        | nil =>
          rcases cond_of h with ⟨h1, h⟩ | ⟨h1, h⟩
          · obtain ⟨t5, h2, h⟩ := bind_of h
            have h := some_of h
            subst h
            have t_ := tT (rfl : true = true) <| tT (rfl : true = true) <| tT h1 <| tR (kinfolkref02_Leaf_runs (iadd .u64 n n2) _ h2) <| tN
            exact runs_of (C := cfg) (objs := []) (sc := t_.ev) (.k0 t_.pf (by kernel_rfl))
          · obtain ⟨n4, h2, h⟩ := bind_of h
            obtain ⟨n5, h3, h⟩ := bind_of h
            rcases cond_of h with ⟨h4, h⟩ | ⟨h4, h⟩
            · have h := some_of h
              subst h
              have t_ := tT (rfl : true = true) <| tT (rfl : true = true) <| tF h1 <| tR (kinfolkref02_Min_runs N (T_kinfolkref02_Event.mk n2 T_kinfolkref02_Event.nil t2) _ h2) <| tR (kinfolkref02_Min_runs N (T_kinfolkref02_Event.mk n3 T_kinfolkref02_Event.nil t4) _ h3) <| tT h4 <| tR (kinfolkref02_Min_runs N (T_kinfolkref02_Event.mk n3 T_kinfolkref02_Event.nil t4) _ h3) <| tN
              have e_ : Runs Tryd.prog 56 [(.one (.pv (.int .u64 n))), (.one (.pv (T_kinfolkref02_Event.pv (T_kinfolkref02_Event.mk n2 T_kinfolkref02_Event.nil t2)))), (.one (.pv (T_kinfolkref02_Event.pv (T_kinfolkref02_Event.mk n3 T_kinfolkref02_Event.nil t4))))] [] [] ([(.one (.pv (.imm [(.int .u64 (iadd .u64 n n5)), (.imm [(.int .u64 (isub .u64 n2 n5)), (T_kinfolkref02_Event.pv T_kinfolkref02_Event.nil), (T_kinfolkref02_Event.pv t2)] 0), (.imm [(.int .u64 (isub .u64 n3 n5)), (T_kinfolkref02_Event.pv T_kinfolkref02_Event.nil), (T_kinfolkref02_Event.pv t4)] 0)] 0)))], [], []) := runs_of (C := cfg) (objs := []) (sc := t_.ev) (.k1 t_.pf (by kernel_rfl) (by kernel_rfl))
              exact e_.out ⟨.eq rfl, trivial⟩ trivial trivial rfl
            · have h := some_of h
              subst h
              have t_ := tT (rfl : true = true) <| tT (rfl : true = true) <| tF h1 <| tR (kinfolkref02_Min_runs N (T_kinfolkref02_Event.mk n2 T_kinfolkref02_Event.nil t2) _ h2) <| tR (kinfolkref02_Min_runs N (T_kinfolkref02_Event.mk n3 T_kinfolkref02_Event.nil t4) _ h3) <| tF h4 <| tN
              have e_ : Runs Tryd.prog 56 [(.one (.pv (.int .u64 n))), (.one (.pv (T_kinfolkref02_Event.pv (T_kinfolkref02_Event.mk n2 T_kinfolkref02_Event.nil t2)))), (.one (.pv (T_kinfolkref02_Event.pv (T_kinfolkref02_Event.mk n3 T_kinfolkref02_Event.nil t4))))] [] [] ([(.one (.pv (.imm [(.int .u64 (iadd .u64 n n4)), (.imm [(.int .u64 (isub .u64 n2 n4)), (T_kinfolkref02_Event.pv T_kinfolkref02_Event.nil), (T_kinfolkref02_Event.pv t2)] 0), (.imm [(.int .u64 (isub .u64 n3 n4)), (T_kinfolkref02_Event.pv T_kinfolkref02_Event.nil), (T_kinfolkref02_Event.pv t4)] 0)] 0)))], [], []) := runs_of (C := cfg) (objs := []) (sc := t_.ev) (.k1 t_.pf (by kernel_rfl) (by kernel_rfl))
              exact e_.out ⟨.eq rfl, trivial⟩ trivial trivial rfl
        | mk n4 t5 t6 =>
          obtain ⟨n5, h1, h⟩ := bind_of h
          obtain ⟨n6, h2, h⟩ := bind_of h
          rcases cond_of h with ⟨h3, h⟩ | ⟨h3, h⟩
          · have h := some_of h
            subst h
            have t_ := tT (rfl : true = true) <| tF (rfl : false = false) <| tF (rfl : false = false) <| tR (kinfolkref02_Min_runs N (T_kinfolkref02_Event.mk n2 T_kinfolkref02_Event.nil t2) _ h1) <| tR (kinfolkref02_Min_runs N (T_kinfolkref02_Event.mk n3 (T_kinfolkref02_Event.mk n4 t5 t6) t4) _ h2) <| tT h3 <| tR (kinfolkref02_Min_runs N (T_kinfolkref02_Event.mk n3 (T_kinfolkref02_Event.mk n4 t5 t6) t4) _ h2) <| tN
            have e_ : Runs Tryd.prog 56 [(.one (.pv (.int .u64 n))), (.one (.pv (T_kinfolkref02_Event.pv (T_kinfolkref02_Event.mk n2 T_kinfolkref02_Event.nil t2)))), (.one (.pv (T_kinfolkref02_Event.pv (T_kinfolkref02_Event.mk n3 (T_kinfolkref02_Event.mk n4 t5 t6) t4))))] [] [] ([(.one (.pv (.imm [(.int .u64 (iadd .u64 n n6)), (.imm [(.int .u64 (isub .u64 n2 n6)), (T_kinfolkref02_Event.pv T_kinfolkref02_Event.nil), (T_kinfolkref02_Event.pv t2)] 0), (.imm [(.int .u64 (isub .u64 n3 n6)), (T_kinfolkref02_Event.pv (T_kinfolkref02_Event.mk n4 t5 t6)), (T_kinfolkref02_Event.pv t4)] 0)] 0)))], [], []) := runs_of (C := cfg) (objs := []) (sc := t_.ev) (.k1 t_.pf (by kernel_rfl) (by kernel_rfl))
            exact e_.out ⟨.eq rfl, trivial⟩ trivial trivial rfl
          · have h := some_of h
            subst h
            have t_ := tT (rfl : true = true) <| tF (rfl : false = false) <| tF (rfl : false = false) <| tR (kinfolkref02_Min_runs N (T_kinfolkref02_Event.mk n2 T_kinfolkref02_Event.nil t2) _ h1) <| tR (kinfolkref02_Min_runs N (T_kinfolkref02_Event.mk n3 (T_kinfolkref02_Event.mk n4 t5 t6) t4) _ h2) <| tF h3 <| tN
            have e_ : Runs Tryd.prog 56 [(.one (.pv (.int .u64 n))), (.one (.pv (T_kinfolkref02_Event.pv (T_kinfolkref02_Event.mk n2 T_kinfolkref02_Event.nil t2)))), (.one (.pv (T_kinfolkref02_Event.pv (T_kinfolkref02_Event.mk n3 (T_kinfolkref02_Event.mk n4 t5 t6) t4))))] [] [] ([(.one (.pv (.imm [(.int .u64 (iadd .u64 n n5)), (.imm [(.int .u64 (isub .u64 n2 n5)), (T_kinfolkref02_Event.pv T_kinfolkref02_Event.nil), (T_kinfolkref02_Event.pv t2)] 0), (.imm [(.int .u64 (isub .u64 n3 n5)), (T_kinfolkref02_Event.pv (T_kinfolkref02_Event.mk n4 t5 t6)), (T_kinfolkref02_Event.pv t4)] 0)] 0)))], [], []) := runs_of (C := cfg) (objs := []) (sc := t_.ev) (.k1 t_.pf (by kernel_rfl) (by kernel_rfl))
            exact e_.out ⟨.eq rfl, trivial⟩ trivial trivial rfl
    | mk n3 t3 t4 =>
      obtain ⟨n4, h1, h⟩ := bind_of h
      obtain ⟨n5, h2, h⟩ := bind_of h
      rcases cond_of h with ⟨h3, h⟩ | ⟨h3, h⟩
      · cases r with
        | nil =>
          cases h
        | mk n6 t5 t6 =>
          have h := some_of h
          subst h
          have t_ := tF (rfl : false = false) <| tF (rfl : false = false) <| tF (rfl : false = false) <| tR (kinfolkref02_Min_runs N (T_kinfolkref02_Event.mk n2 (T_kinfolkref02_Event.mk n3 t3 t4) t2) _ h1) <| tR (kinfolkref02_Min_runs N (T_kinfolkref02_Event.mk n6 t5 t6) _ h2) <| tT h3 <| tR (kinfolkref02_Min_runs N (T_kinfolkref02_Event.mk n6 t5 t6) _ h2) <| tN
          have e_ : Runs Tryd.prog 56 [(.one (.pv (.int .u64 n))), (.one (.pv (T_kinfolkref02_Event.pv (T_kinfolkref02_Event.mk n2 (T_kinfolkref02_Event.mk n3 t3 t4) t2)))), (.one (.pv (T_kinfolkref02_Event.pv (T_kinfolkref02_Event.mk n6 t5 t6))))] [] [] ([(.one (.pv (.imm [(.int .u64 (iadd .u64 n n5)), (.imm [(.int .u64 (isub .u64 n2 n5)), (T_kinfolkref02_Event.pv (T_kinfolkref02_Event.mk n3 t3 t4)), (T_kinfolkref02_Event.pv t2)] 0), (.imm [(.int .u64 (isub .u64 n6 n5)), (T_kinfolkref02_Event.pv t5), (T_kinfolkref02_Event.pv t6)] 0)] 0)))], [], []) := runs_of (C := cfg) (objs := []) (sc := t_.ev) (.k1 t_.pf (by kernel_rfl) (by kernel_rfl))
          exact e_.out ⟨.eq rfl, trivial⟩ trivial trivial rfl
      · cases r with
        | nil =>
          cases h
        | mk n6 t5 t6 =>
          have h := some_of h
          subst h
          have t_ := tF (rfl : false = false) <| tF (rfl : false = false) <| tF (rfl : false = false) <| tR (kinfolkref02_Min_runs N (T_kinfolkref02_Event.mk n2 (T_kinfolkref02_Event.mk n3 t3 t4) t2) _ h1) <| tR (kinfolkref02_Min_runs N (T_kinfolkref02_Event.mk n6 t5 t6) _ h2) <| tF h3 <| tN
          have e_ : Runs Tryd.prog 56 [(.one (.pv (.int .u64 n))), (.one (.pv (T_kinfolkref02_Event.pv (T_kinfolkref02_Event.mk n2 (T_kinfolkref02_Event.mk n3 t3 t4) t2)))), (.one (.pv (T_kinfolkref02_Event.pv (T_kinfolkref02_Event.mk n6 t5 t6))))] [] [] ([(.one (.pv (.imm [(.int .u64 (iadd .u64 n n4)), (.imm [(.int .u64 (isub .u64 n2 n4)), (T_kinfolkref02_Event.pv (T_kinfolkref02_Event.mk n3 t3 t4)), (T_kinfolkref02_Event.pv t2)] 0), (.imm [(.int .u64 (isub .u64 n6 n4)), (T_kinfolkref02_Event.pv t5), (T_kinfolkref02_Event.pv t6)] 0)] 0)))], [], []) := runs_of (C := cfg) (objs := []) (sc := t_.ev) (.k1 t_.pf (by kernel_rfl) (by kernel_rfl))
          exact e_.out ⟨.eq rfl, trivial⟩ trivial trivial rfl
/-! ### kinfolkref02_Make -/
noncomputable def kinfolkref02_Make_b (N : Nat) (rec_kinfolkref02_Make : List Int → Int → Option (T_kinfolkref02_Event × List Int)) (p : List Int) (most : Int) : Option (T_kinfolkref02_Event × List Int) :=
  bif (decide ((((p).length : Int) : Int) = 0)) then
    (kinfolkref02_Leaf 0).bind fun t =>
    some (t, [])
  else
    bif decide ((0 : Int) ≤ 0) && decide ((0 : Int) < ((p).length : Int)) then
    bif decide ((0 : Int) ≤ 1) && decide ((1 : Int) ≤ ((p).length : Int)) && decide ((((p).length : Int) : Int) ≤ ((p).length : Int)) && decide ((((p).length : Int) : Int) = ((p).length : Int)) then
    bif (decide ((most : Int) = 0)) then
      (kinfolkref02_Leaf (IntKind.u64.wrap (irem .u8 (iquo .u8 (p.getD 0 0) 4) 8))).bind fun t =>
      some (t, (List.take (((p).length : Int) - 1).toNat (List.drop 1 p)))
    else
      bif (decide (((irem .u8 (p.getD 0 0) 4) : Int) < 2)) then
        (kinfolkref02_Leaf (IntKind.u64.wrap (irem .u8 (iquo .u8 (p.getD 0 0) 4) 8))).bind fun t =>
        some (t, (List.take (((p).length : Int) - 1).toNat (List.drop 1 p)))
      else
        (rec_kinfolkref02_Make (List.take (((p).length : Int) - 1).toNat (List.drop 1 p)) (isub .i64 most 1)).bind fun (t, l_) =>
        (rec_kinfolkref02_Make l_ (isub .i64 most 1)).bind fun (t2, l_2) =>
        (kinfolkref02_Node N (IntKind.u64.wrap (irem .u8 (iquo .u8 (p.getD 0 0) 4) 4)) t t2).bind fun t3 =>
        some (t3, l_2)
    else none
    else none
theorem kinfolkref02_Make_b_runs (N : Nat) (rec_kinfolkref02_Make : List Int → Int → Option (T_kinfolkref02_Event × List Int)) (hrec_kinfolkref02_Make : ∀ p most r_, rec_kinfolkref02_Make p most = some r_ → Runs Tryd.prog 88 [(.one (.pv (.ints .u8 p false))), (.one (.pv (.int .i64 most)))] [] [] (kinfolkref02_Make_out p most r_)) (p : List Int) (most : Int) (r_ : T_kinfolkref02_Event × List Int) (h : kinfolkref02_Make_b N rec_kinfolkref02_Make p most = some r_) : Runs Tryd.prog 88 [(.one (.pv (.ints .u8 p false))), (.one (.pv (.int .i64 most)))] [] [] (kinfolkref02_Make_out p most r_) := by
  unfold kinfolkref02_Make_b at h
  rcases cond_of h with ⟨h1, h⟩ | ⟨h1, h⟩
  · obtain ⟨t, h2, h⟩ := bind_of h
    have h := some_of h
    subst h
    have t_ := tT h1 <| tR (kinfolkref02_Leaf_runs 0 _ h2) <| tN
    have e_ : Runs Tryd.prog 88 [(.one (.pv (.ints .u8 p false))), (.one (.pv (.int .i64 most)))] [] [] ([(.one (.pv (T_kinfolkref02_Event.pv t))), (.one (.pv .nils))], [], []) := runs_of (C := cfg) (objs := []) (sc := t_.ev) (.k0 t_.pf (by kernel_rfl))
    exact e_.out ⟨.eq rfl, .pv (.nilsI), trivial⟩ trivial trivial rfl
  · obtain ⟨h2, h⟩ := need_of h
    obtain ⟨h3, h⟩ := need_of h
    rcases cond_of h with ⟨h4, h⟩ | ⟨h4, h⟩
    · obtain ⟨t, h5, h⟩ := bind_of h
      have h := some_of h
      subst h
      have t_ := tF h1 <| tO h2 <| tO h3 <| tT h4 <| tT (rfl : true = true) <| tO (rfl : true = true) <| tO (rfl : true = true) <| tR (kinfolkref02_Leaf_runs (IntKind.u64.wrap (irem .u8 (iquo .u8 (p.getD 0 0) 4) 8)) _ h5) <| tN
      exact runs_of (C := cfg) (objs := []) (sc := t_.ev) (.k0 t_.pf (by kernel_rfl))
    · rcases cond_of h with ⟨h5, h⟩ | ⟨h5, h⟩
      · obtain ⟨t, h6, h⟩ := bind_of h
        have h := some_of h
        subst h
        have t_ := tF h1 <| tO h2 <| tO h3 <| tF h4 <| tO (rfl : true = true) <| tT h5 <| tO (rfl : true = true) <| tO (rfl : true = true) <| tR (kinfolkref02_Leaf_runs (IntKind.u64.wrap (irem .u8 (iquo .u8 (p.getD 0 0) 4) 8)) _ h6) <| tN
        exact runs_of (C := cfg) (objs := []) (sc := t_.ev) (.k0 t_.pf (by kernel_rfl))
      · obtain ⟨⟨t, l_⟩, h6, h⟩ := bind_of h
        obtain ⟨⟨t2, l_2⟩, h7, h⟩ := bind_of h
        obtain ⟨t3, h8, h⟩ := bind_of h
        have h := some_of h
        subst h
        have t_ := tF h1 <| tO h2 <| tO h3 <| tF h4 <| tO (rfl : true = true) <| tF h5 <| tR (hrec_kinfolkref02_Make (List.take (((p).length : Int) - 1).toNat (List.drop 1 p)) (isub .i64 most 1) _ h6) <| tR (hrec_kinfolkref02_Make l_ (isub .i64 most 1) _ h7) <| tO (rfl : true = true) <| tO (rfl : true = true) <| tR (kinfolkref02_Node_runs N (IntKind.u64.wrap (irem .u8 (iquo .u8 (p.getD 0 0) 4) 4)) t t2 _ h8) <| tN
        exact runs_of (C := cfg) (objs := []) (sc := t_.ev) (.k0 t_.pf (by kernel_rfl))
noncomputable def kinfolkref02_Make : Nat → List Int → Int → Option (T_kinfolkref02_Event × List Int)
  | 0, _, _ => none
  | N + 1, p, most => kinfolkref02_Make_b N (kinfolkref02_Make N) p most
theorem kinfolkref02_Make_runs : ∀ (N : Nat) (p : List Int) (most : Int) (r_ : T_kinfolkref02_Event × List Int), kinfolkref02_Make N p most = some r_ → Runs Tryd.prog 88 [(.one (.pv (.ints .u8 p false))), (.one (.pv (.int .i64 most)))] [] [] (kinfolkref02_Make_out p most r_)
  | 0, _, _, _, h => by cases h
  | N + 1, p, most, r_, h => kinfolkref02_Make_b_runs N (kinfolkref02_Make N) (kinfolkref02_Make_runs N) p most r_ h
/-! ### kinfolklaw02_own_out -/
def kinfolklaw02_own_out (x : T_kinfolkref02_Event) : Int × T_event_halves → Res
  | (r1, r2) => ([(.agg [(.pv (.int .u64 r1)), (.pv (T_event_halves.pv r2))])], [], [])
/-! ### event_Leaf_out -/
def event_Leaf_out (n : Int) : Int × Int → Res
  | (r1, r2) => ([(.agg [(.pv (.int .u64 r1)), (.pv (T_event_halves.pv T_event_halves.nil))]), (.one (.pv (.int .i64 r2)))], [], [])
/-! ### event_Leaf -/
noncomputable def event_Leaf (n : Int) : Option (Int × Int) :=
  bif (decide ((1048576 : Int) < n)) then
    some (0, 4)
  else
    some (n, 0)
theorem event_Leaf_runs (n : Int) (r_ : Int × Int) (h : event_Leaf n = some r_) : Runs Tryd.prog 31 [(.one (.pv (.int .u64 n)))] [] [] (event_Leaf_out n r_) := by
  unfold event_Leaf at h
  rcases cond_of h with ⟨h1, h⟩ | ⟨h1, h⟩
  · have h := some_of h
    subst h
    have t_ := tT h1 <| tN
    have e_ : Runs Tryd.prog 31 [(.one (.pv (.int .u64 n)))] [] [] ([(.agg [(.pv (.int .u64 0)), (.pv .nilp)]), (.one (.pv (.int .i64 4)))], [], []) := runs_of (C := cfg) (objs := []) (sc := t_.ev) (.k0 t_.pf (by kernel_rfl))
    exact e_.out ⟨⟨.eq rfl, .eq rfl, trivial⟩, .eq rfl, trivial⟩ trivial trivial rfl
  · have h := some_of h
    subst h
    have t_ := tF h1 <| tN
    have e_ : Runs Tryd.prog 31 [(.one (.pv (.int .u64 n)))] [] [] ([(.agg [(.pv (.int .u64 n)), (.pv .nilp)]), (.one (.pv (.int .i64 0)))], [], []) := runs_of (C := cfg) (objs := []) (sc := t_.ev) (.k0 t_.pf (by kernel_rfl))
    exact e_.out ⟨⟨.eq rfl, .eq rfl, trivial⟩, .eq rfl, trivial⟩ trivial trivial rfl
/-! ### event_Node_out -/
def event_Node_out (n : Int) (l : Int) (l2 : T_event_halves) (r : Int) (r2 : T_event_halves) : Int × T_event_halves × Int → Res
  | (r1, r2, r3) => ([(.agg [(.pv (.int .u64 r1)), (.pv (T_event_halves.pv r2))]), (.one (.pv (.int .i64 r3)))], [], [])
/-! ### event_Node -/
noncomputable def event_Node (N : Nat) (n : Int) (l : Int) (l2 : T_event_halves) (r : Int) (r2 : T_event_halves) : Option (Int × T_event_halves × Int) :=
  (event_node (if (2097152 : Int) < n then 2097152 else n) l l2 r r2).bind fun (n2, t) =>
  (event_Event_right N n2 t).bind fun n3 =>
  bif (decide ((n3 : Int) = 0)) then
    some (n2, t, 0)
  else
    some (0, T_event_halves.nil, n3)
theorem event_Node_runs (N : Nat) (n : Int) (l : Int) (l2 : T_event_halves) (r : Int) (r2 : T_event_halves) (r_ : Int × T_event_halves × Int) (h : event_Node N n l l2 r r2 = some r_) : Runs Tryd.prog 54 [(.one (.pv (.int .u64 n))), (.agg [(.pv (.int .u64 l)), (.pv (T_event_halves.pv l2))]), (.agg [(.pv (.int .u64 r)), (.pv (T_event_halves.pv r2))])] [] [] (event_Node_out n l l2 r r2 r_) := by
  unfold event_Node at h
  obtain ⟨⟨n2, t⟩, h1, h⟩ := bind_of h
  have q_1 := (event_node_runs (if (2097152 : Int) < n then 2097152 else n) l l2 r r2 _ h1)
  obtain ⟨n3, h2, h⟩ := bind_of h
  rcases cond_of h with ⟨h3, h⟩ | ⟨h3, h⟩
  · have h := some_of h
    subst h
    have t_ := tR q_1 <| tR (event_Event_right_runs N n2 t _ h2) <| tF (not_of2 h3) <| tN
    exact runs_of (C := cfg) (objs := []) (sc := t_.ev) (.k0 t_.pf (by kernel_rfl))
  · have h := some_of h
    subst h
    have t_ := tR q_1 <| tR (event_Event_right_runs N n2 t _ h2) <| tT (not_of h3) <| tN
    have e_ : Runs Tryd.prog 54 [(.one (.pv (.int .u64 n))), (.agg [(.pv (.int .u64 l)), (.pv (T_event_halves.pv l2))]), (.agg [(.pv (.int .u64 r)), (.pv (T_event_halves.pv r2))])] [] [] ([(.agg [(.pv (.int .u64 0)), (.pv .nilp)]), (.one (.pv (.int .i64 n3)))], [], []) := runs_of (C := cfg) (objs := []) (sc := t_.ev) (.k0 t_.pf (by kernel_rfl))
    exact e_.out ⟨⟨.eq rfl, .eq rfl, trivial⟩, .eq rfl, trivial⟩ trivial trivial rfl
/-! ### kinfolklaw02_own -/
noncomputable def kinfolklaw02_own_b (N : Nat) (rec_kinfolklaw02_own : T_kinfolkref02_Event → Option (Int × T_event_halves)) (x : T_kinfolkref02_Event) : Option (Int × T_event_halves) :=
  match x with
  | .nil =>
    none
  | .mk n t t2 =>
    match t with
    | .nil =>
      (event_Leaf n).bind fun (n2, n3) =>
      some (n2, T_event_halves.nil)
    | .mk n2 t3 t4 =>
      (rec_kinfolklaw02_own t).bind fun (n3, t5) =>
      (rec_kinfolklaw02_own t2).bind fun (n4, t6) =>
      (event_Node N n n3 t5 n4 t6).bind fun (n5, t7, n6) =>
      some (n5, t7)
theorem kinfolklaw02_own_b_runs (N : Nat) (rec_kinfolklaw02_own : T_kinfolkref02_Event → Option (Int × T_event_halves)) (hrec_kinfolklaw02_own : ∀ x r_, rec_kinfolklaw02_own x = some r_ → Runs Tryd.prog 117 [(.one (.pv (T_kinfolkref02_Event.pv x)))] [] [] (kinfolklaw02_own_out x r_)) (x : T_kinfolkref02_Event) (r_ : Int × T_event_halves) (h : kinfolklaw02_own_b N rec_kinfolklaw02_own x = some r_) : Runs Tryd.prog 117 [(.one (.pv (T_kinfolkref02_Event.pv x)))] [] [] (kinfolklaw02_own_out x r_) := by
  unfold kinfolklaw02_own_b at h
  cases x with
  | nil =>
    cases h
  | mk n t t2 =>
    cases t with
    | nil =>
      obtain ⟨⟨n2, n3⟩, h1, h⟩ := bind_of h
      have h := some_of h
      subst h
      have t_ := tT (rfl : true = true) <| tR (event_Leaf_runs n _ h1) <| tN
      exact runs_of (C := cfg) (objs := []) (sc := t_.ev) (.k0 t_.pf (by kernel_rfl))
    | mk n2 t3 t4 =>
      obtain ⟨⟨n3, t5⟩, h1, h⟩ := bind_of h
      obtain ⟨⟨n4, t6⟩, h2, h⟩ := bind_of h
      obtain ⟨⟨n5, t7, n6⟩, h3, h⟩ := bind_of h
      have h := some_of h
      subst h
      have t_ := tF (rfl : false = false) <| tR (hrec_kinfolklaw02_own (T_kinfolkref02_Event.mk n2 t3 t4) _ h1) <| tR (hrec_kinfolklaw02_own (T_kinfolkref02_Event.mk n2 t3 t4) _ h1) <| tR (hrec_kinfolklaw02_own t2 _ h2) <| tR (event_Node_runs N n n3 t5 n4 t6 _ h3) <| tR (hrec_kinfolklaw02_own t2 _ h2) <| tR (event_Node_runs N n n3 t5 n4 t6 _ h3) <| tN
      exact runs_of (C := cfg) (objs := []) (sc := t_.ev) (.k1 t_.pf (by kernel_rfl) (by kernel_rfl))
noncomputable def kinfolklaw02_own : Nat → T_kinfolkref02_Event → Option (Int × T_event_halves)
  | 0, _ => none
  | N + 1, x => kinfolklaw02_own_b N (kinfolklaw02_own N) x
theorem kinfolklaw02_own_runs : ∀ (N : Nat) (x : T_kinfolkref02_Event) (r_ : Int × T_event_halves), kinfolklaw02_own N x = some r_ → Runs Tryd.prog 117 [(.one (.pv (T_kinfolkref02_Event.pv x)))] [] [] (kinfolklaw02_own_out x r_)
  | 0, _, _, h => by cases h
  | N + 1, x, r_, h => kinfolklaw02_own_b_runs N (kinfolklaw02_own N) (kinfolklaw02_own_runs N) x r_ h
/-! ### kinfolklaw02_made -/
noncomputable def kinfolklaw02_made (N : Nat) (p : List Int) : Option (Int × T_event_halves × T_kinfolkref02_Event) :=
  bif decide ((0 : Int) ≤ 0) && decide ((0 : Int) ≤ (if (60 : Int) < ((p).length : Int) then 60 else ((p).length : Int))) && decide (((if (60 : Int) < ((p).length : Int) then 60 else ((p).length : Int)) : Int) ≤ ((p).length : Int)) && decide (((if (60 : Int) < ((p).length : Int) then 60 else ((p).length : Int)) : Int) = (if (60 : Int) < ((p).length : Int) then 60 else ((p).length : Int))) then
  (kinfolkref02_Make N (List.take ((if (60 : Int) < ((p).length : Int) then 60 else ((p).length : Int)) - 0).toNat p) 6).bind fun (t, l_) =>
  (kinfolklaw02_own N t).bind fun (n, t2) =>
  some (n, t2, t)
  else none
theorem kinfolklaw02_made_runs (N : Nat) (p : List Int) (r_ : Int × T_event_halves × T_kinfolkref02_Event) (h : kinfolklaw02_made N p = some r_) : Runs Tryd.prog 55 [(.one (.pv (.ints .u8 p false)))] [] [] (kinfolklaw02_made_out p r_) := by
  unfold kinfolklaw02_made at h
  obtain ⟨h1, h⟩ := need_of h
  obtain ⟨⟨t, l_⟩, h2, h⟩ := bind_of h
  obtain ⟨⟨n, t2⟩, h3, h⟩ := bind_of h
  have h := some_of h
  subst h
  have t_ := tO h1 <| tR (kinfolkref02_Make_runs N (List.take ((if (60 : Int) < ((p).length : Int) then 60 else ((p).length : Int)) - 0).toNat p) 6 _ h2) <| tR (kinfolklaw02_own_runs N t _ h3) <| tN
  exact runs_of (C := cfg) (objs := []) (sc := t_.ev) (.k0 t_.pf (by kernel_rfl))
/-! ### event_Event_Base_out -/
def event_Event_Base_out (e : Int) (e2 : T_event_halves) : Unit → Res
  | _ => ([(.one (.pv (.int .u64 e)))], [], [])
/-! ### event_Event_Base -/
noncomputable def event_Event_Base (e : Int) (e2 : T_event_halves) : Option (Unit) :=
  some ()
theorem event_Event_Base_runs (e : Int) (e2 : T_event_halves) (r_ : Unit) (h : event_Event_Base e e2 = some r_) : Runs Tryd.prog 63 [(.agg [(.pv (.int .u64 e)), (.pv (T_event_halves.pv e2))])] [] [] (event_Event_Base_out e e2 r_) := by
  unfold event_Event_Base at h
  have h := some_of h
  subst h
  have t_ := tN
  exact runs_of (C := cfg) (objs := []) (sc := t_.ev) (.k0 t_.pf (by kernel_rfl))
/-! ### kinfolklaw02_EventHalves_1_out -/
def kinfolklaw02_EventHalves_1_out (e : Int) (e2 : T_event_halves) (n : Int) : Int × T_event_halves → Res
  | (r1, r2) => ([(.agg [(.pv (.int .u64 r1)), (.pv (T_event_halves.pv r2))])], [], [])
/-! ### event_Event_IsLeaf_out -/
def event_Event_IsLeaf_out (e : Int) (e2 : T_event_halves) : Bool → Res
  | r1 => ([(.one (.pv (.bool r1)))], [], [])
/-! ### event_Event_IsLeaf -/
noncomputable def event_Event_IsLeaf (e : Int) (e2 : T_event_halves) : Option (Bool) :=
  match e2 with
  | .nil =>
    some true
  | .mk n t n2 t2 =>
    some false
theorem event_Event_IsLeaf_runs (e : Int) (e2 : T_event_halves) (r_ : Bool) (h : event_Event_IsLeaf e e2 = some r_) : Runs Tryd.prog 64 [(.agg [(.pv (.int .u64 e)), (.pv (T_event_halves.pv e2))])] [] [] (event_Event_IsLeaf_out e e2 r_) := by
  unfold event_Event_IsLeaf at h
  cases e2 with
  | nil =>
    have h := some_of h
    subst h
    have t_ := tN
    exact runs_of (C := cfg) (objs := []) (sc := t_.ev) (.k0 t_.pf (by kernel_rfl))
  | mk n t n2 t2 =>
    have h := some_of h
    subst h
    have t_ := tN
    exact runs_of (C := cfg) (objs := []) (sc := t_.ev) (.k0 t_.pf (by kernel_rfl))
/-! ### kinfolklaw02_EventHalves_1 -/
noncomputable def kinfolklaw02_EventHalves_1 (N : Nat) (e : Int) (e2 : T_event_halves) (n : Int) : Option (Int × T_event_halves) :=
  (event_Event_Base e e2).bind fun _ =>
  (event_Leaf (iadd .u64 n e)).bind fun (n2, n3) =>
  (event_Event_IsLeaf e e2).bind fun b =>
  bif b then
    some (n2, T_event_halves.nil)
  else
    (event_Event_Left e e2).bind fun (n4, t) =>
    (event_Event_Right e e2).bind fun (n5, t2) =>
    (event_Node N (iadd .u64 n e) n4 t n5 t2).bind fun (n6, t3, n7) =>
    some (n6, t3)
theorem kinfolklaw02_EventHalves_1_runs (N : Nat) (e : Int) (e2 : T_event_halves) (n : Int) (r_ : Int × T_event_halves) (h : kinfolklaw02_EventHalves_1 N e e2 n = some r_) : Runs Tryd.prog 62 [(.agg [(.pv (.int .u64 e)), (.pv (T_event_halves.pv e2))]), (.one (.pv (.int .u64 n)))] [] [] (kinfolklaw02_EventHalves_1_out e e2 n r_) := by
  unfold kinfolklaw02_EventHalves_1 at h
  obtain ⟨_, h1, h⟩ := bind_of h
  obtain ⟨⟨n2, n3⟩, h2, h⟩ := bind_of h
  obtain ⟨b, h3, h⟩ := bind_of h
  rcases cond_of h with ⟨h4, h⟩ | ⟨h4, h⟩
  · have h := some_of h
    subst h
    have t_ := tR (event_Event_Base_runs e e2 _ h1) <| tR (event_Leaf_runs (iadd .u64 n e) _ h2) <| tR (event_Event_IsLeaf_runs e e2 _ h3) <| tF (not_of2 h4) <| tN
    exact runs_of (C := cfg) (objs := []) (sc := t_.ev) (.k0 t_.pf (by kernel_rfl))
  · obtain ⟨⟨n4, t⟩, h5, h⟩ := bind_of h
    obtain ⟨⟨n5, t2⟩, h6, h⟩ := bind_of h
    obtain ⟨⟨n6, t3, n7⟩, h7, h⟩ := bind_of h
    have h := some_of h
    subst h
    have t_ := tR (event_Event_Base_runs e e2 _ h1) <| tR (event_Leaf_runs (iadd .u64 n e) _ h2) <| tR (event_Event_IsLeaf_runs e e2 _ h3) <| tT (not_of h4) <| tR (event_Event_Base_runs e e2 _ h1) <| tR (event_Event_Base_runs e e2 _ h1) <| tR (event_Event_Base_runs e e2 _ h1) <| tR (event_Event_Base_runs e e2 _ h1) <| tR (event_Event_Left_runs e e2 _ h5) <| tR (event_Event_Left_runs e e2 _ h5) <| tR (event_Event_Right_runs e e2 _ h6) <| tR (event_Node_runs N (iadd .u64 n e) n4 t n5 t2 _ h7) <| tN
    exact runs_of (C := cfg) (objs := []) (sc := t_.ev) (.k1 t_.pf (by kernel_rfl) (by kernel_rfl))
/-! ### event_Leq_out -/
def event_Leq_out (a : Int) (a2 : T_event_halves) (b : Int) (b2 : T_event_halves) : Bool → Res
  | r1 => ([(.one (.pv (.bool r1)))], [], [])
/-! ### event_Leq -/
noncomputable def event_Leq_b (rec_event_Leq : Int → T_event_halves → Int → T_event_halves → Option (Bool)) (a : Int) (a2 : T_event_halves) (b : Int) (b2 : T_event_halves) : Option (Bool) :=
  match a2 with
  | .nil =>
    some (decide ((a : Int) ≤ b))
  | .mk n t n2 t2 =>
    bif (decide ((b : Int) < a)) then
      match b2 with
      | .nil =>
        some false
      | .mk n3 t3 n4 t4 =>
        (event_Event_up n t a).bind fun n5 =>
        (event_Event_Left b b2).bind fun (n6, t5) =>
        (event_Event_up n6 t5 b).bind fun n7 =>
        (rec_event_Leq n5 t n7 t5).bind fun b3 =>
        bif b3 then
          (event_Event_up n2 t2 a).bind fun n8 =>
          (event_Event_Right b b2).bind fun (n9, t6) =>
          (event_Event_up n9 t6 b).bind fun n10 =>
          (rec_event_Leq n8 t2 n10 t6).bind fun b4 =>
          some b4
        else
          some false
    else
      (event_Event_up n t a).bind fun n3 =>
      (event_Event_Left b b2).bind fun (n4, t3) =>
      (event_Event_up n4 t3 b).bind fun n5 =>
      (rec_event_Leq n3 t n5 t3).bind fun b3 =>
      bif b3 then
        (event_Event_up n2 t2 a).bind fun n6 =>
        (event_Event_Right b b2).bind fun (n7, t4) =>
        (event_Event_up n7 t4 b).bind fun n8 =>
        (rec_event_Leq n6 t2 n8 t4).bind fun b4 =>
        some b4
      else
        some false
theorem event_Leq_b_runs (rec_event_Leq : Int → T_event_halves → Int → T_event_halves → Option (Bool)) (hrec_event_Leq : ∀ a a2 b b2 r_, rec_event_Leq a a2 b b2 = some r_ → Runs Tryd.prog 61 [(.agg [(.pv (.int .u64 a)), (.pv (T_event_halves.pv a2))]), (.agg [(.pv (.int .u64 b)), (.pv (T_event_halves.pv b2))])] [] [] (event_Leq_out a a2 b b2 r_)) (a : Int) (a2 : T_event_halves) (b : Int) (b2 : T_event_halves) (r_ : Bool) (h : event_Leq_b rec_event_Leq a a2 b b2 = some r_) : Runs Tryd.prog 61 [(.agg [(.pv (.int .u64 a)), (.pv (T_event_halves.pv a2))]), (.agg [(.pv (.int .u64 b)), (.pv (T_event_halves.pv b2))])] [] [] (event_Leq_out a a2 b b2 r_) := by
  unfold event_Leq_b at h
  cases a2 with
  | nil =>
    have h := some_of h
    subst h
    have t_ := tT (rfl : true = true) <| tN
    exact runs_of (C := cfg) (objs := []) (sc := t_.ev) (.k0 t_.pf (by kernel_rfl))
  | mk n t n2 t2 =>
    rcases cond_of h with ⟨h1, h⟩ | ⟨h1, h⟩
    · cases b2 with
      | nil =>
        have h := some_of h
        subst h
        have t_ := tF (rfl : false = false) <| tT h1 <| tT (rfl : true = true) <| tN
        exact runs_of (C := cfg) (objs := []) (sc := t_.ev) (.k0 t_.pf (by kernel_rfl))
      | mk n3 t3 n4 t4 =>
        obtain ⟨n5, h2, h⟩ := bind_of h
        obtain ⟨⟨n6, t5⟩, h3, h⟩ := bind_of h
        obtain ⟨n7, h4, h⟩ := bind_of h
        obtain ⟨b3, h5, h⟩ := bind_of h
        have p7_ := fun {sc_ : List Ev} {Q_ : Prop} (t_ : Tell sc_ Q_) => tF (rfl : false = false) <| tT h1 <| tF (rfl : false = false) <| tR (event_Event_up_runs n t a _ h2) <| tR (event_Event_up_runs n t a _ h2) <| tR (event_Event_up_runs n t a _ h2) <| tR (event_Event_up_runs n t a _ h2) <| tR (event_Event_Left_runs b (T_event_halves.mk n3 t3 n4 t4) _ h3) <| tR (event_Event_Left_runs b (T_event_halves.mk n3 t3 n4 t4) _ h3) <| tR (event_Event_up_runs n6 t5 b _ h4) <| tR (hrec_event_Leq n5 t n7 t5 _ h5) <| t_
        rcases cond_of h with ⟨h6, h⟩ | ⟨h6, h⟩
        · obtain ⟨n8, h7, h⟩ := bind_of h
          obtain ⟨⟨n9, t6⟩, h8, h⟩ := bind_of h
          obtain ⟨n10, h9, h⟩ := bind_of h
          obtain ⟨b4, h10, h⟩ := bind_of h
          have h := some_of h
          subst h
          have t_ := p7_ <| tT h6 <| tR (event_Event_up_runs n2 t2 a _ h7) <| tR (event_Event_up_runs n2 t2 a _ h7) <| tR (event_Event_up_runs n2 t2 a _ h7) <| tR (event_Event_up_runs n2 t2 a _ h7) <| tR (event_Event_Right_runs b (T_event_halves.mk n3 t3 n4 t4) _ h8) <| tR (event_Event_Right_runs b (T_event_halves.mk n3 t3 n4 t4) _ h8) <| tR (event_Event_up_runs n9 t6 b _ h9) <| tR (hrec_event_Leq n8 t2 n10 t6 _ h10) <| tN
          exact runs_of (C := cfg) (objs := []) (sc := t_.ev) (.k1 t_.pf (by kernel_rfl) (by kernel_rfl))
        · have h := some_of h
          subst h
          have t_ := p7_ <| tF h6 <| tN
          exact runs_of (C := cfg) (objs := []) (sc := t_.ev) (.k1 t_.pf (by kernel_rfl) (by kernel_rfl))
    · obtain ⟨n3, h2, h⟩ := bind_of h
      obtain ⟨⟨n4, t3⟩, h3, h⟩ := bind_of h
      obtain ⟨n5, h4, h⟩ := bind_of h
      obtain ⟨b3, h5, h⟩ := bind_of h
      have p6_ := fun {sc_ : List Ev} {Q_ : Prop} (t_ : Tell sc_ Q_) => tF (rfl : false = false) <| tF h1 <| tF (rfl : false = false) <| tR (event_Event_up_runs n t a _ h2) <| tR (event_Event_up_runs n t a _ h2) <| tR (event_Event_up_runs n t a _ h2) <| tR (event_Event_up_runs n t a _ h2) <| tR (event_Event_Left_runs b b2 _ h3) <| tR (event_Event_Left_runs b b2 _ h3) <| tR (event_Event_up_runs n4 t3 b _ h4) <| tR (hrec_event_Leq n3 t n5 t3 _ h5) <| t_
      rcases cond_of h with ⟨h6, h⟩ | ⟨h6, h⟩
      · obtain ⟨n6, h7, h⟩ := bind_of h
        obtain ⟨⟨n7, t4⟩, h8, h⟩ := bind_of h
        obtain ⟨n8, h9, h⟩ := bind_of h
        obtain ⟨b4, h10, h⟩ := bind_of h
        have h := some_of h
        subst h
        have t_ := p6_ <| tT h6 <| tR (event_Event_up_runs n2 t2 a _ h7) <| tR (event_Event_up_runs n2 t2 a _ h7) <| tR (event_Event_up_runs n2 t2 a _ h7) <| tR (event_Event_up_runs n2 t2 a _ h7) <| tR (event_Event_Right_runs b b2 _ h8) <| tR (event_Event_Right_runs b b2 _ h8) <| tR (event_Event_up_runs n7 t4 b _ h9) <| tR (hrec_event_Leq n6 t2 n8 t4 _ h10) <| tN
        exact runs_of (C := cfg) (objs := []) (sc := t_.ev) (.k1 t_.pf (by kernel_rfl) (by kernel_rfl))
      · have h := some_of h
        subst h
        have t_ := p6_ <| tF h6 <| tN
        exact runs_of (C := cfg) (objs := []) (sc := t_.ev) (.k1 t_.pf (by kernel_rfl) (by kernel_rfl))
noncomputable def event_Leq : Nat → Int → T_event_halves → Int → T_event_halves → Option (Bool)
  | 0, _, _, _, _ => none
  | N + 1, a, a2, b, b2 => event_Leq_b (event_Leq N) a a2 b b2
theorem event_Leq_runs : ∀ (N : Nat) (a : Int) (a2 : T_event_halves) (b : Int) (b2 : T_event_halves) (r_ : Bool), event_Leq N a a2 b b2 = some r_ → Runs Tryd.prog 61 [(.agg [(.pv (.int .u64 a)), (.pv (T_event_halves.pv a2))]), (.agg [(.pv (.int .u64 b)), (.pv (T_event_halves.pv b2))])] [] [] (event_Leq_out a a2 b b2 r_)
  | 0, _, _, _, _, _, h => by cases h
  | N + 1, a, a2, b, b2, r_, h => event_Leq_b_runs (event_Leq N) (event_Leq_runs N) a a2 b b2 r_ h
/-! ### event_Same_out -/
def event_Same_out (a : Int) (a2 : T_event_halves) (b : Int) (b2 : T_event_halves) : Bool → Res
  | r1 => ([(.one (.pv (.bool r1)))], [], [])

end Go.Proofs.YtjjakdmcnkldoaaDoor
