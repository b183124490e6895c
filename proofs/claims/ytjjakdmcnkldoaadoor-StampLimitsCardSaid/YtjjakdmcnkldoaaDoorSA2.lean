/- What functions compute, and that they do. -/
import Derived.Test.YtjjakdmcnkldoaaDoorSA1
set_option linter.unusedVariables false
set_option linter.unusedSimpArgs false
set_option maxRecDepth 100000
namespace Go.Proofs.YtjjakdmcnkldoaaDoor
open Go.Ev

/-! ### id_ID_Text -/
noncomputable def id_ID_Text_b (rec_id_ID_Text : Bool → T_id_halves → Option (ByteArray)) (i : Bool) (i2 : T_id_halves) : Option (ByteArray) :=
  (id_ID_IsZero i i2).bind fun b =>
  bif b then
    some (⟨#[48]⟩ : ByteArray)
  else
    (id_ID_IsOne i i2).bind fun _ =>
    bif i then
      some (⟨#[49]⟩ : ByteArray)
    else
      match i2 with
      | .nil =>
        none
      | .mk b2 t b3 t2 =>
        (rec_id_ID_Text b2 t).bind fun s =>
        bif decide ((⟨#[40]⟩ : ByteArray).size + s.size ≤ 140737488355328) then
        bif decide (((⟨#[40]⟩ : ByteArray) ++ s).size + (⟨#[44]⟩ : ByteArray).size ≤ 140737488355328) then
        (rec_id_ID_Text b3 t2).bind fun s2 =>
        bif decide ((((⟨#[40]⟩ : ByteArray) ++ s) ++ (⟨#[44]⟩ : ByteArray)).size + s2.size ≤ 140737488355328) then
        bif decide (((((⟨#[40]⟩ : ByteArray) ++ s) ++ (⟨#[44]⟩ : ByteArray)) ++ s2).size + (⟨#[41]⟩ : ByteArray).size ≤ 140737488355328) then
        some (((((⟨#[40]⟩ : ByteArray) ++ s) ++ (⟨#[44]⟩ : ByteArray)) ++ s2) ++ (⟨#[41]⟩ : ByteArray))
        else none
        else none
        else none
        else none
theorem id_ID_Text_b_runs (rec_id_ID_Text : Bool → T_id_halves → Option (ByteArray)) (hrec_id_ID_Text : ∀ i i2 r_, rec_id_ID_Text i i2 = some r_ → Runs Tryd.prog 79 [(.agg [(.pv (.bool i)), (.pv (T_id_halves.pv i2))])] [] [] (id_ID_Text_out i i2 r_)) (i : Bool) (i2 : T_id_halves) (r_ : ByteArray) (h : id_ID_Text_b rec_id_ID_Text i i2 = some r_) : Runs Tryd.prog 79 [(.agg [(.pv (.bool i)), (.pv (T_id_halves.pv i2))])] [] [] (id_ID_Text_out i i2 r_) := by
  unfold id_ID_Text_b at h
  obtain ⟨b, h1, h⟩ := bind_of h
  rcases cond_of h with ⟨h2, h⟩ | ⟨h2, h⟩
  · have h := some_of h
    subst h
    exact runs_of (C := cfg) (objs := []) (sc := [.res (id_ID_IsZero_out i i2 b), .br true]) (.k0 (an_ (id_ID_IsZero_runs i i2 _ h1) (an_ h2 trivial)) (by kernel_rfl))
  · obtain ⟨_, h3, h⟩ := bind_of h
    rcases cond_of h with ⟨h4, h⟩ | ⟨h4, h⟩
    · have h := some_of h
      subst h
      exact runs_of (C := cfg) (objs := []) (sc := [.res (id_ID_IsZero_out i i2 b), .br false, .res (id_ID_IsOne_out i i2 ()), .br true]) (.k0 (an_ (id_ID_IsZero_runs i i2 _ h1) (an_ h2 (an_ (id_ID_IsOne_runs i i2 _ h3) (an_ h4 trivial)))) (by kernel_rfl))
    · cases i2 with
      | nil =>
        cases h
      | mk b2 t b3 t2 =>
        obtain ⟨s, h5, h⟩ := bind_of h
        obtain ⟨h6, h⟩ := need_of h
        obtain ⟨h7, h⟩ := need_of h
        obtain ⟨s2, h8, h⟩ := bind_of h
        obtain ⟨h9, h⟩ := need_of h
        obtain ⟨h10, h⟩ := need_of h
        have h := some_of h
        subst h
        exact runs_of (C := cfg) (objs := []) (sc := [.res (id_ID_IsZero_out i (T_id_halves.mk b2 t b3 t2) b), .br false, .res (id_ID_IsOne_out i (T_id_halves.mk b2 t b3 t2) ()), .br false, .res (id_ID_Text_out b2 t s), .res (id_ID_Text_out b2 t s), .res (id_ID_Text_out b3 t2 s2)]) (.k1 (an_ (id_ID_IsZero_runs i (T_id_halves.mk b2 t b3 t2) _ h1) (an_ h2 (an_ (id_ID_IsOne_runs i (T_id_halves.mk b2 t b3 t2) _ h3) (an_ h4 (an_ (hrec_id_ID_Text b2 t _ h5) (an_ h6 (an_ h7 (an_ (hrec_id_ID_Text b2 t _ h5) (an_ h6 (an_ h7 (an_ (hrec_id_ID_Text b3 t2 _ h8) (an_ h9 (an_ h10 trivial))))))))))))) (by kernel_rfl) (by kernel_rfl))
noncomputable def id_ID_Text : Nat → Bool → T_id_halves → Option (ByteArray)
  | 0, _, _ => none
  | N + 1, i, i2 => id_ID_Text_b (id_ID_Text N) i i2
theorem id_ID_Text_runs : ∀ (N : Nat) (i : Bool) (i2 : T_id_halves) (r_ : ByteArray), id_ID_Text N i i2 = some r_ → Runs Tryd.prog 79 [(.agg [(.pv (.bool i)), (.pv (T_id_halves.pv i2))])] [] [] (id_ID_Text_out i i2 r_)
  | 0, _, _, _, h => by cases h
  | N + 1, i, i2, r_, h => id_ID_Text_b_runs (id_ID_Text N) (id_ID_Text_runs N) i i2 r_ h
/-! ### event_Event_Text_out -/
def event_Event_Text_out (e : Int) (e2 : T_event_halves) : ByteArray → Res
  | r1 => ([(.one (.pv (.str r1)))], [], [])
/-! ### strconv_FormatUint_out -/
def strconv_FormatUint_out (i : Int) (base : Int) : ByteArray → Res
  | r1 => ([(.one (.pv (.str r1)))], [], [])
/-! ### strconv_FormatUint -/
noncomputable def strconv_FormatUint (i : Int) (base : Int) : Option (ByteArray) :=
  (strconv_FormatUint10 i base).bind fun s =>
  some s
theorem strconv_FormatUint_runs (i : Int) (base : Int) (r_ : ByteArray) (h : strconv_FormatUint i base = some r_) : Runs Tryd.prog 97 [(.one (.pv (.int .u64 i))), (.one (.pv (.int .i64 base)))] [] [] (strconv_FormatUint_out i base r_) := by
  unfold strconv_FormatUint at h
  obtain ⟨s, h1, h⟩ := bind_of h
  have h := some_of h
  subst h
  exact runs_of (C := cfg) (objs := []) (sc := [.res (strconv_FormatUint10_out i base s)]) (.k0 (an_ (strconv_FormatUint10_runs i base _ h1) trivial) (by kernel_rfl))
/-! ### event_Event_Text -/
noncomputable def event_Event_Text_b (rec_event_Event_Text : Int → T_event_halves → Option (ByteArray)) (e : Int) (e2 : T_event_halves) : Option (ByteArray) :=
  (strconv_FormatUint e 10).bind fun s =>
  match e2 with
  | .nil =>
    some s
  | .mk n t n2 t2 =>
    bif decide ((⟨#[40]⟩ : ByteArray).size + s.size ≤ 140737488355328) then
    bif decide (((⟨#[40]⟩ : ByteArray) ++ s).size + (⟨#[44]⟩ : ByteArray).size ≤ 140737488355328) then
    (rec_event_Event_Text n t).bind fun s2 =>
    bif decide ((((⟨#[40]⟩ : ByteArray) ++ s) ++ (⟨#[44]⟩ : ByteArray)).size + s2.size ≤ 140737488355328) then
    bif decide (((((⟨#[40]⟩ : ByteArray) ++ s) ++ (⟨#[44]⟩ : ByteArray)) ++ s2).size + (⟨#[44]⟩ : ByteArray).size ≤ 140737488355328) then
    (rec_event_Event_Text n2 t2).bind fun s3 =>
    bif decide ((((((⟨#[40]⟩ : ByteArray) ++ s) ++ (⟨#[44]⟩ : ByteArray)) ++ s2) ++ (⟨#[44]⟩ : ByteArray)).size + s3.size ≤ 140737488355328) then
    bif decide (((((((⟨#[40]⟩ : ByteArray) ++ s) ++ (⟨#[44]⟩ : ByteArray)) ++ s2) ++ (⟨#[44]⟩ : ByteArray)) ++ s3).size + (⟨#[41]⟩ : ByteArray).size ≤ 140737488355328) then
    some (((((((⟨#[40]⟩ : ByteArray) ++ s) ++ (⟨#[44]⟩ : ByteArray)) ++ s2) ++ (⟨#[44]⟩ : ByteArray)) ++ s3) ++ (⟨#[41]⟩ : ByteArray))
    else none
    else none
    else none
    else none
    else none
    else none
theorem event_Event_Text_b_runs (rec_event_Event_Text : Int → T_event_halves → Option (ByteArray)) (hrec_event_Event_Text : ∀ e e2 r_, rec_event_Event_Text e e2 = some r_ → Runs Tryd.prog 21 [(.agg [(.pv (.int .u64 e)), (.pv (T_event_halves.pv e2))])] [] [] (event_Event_Text_out e e2 r_)) (e : Int) (e2 : T_event_halves) (r_ : ByteArray) (h : event_Event_Text_b rec_event_Event_Text e e2 = some r_) : Runs Tryd.prog 21 [(.agg [(.pv (.int .u64 e)), (.pv (T_event_halves.pv e2))])] [] [] (event_Event_Text_out e e2 r_) := by
  unfold event_Event_Text_b at h
  obtain ⟨s, h1, h⟩ := bind_of h
  cases e2 with
  | nil =>
    have h := some_of h
    subst h
    exact runs_of (C := cfg) (objs := []) (sc := [.res (strconv_FormatUint_out e 10 s), .br true]) (.k0 (an_ (strconv_FormatUint_runs e 10 _ h1) (an_ (rfl : true = true) trivial)) (by kernel_rfl))
  | mk n t n2 t2 =>
    obtain ⟨h2, h⟩ := need_of h
    obtain ⟨h3, h⟩ := need_of h
    obtain ⟨s2, h4, h⟩ := bind_of h
    obtain ⟨h5, h⟩ := need_of h
    obtain ⟨h6, h⟩ := need_of h
    obtain ⟨s3, h7, h⟩ := bind_of h
    obtain ⟨h8, h⟩ := need_of h
    obtain ⟨h9, h⟩ := need_of h
    have h := some_of h
    subst h
    exact runs_of (C := cfg) (objs := []) (sc := [.res (strconv_FormatUint_out e 10 s), .br false, .res (event_Event_Text_out n t s2), .res (event_Event_Text_out n t s2), .res (event_Event_Text_out n2 t2 s3)]) (.k1 (an_ (strconv_FormatUint_runs e 10 _ h1) (an_ (rfl : false = false) (an_ h2 (an_ h3 (an_ (hrec_event_Event_Text n t _ h4) (an_ h5 (an_ h6 (an_ (hrec_event_Event_Text n t _ h4) (an_ h5 (an_ h6 (an_ (hrec_event_Event_Text n2 t2 _ h7) (an_ h8 (an_ h9 trivial))))))))))))) (by kernel_rfl) (by kernel_rfl))
noncomputable def event_Event_Text : Nat → Int → T_event_halves → Option (ByteArray)
  | 0, _, _ => none
  | N + 1, e, e2 => event_Event_Text_b (event_Event_Text N) e e2
theorem event_Event_Text_runs : ∀ (N : Nat) (e : Int) (e2 : T_event_halves) (r_ : ByteArray), event_Event_Text N e e2 = some r_ → Runs Tryd.prog 21 [(.agg [(.pv (.int .u64 e)), (.pv (T_event_halves.pv e2))])] [] [] (event_Event_Text_out e e2 r_)
  | 0, _, _, _, h => by cases h
  | N + 1, e, e2, r_, h => event_Event_Text_b_runs (event_Event_Text N) (event_Event_Text_runs N) e e2 r_ h
/-! ### stamp_Stamp_Text -/
noncomputable def stamp_Stamp_Text (N : Nat) (s : Bool) (s2 : T_id_halves) (s3 : Int) (s4 : T_event_halves) : Option (ByteArray) :=
  (id_ID_Text N s s2).bind fun s5 =>
  bif decide ((⟨#[40]⟩ : ByteArray).size + s5.size ≤ 140737488355328) then
  bif decide (((⟨#[40]⟩ : ByteArray) ++ s5).size + (⟨#[59]⟩ : ByteArray).size ≤ 140737488355328) then
  (event_Event_Text N s3 s4).bind fun s6 =>
  bif decide ((((⟨#[40]⟩ : ByteArray) ++ s5) ++ (⟨#[59]⟩ : ByteArray)).size + s6.size ≤ 140737488355328) then
  bif decide (((((⟨#[40]⟩ : ByteArray) ++ s5) ++ (⟨#[59]⟩ : ByteArray)) ++ s6).size + (⟨#[41]⟩ : ByteArray).size ≤ 140737488355328) then
  some (((((⟨#[40]⟩ : ByteArray) ++ s5) ++ (⟨#[59]⟩ : ByteArray)) ++ s6) ++ (⟨#[41]⟩ : ByteArray))
  else none
  else none
  else none
  else none
theorem stamp_Stamp_Text_runs (N : Nat) (s : Bool) (s2 : T_id_halves) (s3 : Int) (s4 : T_event_halves) (r_ : ByteArray) (h : stamp_Stamp_Text N s s2 s3 s4 = some r_) : Runs Tryd.prog 83 [(.agg [(.pv (.bool s)), (.pv (T_id_halves.pv s2)), (.pv (.int .u64 s3)), (.pv (T_event_halves.pv s4))])] [] [] (stamp_Stamp_Text_out s s2 s3 s4 r_) := by
  unfold stamp_Stamp_Text at h
  obtain ⟨s5, h1, h⟩ := bind_of h
  obtain ⟨h2, h⟩ := need_of h
  obtain ⟨h3, h⟩ := need_of h
  obtain ⟨s6, h4, h⟩ := bind_of h
  obtain ⟨h5, h⟩ := need_of h
  obtain ⟨h6, h⟩ := need_of h
  have h := some_of h
  subst h
  exact runs_of (C := cfg) (objs := []) (sc := [.res (id_ID_Text_out s s2 s5), .res (id_ID_Text_out s s2 s5), .res (event_Event_Text_out s3 s4 s6)]) (.k1 (an_ (id_ID_Text_runs N s s2 _ h1) (an_ h2 (an_ (id_ID_Text_runs N s s2 _ h1) (an_ h2 (an_ h3 (an_ h3 (an_ (event_Event_Text_runs N s3 s4 _ h4) (an_ h5 (an_ h6 trivial))))))))) (by kernel_rfl) (by kernel_rfl))
/-! ### kinfolklaw04_awake -/
noncomputable def kinfolklaw04_awake (N : Nat) : Option (Bool) :=
  (stamp_Seed).bind fun _ =>
  (stamp_Stamp_Fork N true T_id_halves.nil 0 T_event_halves.nil).bind fun (b, t, n, t2, b2, t3, n2, t4, n3) =>
  (stamp_Stamp_Tick N b t n t2).bind fun (n4, t5, n5) =>
  bif (decide ((n3 : Int) = 0)) then
    bif (decide ((n5 : Int) = 0)) then
      (stamp_Stamp_Text N b t n t2).bind fun s =>
      bif (decide (s = (⟨#[40, 40, 49, 44, 48, 41, 59, 48, 41]⟩ : ByteArray))) then
        (stamp_Stamp_Text N b2 t3 n2 t4).bind fun s2 =>
        bif (decide (s2 = (⟨#[40, 40, 48, 44, 49, 41, 59, 48, 41]⟩ : ByteArray))) then
          (stamp_Stamp_Text N b t n4 t5).bind fun s3 =>
          some (decide (s3 = (⟨#[40, 40, 49, 44, 48, 41, 59, 40, 48, 44, 49, 44, 48, 41, 41]⟩ : ByteArray)))
        else
          some false
      else
        some false
    else
      some false
  else
    some false
theorem kinfolklaw04_awake_runs (N : Nat) (r_ : Bool) (h : kinfolklaw04_awake N = some r_) : Runs Tryd.prog 18 [] [] [] (kinfolklaw04_awake_out r_) := by
  unfold kinfolklaw04_awake at h
  obtain ⟨_, h1, h⟩ := bind_of h
  obtain ⟨⟨b, t, n, t2, b2, t3, n2, t4, n3⟩, h2, h⟩ := bind_of h
  obtain ⟨⟨n4, t5, n5⟩, h3, h⟩ := bind_of h
  rcases cond_of h with ⟨h4, h⟩ | ⟨h4, h⟩
  · rcases cond_of h with ⟨h5, h⟩ | ⟨h5, h⟩
    · obtain ⟨s, h6, h⟩ := bind_of h
      rcases cond_of h with ⟨h7, h⟩ | ⟨h7, h⟩
      · obtain ⟨s2, h8, h⟩ := bind_of h
        rcases cond_of h with ⟨h9, h⟩ | ⟨h9, h⟩
        · obtain ⟨s3, h10, h⟩ := bind_of h
          have h := some_of h
          subst h
          exact runs_of (C := cfg) (objs := []) (sc := [.res (stamp_Seed_out ()), .res (stamp_Stamp_Fork_out true T_id_halves.nil 0 T_event_halves.nil (b, t, n, t2, b2, t3, n2, t4, n3)), .res (stamp_Stamp_Tick_out b t n t2 (n4, t5, n5)), .br true, .br true, .res (stamp_Stamp_Text_out b t n t2 s), .br true, .res (stamp_Stamp_Text_out b2 t3 n2 t4 s2), .br true, .res (stamp_Stamp_Text_out b t n4 t5 s3)]) (.k0 (an_ (stamp_Seed_runs _ h1) (an_ (stamp_Stamp_Fork_runs N true T_id_halves.nil 0 T_event_halves.nil _ h2) (an_ (stamp_Stamp_Tick_runs N b t n t2 _ h3) (an_ h4 (an_ h5 (an_ (stamp_Stamp_Text_runs N b t n t2 _ h6) (an_ h7 (an_ (stamp_Stamp_Text_runs N b2 t3 n2 t4 _ h8) (an_ h9 (an_ (stamp_Stamp_Text_runs N b t n4 t5 _ h10) trivial)))))))))) (by kernel_rfl))
        · have h := some_of h
          subst h
          exact runs_of (C := cfg) (objs := []) (sc := [.res (stamp_Seed_out ()), .res (stamp_Stamp_Fork_out true T_id_halves.nil 0 T_event_halves.nil (b, t, n, t2, b2, t3, n2, t4, n3)), .res (stamp_Stamp_Tick_out b t n t2 (n4, t5, n5)), .br true, .br true, .res (stamp_Stamp_Text_out b t n t2 s), .br true, .res (stamp_Stamp_Text_out b2 t3 n2 t4 s2), .br false]) (.k0 (an_ (stamp_Seed_runs _ h1) (an_ (stamp_Stamp_Fork_runs N true T_id_halves.nil 0 T_event_halves.nil _ h2) (an_ (stamp_Stamp_Tick_runs N b t n t2 _ h3) (an_ h4 (an_ h5 (an_ (stamp_Stamp_Text_runs N b t n t2 _ h6) (an_ h7 (an_ (stamp_Stamp_Text_runs N b2 t3 n2 t4 _ h8) (an_ h9 trivial))))))))) (by kernel_rfl))
      · have h := some_of h
        subst h
        exact runs_of (C := cfg) (objs := []) (sc := [.res (stamp_Seed_out ()), .res (stamp_Stamp_Fork_out true T_id_halves.nil 0 T_event_halves.nil (b, t, n, t2, b2, t3, n2, t4, n3)), .res (stamp_Stamp_Tick_out b t n t2 (n4, t5, n5)), .br true, .br true, .res (stamp_Stamp_Text_out b t n t2 s), .br false, .br false]) (.k0 (an_ (stamp_Seed_runs _ h1) (an_ (stamp_Stamp_Fork_runs N true T_id_halves.nil 0 T_event_halves.nil _ h2) (an_ (stamp_Stamp_Tick_runs N b t n t2 _ h3) (an_ h4 (an_ h5 (an_ (stamp_Stamp_Text_runs N b t n t2 _ h6) (an_ h7 (an_ (rfl : false = false) trivial)))))))) (by kernel_rfl))
    · have h := some_of h
      subst h
      exact runs_of (C := cfg) (objs := []) (sc := [.res (stamp_Seed_out ()), .res (stamp_Stamp_Fork_out true T_id_halves.nil 0 T_event_halves.nil (b, t, n, t2, b2, t3, n2, t4, n3)), .res (stamp_Stamp_Tick_out b t n t2 (n4, t5, n5)), .br true, .br false, .br false, .br false]) (.k0 (an_ (stamp_Seed_runs _ h1) (an_ (stamp_Stamp_Fork_runs N true T_id_halves.nil 0 T_event_halves.nil _ h2) (an_ (stamp_Stamp_Tick_runs N b t n t2 _ h3) (an_ h4 (an_ h5 (an_ (rfl : false = false) (an_ (rfl : false = false) trivial))))))) (by kernel_rfl))
  · have h := some_of h
    subst h
    exact runs_of (C := cfg) (objs := []) (sc := [.res (stamp_Seed_out ()), .res (stamp_Stamp_Fork_out true T_id_halves.nil 0 T_event_halves.nil (b, t, n, t2, b2, t3, n2, t4, n3)), .res (stamp_Stamp_Tick_out b t n t2 (n4, t5, n5)), .br false, .br false, .br false, .br false]) (.k0 (an_ (stamp_Seed_runs _ h1) (an_ (stamp_Stamp_Fork_runs N true T_id_halves.nil 0 T_event_halves.nil _ h2) (an_ (stamp_Stamp_Tick_runs N b t n t2 _ h3) (an_ h4 (an_ (rfl : false = false) (an_ (rfl : false = false) (an_ (rfl : false = false) trivial))))))) (by kernel_rfl))
/-! ### kinfolklaw04_made_out -/
def kinfolklaw04_made_out (p : List Int) (q : List Int) : Bool × T_id_halves × Int × T_event_halves × T_kinfolkref01_ID × T_kinfolkref02_Event → Res
  | (r1, r2, r3, r4, r5, r6) => ([(.agg [(.pv (.bool r1)), (.pv (T_id_halves.pv r2)), (.pv (.int .u64 r3)), (.pv (T_event_halves.pv r4))]), (.agg [(.pv (T_kinfolkref01_ID.pv r5)), (.pv (T_kinfolkref02_Event.pv r6))])], [], [])
/-! ### kinfolkref01_Make_out -/
def kinfolkref01_Make_out (p : List Int) (most : Int) : T_kinfolkref01_ID × List Int → Res
  | (r1, r2) => ([(.one (.pv (T_kinfolkref01_ID.pv r1))), (.one (.pv (.ints .u8 r2 false)))], [], [])
/-! ### kinfolkref01_Zero_out -/
def kinfolkref01_Zero_out : T_kinfolkref01_ID → Res
  | r1 => ([(.one (.pv (T_kinfolkref01_ID.pv r1)))], [], [])
/-! ### kinfolkref01_Zero -/
noncomputable def kinfolkref01_Zero : Option (T_kinfolkref01_ID) :=
  some (T_kinfolkref01_ID.mk 0 T_kinfolkref01_ID.nil T_kinfolkref01_ID.nil)
theorem kinfolkref01_Zero_runs (r_ : T_kinfolkref01_ID) (h : kinfolkref01_Zero = some r_) : Runs Tryd.prog 49 [] [] [] (kinfolkref01_Zero_out r_) := by
  unfold kinfolkref01_Zero at h
  have h := some_of h
  subst h
  have e_ : Runs Tryd.prog 49 [] [] [] ([(.one (.pv (.imm [(.int .i64 0), .nilp, .nilp] 0)))], [], []) := runs_of (C := cfg) (objs := []) (sc := []) (.k0 (trivial) (by kernel_rfl))
  exact e_.out ⟨.eq rfl, trivial⟩ trivial trivial rfl
/-! ### kinfolkref01_Pair_out -/
def kinfolkref01_Pair_out (l : T_kinfolkref01_ID) (r : T_kinfolkref01_ID) : T_kinfolkref01_ID → Res
  | r1 => ([(.one (.pv (T_kinfolkref01_ID.pv r1)))], [], [])
/-! ### kinfolkref01_Pair -/
noncomputable def kinfolkref01_Pair (l : T_kinfolkref01_ID) (r : T_kinfolkref01_ID) : Option (T_kinfolkref01_ID) :=
  match l with
  | .nil =>
    none
  | .mk n t t2 =>
    match r with
    | .nil =>
      none
    | .mk n2 t3 t4 =>
      bif (decide ((n : Int) = n2)) then
        bif (decide ((n : Int) < 2)) then
          some l
        else
          some (T_kinfolkref01_ID.mk 2 l r)
      else
        some (T_kinfolkref01_ID.mk 2 l r)
theorem kinfolkref01_Pair_runs (l : T_kinfolkref01_ID) (r : T_kinfolkref01_ID) (r_ : T_kinfolkref01_ID) (h : kinfolkref01_Pair l r = some r_) : Runs Tryd.prog 111 [(.one (.pv (T_kinfolkref01_ID.pv l))), (.one (.pv (T_kinfolkref01_ID.pv r)))] [] [] (kinfolkref01_Pair_out l r r_) := by
  unfold kinfolkref01_Pair at h
  cases l with
  | nil =>
    cases h
  | mk n t t2 =>
    cases r with
    | nil =>
      cases h
    | mk n2 t3 t4 =>
      rcases cond_of h with ⟨h1, h⟩ | ⟨h1, h⟩
      · rcases cond_of h with ⟨h2, h⟩ | ⟨h2, h⟩
        · have h := some_of h
          subst h
          exact runs_of (C := cfg) (objs := []) (sc := [.br true, .br true]) (.k0 (an_ h1 (an_ h2 trivial)) (by kernel_rfl))
        · have h := some_of h
          subst h
          have e_ : Runs Tryd.prog 111 [(.one (.pv (T_kinfolkref01_ID.pv (T_kinfolkref01_ID.mk n t t2)))), (.one (.pv (T_kinfolkref01_ID.pv (T_kinfolkref01_ID.mk n2 t3 t4))))] [] [] ([(.one (.pv (.imm [(.int .i64 2), (T_kinfolkref01_ID.pv (T_kinfolkref01_ID.mk n t t2)), (T_kinfolkref01_ID.pv (T_kinfolkref01_ID.mk n2 t3 t4))] 0)))], [], []) := runs_of (C := cfg) (objs := []) (sc := [.br true, .br false]) (.k0 (an_ h1 (an_ h2 trivial)) (by kernel_rfl))
          exact e_.out ⟨.eq rfl, trivial⟩ trivial trivial rfl
      · have h := some_of h
        subst h
        have e_ : Runs Tryd.prog 111 [(.one (.pv (T_kinfolkref01_ID.pv (T_kinfolkref01_ID.mk n t t2)))), (.one (.pv (T_kinfolkref01_ID.pv (T_kinfolkref01_ID.mk n2 t3 t4))))] [] [] ([(.one (.pv (.imm [(.int .i64 2), (T_kinfolkref01_ID.pv (T_kinfolkref01_ID.mk n t t2)), (T_kinfolkref01_ID.pv (T_kinfolkref01_ID.mk n2 t3 t4))] 0)))], [], []) := runs_of (C := cfg) (objs := []) (sc := [.br false, .br false]) (.k0 (an_ h1 (an_ (rfl : false = false) trivial)) (by kernel_rfl))
        exact e_.out ⟨.eq rfl, trivial⟩ trivial trivial rfl
/-! ### kinfolkref01_Make -/
noncomputable def kinfolkref01_Make_b (rec_kinfolkref01_Make : List Int → Int → Option (T_kinfolkref01_ID × List Int)) (p : List Int) (most : Int) : Option (T_kinfolkref01_ID × List Int) :=
  bif (decide ((((p).length : Int) : Int) = 0)) then
    (kinfolkref01_Zero).bind fun t =>
    some (t, [])
  else
    bif decide ((0 : Int) ≤ 0) && decide ((0 : Int) < ((p).length : Int)) then
    bif decide ((0 : Int) ≤ 1) && decide ((1 : Int) ≤ ((p).length : Int)) && decide ((((p).length : Int) : Int) ≤ ((p).length : Int)) && decide ((((p).length : Int) : Int) = ((p).length : Int)) then
    bif (decide ((most : Int) = 0)) then
      some ((T_kinfolkref01_ID.mk (IntKind.i64.wrap (irem .u8 (p.getD 0 0) 2)) T_kinfolkref01_ID.nil T_kinfolkref01_ID.nil), (List.take (((p).length : Int) - 1).toNat (List.drop 1 p)))
    else
      bif (decide (((irem .u8 (p.getD 0 0) 4) : Int) < 2)) then
        some ((T_kinfolkref01_ID.mk (IntKind.i64.wrap (irem .u8 (p.getD 0 0) 2)) T_kinfolkref01_ID.nil T_kinfolkref01_ID.nil), (List.take (((p).length : Int) - 1).toNat (List.drop 1 p)))
      else
        (rec_kinfolkref01_Make (List.take (((p).length : Int) - 1).toNat (List.drop 1 p)) (isub .i64 most 1)).bind fun (t, l_) =>
        (rec_kinfolkref01_Make l_ (isub .i64 most 1)).bind fun (t2, l_2) =>
        (kinfolkref01_Pair t t2).bind fun t3 =>
        some (t3, l_2)
    else none
    else none
theorem kinfolkref01_Make_b_runs (rec_kinfolkref01_Make : List Int → Int → Option (T_kinfolkref01_ID × List Int)) (hrec_kinfolkref01_Make : ∀ p most r_, rec_kinfolkref01_Make p most = some r_ → Runs Tryd.prog 87 [(.one (.pv (.ints .u8 p false))), (.one (.pv (.int .i64 most)))] [] [] (kinfolkref01_Make_out p most r_)) (p : List Int) (most : Int) (r_ : T_kinfolkref01_ID × List Int) (h : kinfolkref01_Make_b rec_kinfolkref01_Make p most = some r_) : Runs Tryd.prog 87 [(.one (.pv (.ints .u8 p false))), (.one (.pv (.int .i64 most)))] [] [] (kinfolkref01_Make_out p most r_) := by
  unfold kinfolkref01_Make_b at h
  rcases cond_of h with ⟨h1, h⟩ | ⟨h1, h⟩
  · obtain ⟨t, h2, h⟩ := bind_of h
    have h := some_of h
    subst h
    have e_ : Runs Tryd.prog 87 [(.one (.pv (.ints .u8 p false))), (.one (.pv (.int .i64 most)))] [] [] ([(.one (.pv (T_kinfolkref01_ID.pv t))), (.one (.pv .nils))], [], []) := runs_of (C := cfg) (objs := []) (sc := [.br true, .res (kinfolkref01_Zero_out t)]) (.k0 (an_ h1 (an_ (kinfolkref01_Zero_runs _ h2) trivial)) (by kernel_rfl))
    exact e_.out ⟨.eq rfl, .pv (.nilsI), trivial⟩ trivial trivial rfl
  · obtain ⟨h2, h⟩ := need_of h
    obtain ⟨h3, h⟩ := need_of h
    rcases cond_of h with ⟨h4, h⟩ | ⟨h4, h⟩
    · have h := some_of h
      subst h
      have e_ : Runs Tryd.prog 87 [(.one (.pv (.ints .u8 p false))), (.one (.pv (.int .i64 most)))] [] [] ([(.one (.pv (.imm [(.int .i64 (IntKind.i64.wrap (irem .u8 (p.getD 0 0) 2))), .nilp, .nilp] 0))), (.one (.pv (.ints .u8 (List.take (((p).length : Int) - 1).toNat (List.drop 1 p)) false)))], [], []) := runs_of (C := cfg) (objs := []) (sc := [.br false, .br true, .br true]) (.k0 (an_ h1 (an_ h2 (an_ h3 (an_ h4 (an_ (rfl : true = true) (an_ (rfl : true = true) trivial)))))) (by kernel_rfl))
      exact e_.out ⟨.eq rfl, .eq rfl, trivial⟩ trivial trivial rfl
    · rcases cond_of h with ⟨h5, h⟩ | ⟨h5, h⟩
      · have h := some_of h
        subst h
        have e_ : Runs Tryd.prog 87 [(.one (.pv (.ints .u8 p false))), (.one (.pv (.int .i64 most)))] [] [] ([(.one (.pv (.imm [(.int .i64 (IntKind.i64.wrap (irem .u8 (p.getD 0 0) 2))), .nilp, .nilp] 0))), (.one (.pv (.ints .u8 (List.take (((p).length : Int) - 1).toNat (List.drop 1 p)) false)))], [], []) := runs_of (C := cfg) (objs := []) (sc := [.br false, .br false, .br true]) (.k0 (an_ h1 (an_ h2 (an_ h3 (an_ h4 (an_ (rfl : true = true) (an_ h5 (an_ (rfl : true = true) trivial))))))) (by kernel_rfl))
        exact e_.out ⟨.eq rfl, .eq rfl, trivial⟩ trivial trivial rfl
      · obtain ⟨⟨t, l_⟩, h6, h⟩ := bind_of h
        obtain ⟨⟨t2, l_2⟩, h7, h⟩ := bind_of h
        obtain ⟨t3, h8, h⟩ := bind_of h
        have h := some_of h
        subst h
        exact runs_of (C := cfg) (objs := []) (sc := [.br false, .br false, .br false, .res (kinfolkref01_Make_out (List.take (((p).length : Int) - 1).toNat (List.drop 1 p)) (isub .i64 most 1) (t, l_)), .res (kinfolkref01_Make_out l_ (isub .i64 most 1) (t2, l_2)), .res (kinfolkref01_Pair_out t t2 t3)]) (.k0 (an_ h1 (an_ h2 (an_ h3 (an_ h4 (an_ (rfl : true = true) (an_ h5 (an_ (hrec_kinfolkref01_Make (List.take (((p).length : Int) - 1).toNat (List.drop 1 p)) (isub .i64 most 1) _ h6) (an_ (hrec_kinfolkref01_Make l_ (isub .i64 most 1) _ h7) (an_ (kinfolkref01_Pair_runs t t2 _ h8) trivial))))))))) (by kernel_rfl))
noncomputable def kinfolkref01_Make : Nat → List Int → Int → Option (T_kinfolkref01_ID × List Int)
  | 0, _, _ => none
  | N + 1, p, most => kinfolkref01_Make_b (kinfolkref01_Make N) p most
theorem kinfolkref01_Make_runs : ∀ (N : Nat) (p : List Int) (most : Int) (r_ : T_kinfolkref01_ID × List Int), kinfolkref01_Make N p most = some r_ → Runs Tryd.prog 87 [(.one (.pv (.ints .u8 p false))), (.one (.pv (.int .i64 most)))] [] [] (kinfolkref01_Make_out p most r_)
  | 0, _, _, _, h => by cases h
  | N + 1, p, most, r_, h => kinfolkref01_Make_b_runs (kinfolkref01_Make N) (kinfolkref01_Make_runs N) p most r_ h
/-! ### kinfolkref02_Make_out -/
def kinfolkref02_Make_out (p : List Int) (most : Int) : T_kinfolkref02_Event × List Int → Res
  | (r1, r2) => ([(.one (.pv (T_kinfolkref02_Event.pv r1))), (.one (.pv (.ints .u8 r2 false)))], [], [])
/-! ### kinfolkref02_Leaf_out -/
def kinfolkref02_Leaf_out (n : Int) : T_kinfolkref02_Event → Res
  | r1 => ([(.one (.pv (T_kinfolkref02_Event.pv r1)))], [], [])
/-! ### kinfolkref02_Leaf -/
noncomputable def kinfolkref02_Leaf (n : Int) : Option (T_kinfolkref02_Event) :=
  some (T_kinfolkref02_Event.mk n T_kinfolkref02_Event.nil T_kinfolkref02_Event.nil)
theorem kinfolkref02_Leaf_runs (n : Int) (r_ : T_kinfolkref02_Event) (h : kinfolkref02_Leaf n = some r_) : Runs Tryd.prog 59 [(.one (.pv (.int .u64 n)))] [] [] (kinfolkref02_Leaf_out n r_) := by
  unfold kinfolkref02_Leaf at h
  have h := some_of h
  subst h
  have e_ : Runs Tryd.prog 59 [(.one (.pv (.int .u64 n)))] [] [] ([(.one (.pv (.imm [(.int .u64 n), .nilp, .nilp] 0)))], [], []) := runs_of (C := cfg) (objs := []) (sc := []) (.k0 (trivial) (by kernel_rfl))
  exact e_.out ⟨.eq rfl, trivial⟩ trivial trivial rfl
/-! ### kinfolkref02_Node_out -/
def kinfolkref02_Node_out (n : Int) (l : T_kinfolkref02_Event) (r : T_kinfolkref02_Event) : T_kinfolkref02_Event → Res
  | r1 => ([(.one (.pv (T_kinfolkref02_Event.pv r1)))], [], [])
/-! ### kinfolkref02_Min_out -/
def kinfolkref02_Min_out (e : T_kinfolkref02_Event) : Int → Res
  | r1 => ([(.one (.pv (.int .u64 r1)))], [], [])
/-! ### kinfolkref02_Min -/
noncomputable def kinfolkref02_Min_b (rec_kinfolkref02_Min : T_kinfolkref02_Event → Option (Int)) (e : T_kinfolkref02_Event) : Option (Int) :=
  match e with
  | .nil =>
    none
  | .mk n t t2 =>
    match t with
    | .nil =>
      some n
    | .mk n2 t3 t4 =>
      (rec_kinfolkref02_Min t).bind fun n3 =>
      (rec_kinfolkref02_Min t2).bind fun n4 =>
      bif (decide ((n3 : Int) < n4)) then
        some (iadd .u64 n n3)
      else
        some (iadd .u64 n n4)
theorem kinfolkref02_Min_b_runs (rec_kinfolkref02_Min : T_kinfolkref02_Event → Option (Int)) (hrec_kinfolkref02_Min : ∀ e r_, rec_kinfolkref02_Min e = some r_ → Runs Tryd.prog 100 [(.one (.pv (T_kinfolkref02_Event.pv e)))] [] [] (kinfolkref02_Min_out e r_)) (e : T_kinfolkref02_Event) (r_ : Int) (h : kinfolkref02_Min_b rec_kinfolkref02_Min e = some r_) : Runs Tryd.prog 100 [(.one (.pv (T_kinfolkref02_Event.pv e)))] [] [] (kinfolkref02_Min_out e r_) := by
  unfold kinfolkref02_Min_b at h
  cases e with
  | nil =>
    cases h
  | mk n t t2 =>
    cases t with
    | nil =>
      have h := some_of h
      subst h
      exact runs_of (C := cfg) (objs := []) (sc := [.br true]) (.k0 (an_ (rfl : true = true) trivial) (by kernel_rfl))
    | mk n2 t3 t4 =>
      obtain ⟨n3, h1, h⟩ := bind_of h
      obtain ⟨n4, h2, h⟩ := bind_of h
      rcases cond_of h with ⟨h3, h⟩ | ⟨h3, h⟩
      · have h := some_of h
        subst h
        exact runs_of (C := cfg) (objs := []) (sc := [.br false, .res (kinfolkref02_Min_out (T_kinfolkref02_Event.mk n2 t3 t4) n3), .res (kinfolkref02_Min_out t2 n4), .br true]) (.k0 (an_ (rfl : false = false) (an_ (hrec_kinfolkref02_Min (T_kinfolkref02_Event.mk n2 t3 t4) _ h1) (an_ (hrec_kinfolkref02_Min t2 _ h2) (an_ h3 trivial)))) (by kernel_rfl))
      · have h := some_of h
        subst h
        exact runs_of (C := cfg) (objs := []) (sc := [.br false, .res (kinfolkref02_Min_out (T_kinfolkref02_Event.mk n2 t3 t4) n3), .res (kinfolkref02_Min_out t2 n4), .br false]) (.k0 (an_ (rfl : false = false) (an_ (hrec_kinfolkref02_Min (T_kinfolkref02_Event.mk n2 t3 t4) _ h1) (an_ (hrec_kinfolkref02_Min t2 _ h2) (an_ h3 trivial)))) (by kernel_rfl))
noncomputable def kinfolkref02_Min : Nat → T_kinfolkref02_Event → Option (Int)
  | 0, _ => none
  | N + 1, e => kinfolkref02_Min_b (kinfolkref02_Min N) e
theorem kinfolkref02_Min_runs : ∀ (N : Nat) (e : T_kinfolkref02_Event) (r_ : Int), kinfolkref02_Min N e = some r_ → Runs Tryd.prog 100 [(.one (.pv (T_kinfolkref02_Event.pv e)))] [] [] (kinfolkref02_Min_out e r_)
  | 0, _, _, h => by cases h
  | N + 1, e, r_, h => kinfolkref02_Min_b_runs (kinfolkref02_Min N) (kinfolkref02_Min_runs N) e r_ h
/-! ### kinfolkref02_Node -/
noncomputable def kinfolkref02_Node (N : Nat) (n : Int) (l : T_kinfolkref02_Event) (r : T_kinfolkref02_Event) : Option (T_kinfolkref02_Event) :=
  match l with
  | .nil =>
    none
  | .mk n2 t t2 =>
    match t with
    | .nil =>
      match r with
      | .nil =>
        none
      | .mk n3 t3 t4 =>
        match t3 with
        | .nil =>
          bif (decide ((n2 : Int) = n3)) then
            (kinfolkref02_Leaf (iadd .u64 n n2)).bind fun t5 =>
            some t5
          else
            (kinfolkref02_Min N l).bind fun n4 =>
            (kinfolkref02_Min N r).bind fun n5 =>
            bif (decide ((n5 : Int) < n4)) then
              some (T_kinfolkref02_Event.mk (iadd .u64 n n5) (T_kinfolkref02_Event.mk (isub .u64 n2 n5) t t2) (T_kinfolkref02_Event.mk (isub .u64 n3 n5) t3 t4))
            else
              some (T_kinfolkref02_Event.mk (iadd .u64 n n4) (T_kinfolkref02_Event.mk (isub .u64 n2 n4) t t2) (T_kinfolkref02_Event.mk (isub .u64 n3 n4) t3 t4))
        | .mk n4 t5 t6 =>
          (kinfolkref02_Min N l).bind fun n5 =>
          (kinfolkref02_Min N r).bind fun n6 =>
          bif (decide ((n6 : Int) < n5)) then
            some (T_kinfolkref02_Event.mk (iadd .u64 n n6) (T_kinfolkref02_Event.mk (isub .u64 n2 n6) t t2) (T_kinfolkref02_Event.mk (isub .u64 n3 n6) t3 t4))
          else
            some (T_kinfolkref02_Event.mk (iadd .u64 n n5) (T_kinfolkref02_Event.mk (isub .u64 n2 n5) t t2) (T_kinfolkref02_Event.mk (isub .u64 n3 n5) t3 t4))
    | .mk n3 t3 t4 =>
      (kinfolkref02_Min N l).bind fun n4 =>
      (kinfolkref02_Min N r).bind fun n5 =>
      bif (decide ((n5 : Int) < n4)) then
        match r with
        | .nil =>
          none
        | .mk n6 t5 t6 =>
          some (T_kinfolkref02_Event.mk (iadd .u64 n n5) (T_kinfolkref02_Event.mk (isub .u64 n2 n5) t t2) (T_kinfolkref02_Event.mk (isub .u64 n6 n5) t5 t6))
      else
        match r with
        | .nil =>
          none
        | .mk n6 t5 t6 =>
          some (T_kinfolkref02_Event.mk (iadd .u64 n n4) (T_kinfolkref02_Event.mk (isub .u64 n2 n4) t t2) (T_kinfolkref02_Event.mk (isub .u64 n6 n4) t5 t6))
theorem kinfolkref02_Node_runs (N : Nat) (n : Int) (l : T_kinfolkref02_Event) (r : T_kinfolkref02_Event) (r_ : T_kinfolkref02_Event) (h : kinfolkref02_Node N n l r = some r_) : Runs Tryd.prog 56 [(.one (.pv (.int .u64 n))), (.one (.pv (T_kinfolkref02_Event.pv l))), (.one (.pv (T_kinfolkref02_Event.pv r)))] [] [] (kinfolkref02_Node_out n l r r_) := by
  unfold kinfolkref02_Node at h
  cases l with
  | nil =>
    cases h
  | mk n2 t t2 =>
    cases t with
    | nil =>
      cases r with
      | nil =>
        cases h
      | mk n3 t3 t4 =>
        cases t3 with
        | nil =>
          rcases cond_of h with ⟨h1, h⟩ | ⟨h1, h⟩
          · obtain ⟨t5, h2, h⟩ := bind_of h
            have h := some_of h
            subst h
            exact runs_of (C := cfg) (objs := []) (sc := [.br true, .br true, .br true, .res (kinfolkref02_Leaf_out (iadd .u64 n n2) t5)]) (.k0 (an_ (rfl : true = true) (an_ (rfl : true = true) (an_ h1 (an_ (kinfolkref02_Leaf_runs (iadd .u64 n n2) _ h2) trivial)))) (by kernel_rfl))
          · obtain ⟨n4, h2, h⟩ := bind_of h
            obtain ⟨n5, h3, h⟩ := bind_of h
            rcases cond_of h with ⟨h4, h⟩ | ⟨h4, h⟩
            · have h := some_of h
              subst h
              have e_ : Runs Tryd.prog 56 [(.one (.pv (.int .u64 n))), (.one (.pv (T_kinfolkref02_Event.pv (T_kinfolkref02_Event.mk n2 T_kinfolkref02_Event.nil t2)))), (.one (.pv (T_kinfolkref02_Event.pv (T_kinfolkref02_Event.mk n3 T_kinfolkref02_Event.nil t4))))] [] [] ([(.one (.pv (.imm [(.int .u64 (iadd .u64 n n5)), (.imm [(.int .u64 (isub .u64 n2 n5)), (T_kinfolkref02_Event.pv T_kinfolkref02_Event.nil), (T_kinfolkref02_Event.pv t2)] 0), (.imm [(.int .u64 (isub .u64 n3 n5)), (T_kinfolkref02_Event.pv T_kinfolkref02_Event.nil), (T_kinfolkref02_Event.pv t4)] 0)] 0)))], [], []) := runs_of (C := cfg) (objs := []) (sc := [.br true, .br true, .br false, .res (kinfolkref02_Min_out (T_kinfolkref02_Event.mk n2 T_kinfolkref02_Event.nil t2) n4), .res (kinfolkref02_Min_out (T_kinfolkref02_Event.mk n3 T_kinfolkref02_Event.nil t4) n5), .br true, .res (kinfolkref02_Min_out (T_kinfolkref02_Event.mk n3 T_kinfolkref02_Event.nil t4) n5)]) (.k1 (an_ (rfl : true = true) (an_ (rfl : true = true) (an_ h1 (an_ (kinfolkref02_Min_runs N (T_kinfolkref02_Event.mk n2 T_kinfolkref02_Event.nil t2) _ h2) (an_ (kinfolkref02_Min_runs N (T_kinfolkref02_Event.mk n3 T_kinfolkref02_Event.nil t4) _ h3) (an_ h4 (an_ (kinfolkref02_Min_runs N (T_kinfolkref02_Event.mk n3 T_kinfolkref02_Event.nil t4) _ h3) trivial))))))) (by kernel_rfl) (by kernel_rfl))
              exact e_.out ⟨.eq rfl, trivial⟩ trivial trivial rfl
            · have h := some_of h
              subst h
              have e_ : Runs Tryd.prog 56 [(.one (.pv (.int .u64 n))), (.one (.pv (T_kinfolkref02_Event.pv (T_kinfolkref02_Event.mk n2 T_kinfolkref02_Event.nil t2)))), (.one (.pv (T_kinfolkref02_Event.pv (T_kinfolkref02_Event.mk n3 T_kinfolkref02_Event.nil t4))))] [] [] ([(.one (.pv (.imm [(.int .u64 (iadd .u64 n n4)), (.imm [(.int .u64 (isub .u64 n2 n4)), (T_kinfolkref02_Event.pv T_kinfolkref02_Event.nil), (T_kinfolkref02_Event.pv t2)] 0), (.imm [(.int .u64 (isub .u64 n3 n4)), (T_kinfolkref02_Event.pv T_kinfolkref02_Event.nil), (T_kinfolkref02_Event.pv t4)] 0)] 0)))], [], []) := runs_of (C := cfg) (objs := []) (sc := [.br true, .br true, .br false, .res (kinfolkref02_Min_out (T_kinfolkref02_Event.mk n2 T_kinfolkref02_Event.nil t2) n4), .res (kinfolkref02_Min_out (T_kinfolkref02_Event.mk n3 T_kinfolkref02_Event.nil t4) n5), .br false]) (.k1 (an_ (rfl : true = true) (an_ (rfl : true = true) (an_ h1 (an_ (kinfolkref02_Min_runs N (T_kinfolkref02_Event.mk n2 T_kinfolkref02_Event.nil t2) _ h2) (an_ (kinfolkref02_Min_runs N (T_kinfolkref02_Event.mk n3 T_kinfolkref02_Event.nil t4) _ h3) (an_ h4 trivial)))))) (by kernel_rfl) (by kernel_rfl))
              exact e_.out ⟨.eq rfl, trivial⟩ trivial trivial rfl
        | mk n4 t5 t6 =>
          obtain ⟨n5, h1, h⟩ := bind_of h
          obtain ⟨n6, h2, h⟩ := bind_of h
          rcases cond_of h with ⟨h3, h⟩ | ⟨h3, h⟩
          · have h := some_of h
            subst h
            have e_ : Runs Tryd.prog 56 [(.one (.pv (.int .u64 n))), (.one (.pv (T_kinfolkref02_Event.pv (T_kinfolkref02_Event.mk n2 T_kinfolkref02_Event.nil t2)))), (.one (.pv (T_kinfolkref02_Event.pv (T_kinfolkref02_Event.mk n3 (T_kinfolkref02_Event.mk n4 t5 t6) t4))))] [] [] ([(.one (.pv (.imm [(.int .u64 (iadd .u64 n n6)), (.imm [(.int .u64 (isub .u64 n2 n6)), (T_kinfolkref02_Event.pv T_kinfolkref02_Event.nil), (T_kinfolkref02_Event.pv t2)] 0), (.imm [(.int .u64 (isub .u64 n3 n6)), (T_kinfolkref02_Event.pv (T_kinfolkref02_Event.mk n4 t5 t6)), (T_kinfolkref02_Event.pv t4)] 0)] 0)))], [], []) := runs_of (C := cfg) (objs := []) (sc := [.br true, .br false, .br false, .res (kinfolkref02_Min_out (T_kinfolkref02_Event.mk n2 T_kinfolkref02_Event.nil t2) n5), .res (kinfolkref02_Min_out (T_kinfolkref02_Event.mk n3 (T_kinfolkref02_Event.mk n4 t5 t6) t4) n6), .br true, .res (kinfolkref02_Min_out (T_kinfolkref02_Event.mk n3 (T_kinfolkref02_Event.mk n4 t5 t6) t4) n6)]) (.k1 (an_ (rfl : true = true) (an_ (rfl : false = false) (an_ (rfl : false = false) (an_ (kinfolkref02_Min_runs N (T_kinfolkref02_Event.mk n2 T_kinfolkref02_Event.nil t2) _ h1) (an_ (kinfolkref02_Min_runs N (T_kinfolkref02_Event.mk n3 (T_kinfolkref02_Event.mk n4 t5 t6) t4) _ h2) (an_ h3 (an_ (kinfolkref02_Min_runs N (T_kinfolkref02_Event.mk n3 (T_kinfolkref02_Event.mk n4 t5 t6) t4) _ h2) trivial))))))) (by kernel_rfl) (by kernel_rfl))
            exact e_.out ⟨.eq rfl, trivial⟩ trivial trivial rfl
          · have h := some_of h
            subst h
            have e_ : Runs Tryd.prog 56 [(.one (.pv (.int .u64 n))), (.one (.pv (T_kinfolkref02_Event.pv (T_kinfolkref02_Event.mk n2 T_kinfolkref02_Event.nil t2)))), (.one (.pv (T_kinfolkref02_Event.pv (T_kinfolkref02_Event.mk n3 (T_kinfolkref02_Event.mk n4 t5 t6) t4))))] [] [] ([(.one (.pv (.imm [(.int .u64 (iadd .u64 n n5)), (.imm [(.int .u64 (isub .u64 n2 n5)), (T_kinfolkref02_Event.pv T_kinfolkref02_Event.nil), (T_kinfolkref02_Event.pv t2)] 0), (.imm [(.int .u64 (isub .u64 n3 n5)), (T_kinfolkref02_Event.pv (T_kinfolkref02_Event.mk n4 t5 t6)), (T_kinfolkref02_Event.pv t4)] 0)] 0)))], [], []) := runs_of (C := cfg) (objs := []) (sc := [.br true, .br false, .br false, .res (kinfolkref02_Min_out (T_kinfolkref02_Event.mk n2 T_kinfolkref02_Event.nil t2) n5), .res (kinfolkref02_Min_out (T_kinfolkref02_Event.mk n3 (T_kinfolkref02_Event.mk n4 t5 t6) t4) n6), .br false]) (.k1 (an_ (rfl : true = true) (an_ (rfl : false = false) (an_ (rfl : false = false) (an_ (kinfolkref02_Min_runs N (T_kinfolkref02_Event.mk n2 T_kinfolkref02_Event.nil t2) _ h1) (an_ (kinfolkref02_Min_runs N (T_kinfolkref02_Event.mk n3 (T_kinfolkref02_Event.mk n4 t5 t6) t4) _ h2) (an_ h3 trivial)))))) (by kernel_rfl) (by kernel_rfl))
            exact e_.out ⟨.eq rfl, trivial⟩ trivial trivial rfl
    | mk n3 t3 t4 =>
      obtain ⟨n4, h1, h⟩ := bind_of h
      obtain ⟨n5, h2, h⟩ := bind_of h
      rcases cond_of h with ⟨h3, h⟩ | ⟨h3, h⟩
      · cases r with
        | nil =>
          cases h
        | mk n6 t5 t6 =>
          have h := some_of h
          subst h
          have e_ : Runs Tryd.prog 56 [(.one (.pv (.int .u64 n))), (.one (.pv (T_kinfolkref02_Event.pv (T_kinfolkref02_Event.mk n2 (T_kinfolkref02_Event.mk n3 t3 t4) t2)))), (.one (.pv (T_kinfolkref02_Event.pv (T_kinfolkref02_Event.mk n6 t5 t6))))] [] [] ([(.one (.pv (.imm [(.int .u64 (iadd .u64 n n5)), (.imm [(.int .u64 (isub .u64 n2 n5)), (T_kinfolkref02_Event.pv (T_kinfolkref02_Event.mk n3 t3 t4)), (T_kinfolkref02_Event.pv t2)] 0), (.imm [(.int .u64 (isub .u64 n6 n5)), (T_kinfolkref02_Event.pv t5), (T_kinfolkref02_Event.pv t6)] 0)] 0)))], [], []) := runs_of (C := cfg) (objs := []) (sc := [.br false, .br false, .br false, .res (kinfolkref02_Min_out (T_kinfolkref02_Event.mk n2 (T_kinfolkref02_Event.mk n3 t3 t4) t2) n4), .res (kinfolkref02_Min_out (T_kinfolkref02_Event.mk n6 t5 t6) n5), .br true, .res (kinfolkref02_Min_out (T_kinfolkref02_Event.mk n6 t5 t6) n5)]) (.k1 (an_ (rfl : false = false) (an_ (rfl : false = false) (an_ (rfl : false = false) (an_ (kinfolkref02_Min_runs N (T_kinfolkref02_Event.mk n2 (T_kinfolkref02_Event.mk n3 t3 t4) t2) _ h1) (an_ (kinfolkref02_Min_runs N (T_kinfolkref02_Event.mk n6 t5 t6) _ h2) (an_ h3 (an_ (kinfolkref02_Min_runs N (T_kinfolkref02_Event.mk n6 t5 t6) _ h2) trivial))))))) (by kernel_rfl) (by kernel_rfl))
          exact e_.out ⟨.eq rfl, trivial⟩ trivial trivial rfl
      · cases r with
        | nil =>
          cases h
        | mk n6 t5 t6 =>
          have h := some_of h
          subst h
          have e_ : Runs Tryd.prog 56 [(.one (.pv (.int .u64 n))), (.one (.pv (T_kinfolkref02_Event.pv (T_kinfolkref02_Event.mk n2 (T_kinfolkref02_Event.mk n3 t3 t4) t2)))), (.one (.pv (T_kinfolkref02_Event.pv (T_kinfolkref02_Event.mk n6 t5 t6))))] [] [] ([(.one (.pv (.imm [(.int .u64 (iadd .u64 n n4)), (.imm [(.int .u64 (isub .u64 n2 n4)), (T_kinfolkref02_Event.pv (T_kinfolkref02_Event.mk n3 t3 t4)), (T_kinfolkref02_Event.pv t2)] 0), (.imm [(.int .u64 (isub .u64 n6 n4)), (T_kinfolkref02_Event.pv t5), (T_kinfolkref02_Event.pv t6)] 0)] 0)))], [], []) := runs_of (C := cfg) (objs := []) (sc := [.br false, .br false, .br false, .res (kinfolkref02_Min_out (T_kinfolkref02_Event.mk n2 (T_kinfolkref02_Event.mk n3 t3 t4) t2) n4), .res (kinfolkref02_Min_out (T_kinfolkref02_Event.mk n6 t5 t6) n5), .br false]) (.k1 (an_ (rfl : false = false) (an_ (rfl : false = false) (an_ (rfl : false = false) (an_ (kinfolkref02_Min_runs N (T_kinfolkref02_Event.mk n2 (T_kinfolkref02_Event.mk n3 t3 t4) t2) _ h1) (an_ (kinfolkref02_Min_runs N (T_kinfolkref02_Event.mk n6 t5 t6) _ h2) (an_ h3 trivial)))))) (by kernel_rfl) (by kernel_rfl))
          exact e_.out ⟨.eq rfl, trivial⟩ trivial trivial rfl
/-! ### kinfolkref02_Make -/
noncomputable def kinfolkref02_Make_b (N : Nat) (rec_kinfolkref02_Make : List Int → Int → Option (T_kinfolkref02_Event × List Int)) (p : List Int) (most : Int) : Option (T_kinfolkref02_Event × List Int) :=
  bif (decide ((((p).length : Int) : Int) = 0)) then
    (kinfolkref02_Leaf 0).bind fun t =>
    some (t, [])
  else
    bif decide ((0 : Int) ≤ 0) && decide ((0 : Int) < ((p).length : Int)) then
    bif decide ((0 : Int) ≤ 1) && decide ((1 : Int) ≤ ((p).length : Int)) && decide ((((p).length : Int) : Int) ≤ ((p).length : Int)) && decide ((((p).length : Int) : Int) = ((p).length : Int)) then
    bif (decide ((most : Int) = 0)) then
      (kinfolkref02_Leaf (IntKind.u64.wrap (irem .u8 (iquo .u8 (p.getD 0 0) 4) 8))).bind fun t =>
      some (t, (List.take (((p).length : Int) - 1).toNat (List.drop 1 p)))
    else
      bif (decide (((irem .u8 (p.getD 0 0) 4) : Int) < 2)) then
        (kinfolkref02_Leaf (IntKind.u64.wrap (irem .u8 (iquo .u8 (p.getD 0 0) 4) 8))).bind fun t =>
        some (t, (List.take (((p).length : Int) - 1).toNat (List.drop 1 p)))
      else
        (rec_kinfolkref02_Make (List.take (((p).length : Int) - 1).toNat (List.drop 1 p)) (isub .i64 most 1)).bind fun (t, l_) =>
        (rec_kinfolkref02_Make l_ (isub .i64 most 1)).bind fun (t2, l_2) =>
        (kinfolkref02_Node N (IntKind.u64.wrap (irem .u8 (iquo .u8 (p.getD 0 0) 4) 4)) t t2).bind fun t3 =>
        some (t3, l_2)
    else none
    else none
theorem kinfolkref02_Make_b_runs (N : Nat) (rec_kinfolkref02_Make : List Int → Int → Option (T_kinfolkref02_Event × List Int)) (hrec_kinfolkref02_Make : ∀ p most r_, rec_kinfolkref02_Make p most = some r_ → Runs Tryd.prog 88 [(.one (.pv (.ints .u8 p false))), (.one (.pv (.int .i64 most)))] [] [] (kinfolkref02_Make_out p most r_)) (p : List Int) (most : Int) (r_ : T_kinfolkref02_Event × List Int) (h : kinfolkref02_Make_b N rec_kinfolkref02_Make p most = some r_) : Runs Tryd.prog 88 [(.one (.pv (.ints .u8 p false))), (.one (.pv (.int .i64 most)))] [] [] (kinfolkref02_Make_out p most r_) := by
  unfold kinfolkref02_Make_b at h
  rcases cond_of h with ⟨h1, h⟩ | ⟨h1, h⟩
  · obtain ⟨t, h2, h⟩ := bind_of h
    have h := some_of h
    subst h
    have e_ : Runs Tryd.prog 88 [(.one (.pv (.ints .u8 p false))), (.one (.pv (.int .i64 most)))] [] [] ([(.one (.pv (T_kinfolkref02_Event.pv t))), (.one (.pv .nils))], [], []) := runs_of (C := cfg) (objs := []) (sc := [.br true, .res (kinfolkref02_Leaf_out 0 t)]) (.k0 (an_ h1 (an_ (kinfolkref02_Leaf_runs 0 _ h2) trivial)) (by kernel_rfl))
    exact e_.out ⟨.eq rfl, .pv (.nilsI), trivial⟩ trivial trivial rfl
  · obtain ⟨h2, h⟩ := need_of h
    obtain ⟨h3, h⟩ := need_of h
    rcases cond_of h with ⟨h4, h⟩ | ⟨h4, h⟩
    · obtain ⟨t, h5, h⟩ := bind_of h
      have h := some_of h
      subst h
      exact runs_of (C := cfg) (objs := []) (sc := [.br false, .br true, .br true, .res (kinfolkref02_Leaf_out (IntKind.u64.wrap (irem .u8 (iquo .u8 (p.getD 0 0) 4) 8)) t)]) (.k0 (an_ h1 (an_ h2 (an_ h3 (an_ h4 (an_ (rfl : true = true) (an_ (rfl : true = true) (an_ (rfl : true = true) (an_ (kinfolkref02_Leaf_runs (IntKind.u64.wrap (irem .u8 (iquo .u8 (p.getD 0 0) 4) 8)) _ h5) trivial)))))))) (by kernel_rfl))
    · rcases cond_of h with ⟨h5, h⟩ | ⟨h5, h⟩
      · obtain ⟨t, h6, h⟩ := bind_of h
        have h := some_of h
        subst h
        exact runs_of (C := cfg) (objs := []) (sc := [.br false, .br false, .br true, .res (kinfolkref02_Leaf_out (IntKind.u64.wrap (irem .u8 (iquo .u8 (p.getD 0 0) 4) 8)) t)]) (.k0 (an_ h1 (an_ h2 (an_ h3 (an_ h4 (an_ (rfl : true = true) (an_ h5 (an_ (rfl : true = true) (an_ (rfl : true = true) (an_ (kinfolkref02_Leaf_runs (IntKind.u64.wrap (irem .u8 (iquo .u8 (p.getD 0 0) 4) 8)) _ h6) trivial))))))))) (by kernel_rfl))
      · obtain ⟨⟨t, l_⟩, h6, h⟩ := bind_of h
        obtain ⟨⟨t2, l_2⟩, h7, h⟩ := bind_of h
        obtain ⟨t3, h8, h⟩ := bind_of h
        have h := some_of h
        subst h
        exact runs_of (C := cfg) (objs := []) (sc := [.br false, .br false, .br false, .res (kinfolkref02_Make_out (List.take (((p).length : Int) - 1).toNat (List.drop 1 p)) (isub .i64 most 1) (t, l_)), .res (kinfolkref02_Make_out l_ (isub .i64 most 1) (t2, l_2)), .res (kinfolkref02_Node_out (IntKind.u64.wrap (irem .u8 (iquo .u8 (p.getD 0 0) 4) 4)) t t2 t3)]) (.k0 (an_ h1 (an_ h2 (an_ h3 (an_ h4 (an_ (rfl : true = true) (an_ h5 (an_ (hrec_kinfolkref02_Make (List.take (((p).length : Int) - 1).toNat (List.drop 1 p)) (isub .i64 most 1) _ h6) (an_ (hrec_kinfolkref02_Make l_ (isub .i64 most 1) _ h7) (an_ (rfl : true = true) (an_ (rfl : true = true) (an_ (kinfolkref02_Node_runs N (IntKind.u64.wrap (irem .u8 (iquo .u8 (p.getD 0 0) 4) 4)) t t2 _ h8) trivial))))))))))) (by kernel_rfl))
noncomputable def kinfolkref02_Make : Nat → List Int → Int → Option (T_kinfolkref02_Event × List Int)
  | 0, _, _ => none
  | N + 1, p, most => kinfolkref02_Make_b N (kinfolkref02_Make N) p most
theorem kinfolkref02_Make_runs : ∀ (N : Nat) (p : List Int) (most : Int) (r_ : T_kinfolkref02_Event × List Int), kinfolkref02_Make N p most = some r_ → Runs Tryd.prog 88 [(.one (.pv (.ints .u8 p false))), (.one (.pv (.int .i64 most)))] [] [] (kinfolkref02_Make_out p most r_)
  | 0, _, _, _, h => by cases h
  | N + 1, p, most, r_, h => kinfolkref02_Make_b_runs N (kinfolkref02_Make N) (kinfolkref02_Make_runs N) p most r_ h
/-! ### kinfolklaw04_own_out -/
def kinfolklaw04_own_out (x : T_kinfolkref01_ID) : Bool × T_id_halves → Res
  | (r1, r2) => ([(.agg [(.pv (.bool r1)), (.pv (T_id_halves.pv r2))])], [], [])
/-! ### id_Pair_out -/
def id_Pair_out (l : Bool) (l2 : T_id_halves) (r : Bool) (r2 : T_id_halves) : Bool × T_id_halves × Int → Res
  | (r1, r2, r3) => ([(.agg [(.pv (.bool r1)), (.pv (T_id_halves.pv r2))]), (.one (.pv (.int .i64 r3)))], [], [])
/-! ### id_Pair -/
noncomputable def id_Pair (N : Nat) (l : Bool) (l2 : T_id_halves) (r : Bool) (r2 : T_id_halves) : Option (Bool × T_id_halves × Int) :=
  (id_pair l l2 r r2).bind fun (b, t) =>
  (id_ID_Depth N b t).bind fun n =>
  bif (decide ((16 : Int) < n)) then
    (id_Zero).bind fun _ =>
    some (false, T_id_halves.nil, 3)
  else
    some (b, t, 0)
theorem id_Pair_runs (N : Nat) (l : Bool) (l2 : T_id_halves) (r : Bool) (r2 : T_id_halves) (r_ : Bool × T_id_halves × Int) (h : id_Pair N l l2 r r2 = some r_) : Runs Tryd.prog 137 [(.agg [(.pv (.bool l)), (.pv (T_id_halves.pv l2))]), (.agg [(.pv (.bool r)), (.pv (T_id_halves.pv r2))])] [] [] (id_Pair_out l l2 r r2 r_) := by
  unfold id_Pair at h
  obtain ⟨⟨b, t⟩, h1, h⟩ := bind_of h
  obtain ⟨n, h2, h⟩ := bind_of h
  rcases cond_of h with ⟨h3, h⟩ | ⟨h3, h⟩
  · obtain ⟨_, h4, h⟩ := bind_of h
    have h := some_of h
    subst h
    exact runs_of (C := cfg) (objs := []) (sc := [.res (id_pair_out l l2 r r2 (b, t)), .res (id_ID_Depth_out b t n), .br true, .res (id_Zero_out ())]) (.k0 (an_ (id_pair_runs l l2 r r2 _ h1) (an_ (id_ID_Depth_runs N b t _ h2) (an_ h3 (an_ (id_Zero_runs _ h4) trivial)))) (by kernel_rfl))
  · have h := some_of h
    subst h
    exact runs_of (C := cfg) (objs := []) (sc := [.res (id_pair_out l l2 r r2 (b, t)), .res (id_ID_Depth_out b t n), .br false]) (.k0 (an_ (id_pair_runs l l2 r r2 _ h1) (an_ (id_ID_Depth_runs N b t _ h2) (an_ h3 trivial))) (by kernel_rfl))
/-! ### kinfolklaw04_own -/
noncomputable def kinfolklaw04_own_b (N : Nat) (rec_kinfolklaw04_own : T_kinfolkref01_ID → Option (Bool × T_id_halves)) (x : T_kinfolkref01_ID) : Option (Bool × T_id_halves) :=
  match x with
  | .nil =>
    none
  | .mk n t t2 =>
    bif (decide ((n : Int) = 0)) then
      (id_Zero).bind fun _ =>
      some (false, T_id_halves.nil)
    else
      bif (decide ((n : Int) = 1)) then
        (id_One).bind fun _ =>
        some (true, T_id_halves.nil)
      else
        (rec_kinfolklaw04_own t).bind fun (b, t3) =>
        (rec_kinfolklaw04_own t2).bind fun (b2, t4) =>
        (id_Pair N b t3 b2 t4).bind fun (b3, t5, n2) =>
        some (b3, t5)
theorem kinfolklaw04_own_b_runs (N : Nat) (rec_kinfolklaw04_own : T_kinfolkref01_ID → Option (Bool × T_id_halves)) (hrec_kinfolklaw04_own : ∀ x r_, rec_kinfolklaw04_own x = some r_ → Runs Tryd.prog 89 [(.one (.pv (T_kinfolkref01_ID.pv x)))] [] [] (kinfolklaw04_own_out x r_)) (x : T_kinfolkref01_ID) (r_ : Bool × T_id_halves) (h : kinfolklaw04_own_b N rec_kinfolklaw04_own x = some r_) : Runs Tryd.prog 89 [(.one (.pv (T_kinfolkref01_ID.pv x)))] [] [] (kinfolklaw04_own_out x r_) := by
  unfold kinfolklaw04_own_b at h
  cases x with
  | nil =>
    cases h
  | mk n t t2 =>
    rcases cond_of h with ⟨h1, h⟩ | ⟨h1, h⟩
    · obtain ⟨_, h2, h⟩ := bind_of h
      have h := some_of h
      subst h
      exact runs_of (C := cfg) (objs := []) (sc := [.br true, .res (id_Zero_out ())]) (.k0 (an_ h1 (an_ (id_Zero_runs _ h2) trivial)) (by kernel_rfl))
    · rcases cond_of h with ⟨h2, h⟩ | ⟨h2, h⟩
      · obtain ⟨_, h3, h⟩ := bind_of h
        have h := some_of h
        subst h
        exact runs_of (C := cfg) (objs := []) (sc := [.br false, .br true, .res (id_One_out ())]) (.k0 (an_ h1 (an_ h2 (an_ (id_One_runs _ h3) trivial))) (by kernel_rfl))
      · obtain ⟨⟨b, t3⟩, h3, h⟩ := bind_of h
        obtain ⟨⟨b2, t4⟩, h4, h⟩ := bind_of h
        obtain ⟨⟨b3, t5, n2⟩, h5, h⟩ := bind_of h
        have h := some_of h
        subst h
        exact runs_of (C := cfg) (objs := []) (sc := [.br false, .br false, .res (kinfolklaw04_own_out t (b, t3)), .res (kinfolklaw04_own_out t (b, t3)), .res (kinfolklaw04_own_out t2 (b2, t4)), .res (id_Pair_out b t3 b2 t4 (b3, t5, n2)), .res (kinfolklaw04_own_out t2 (b2, t4)), .res (id_Pair_out b t3 b2 t4 (b3, t5, n2))]) (.k1 (an_ h1 (an_ h2 (an_ (hrec_kinfolklaw04_own t _ h3) (an_ (hrec_kinfolklaw04_own t _ h3) (an_ (hrec_kinfolklaw04_own t2 _ h4) (an_ (id_Pair_runs N b t3 b2 t4 _ h5) (an_ (hrec_kinfolklaw04_own t2 _ h4) (an_ (id_Pair_runs N b t3 b2 t4 _ h5) trivial)))))))) (by kernel_rfl) (by kernel_rfl))
noncomputable def kinfolklaw04_own : Nat → T_kinfolkref01_ID → Option (Bool × T_id_halves)
  | 0, _ => none
  | N + 1, x => kinfolklaw04_own_b N (kinfolklaw04_own N) x
theorem kinfolklaw04_own_runs : ∀ (N : Nat) (x : T_kinfolkref01_ID) (r_ : Bool × T_id_halves), kinfolklaw04_own N x = some r_ → Runs Tryd.prog 89 [(.one (.pv (T_kinfolkref01_ID.pv x)))] [] [] (kinfolklaw04_own_out x r_)
  | 0, _, _, h => by cases h
  | N + 1, x, r_, h => kinfolklaw04_own_b_runs N (kinfolklaw04_own N) (kinfolklaw04_own_runs N) x r_ h
/-! ### kinfolklaw04_tree_out -/
def kinfolklaw04_tree_out (x : T_kinfolkref02_Event) : Int × T_event_halves → Res
  | (r1, r2) => ([(.agg [(.pv (.int .u64 r1)), (.pv (T_event_halves.pv r2))])], [], [])
/-! ### kinfolklaw04_tree -/
noncomputable def kinfolklaw04_tree_b (N : Nat) (rec_kinfolklaw04_tree : T_kinfolkref02_Event → Option (Int × T_event_halves)) (x : T_kinfolkref02_Event) : Option (Int × T_event_halves) :=
  match x with
  | .nil =>
    none
  | .mk n t t2 =>
    match t with
    | .nil =>
      (event_Leaf n).bind fun (n2, n3) =>
      some (n2, T_event_halves.nil)
    | .mk n2 t3 t4 =>
      (rec_kinfolklaw04_tree t).bind fun (n3, t5) =>
      (rec_kinfolklaw04_tree t2).bind fun (n4, t6) =>
      (event_Node N n n3 t5 n4 t6).bind fun (n5, t7, n6) =>
      some (n5, t7)
theorem kinfolklaw04_tree_b_runs (N : Nat) (rec_kinfolklaw04_tree : T_kinfolkref02_Event → Option (Int × T_event_halves)) (hrec_kinfolklaw04_tree : ∀ x r_, rec_kinfolklaw04_tree x = some r_ → Runs Tryd.prog 90 [(.one (.pv (T_kinfolkref02_Event.pv x)))] [] [] (kinfolklaw04_tree_out x r_)) (x : T_kinfolkref02_Event) (r_ : Int × T_event_halves) (h : kinfolklaw04_tree_b N rec_kinfolklaw04_tree x = some r_) : Runs Tryd.prog 90 [(.one (.pv (T_kinfolkref02_Event.pv x)))] [] [] (kinfolklaw04_tree_out x r_) := by
  unfold kinfolklaw04_tree_b at h
  cases x with
  | nil =>
    cases h
  | mk n t t2 =>
    cases t with
    | nil =>
      obtain ⟨⟨n2, n3⟩, h1, h⟩ := bind_of h
      have h := some_of h
      subst h
      exact runs_of (C := cfg) (objs := []) (sc := [.br true, .res (event_Leaf_out n (n2, n3))]) (.k0 (an_ (rfl : true = true) (an_ (event_Leaf_runs n _ h1) trivial)) (by kernel_rfl))
    | mk n2 t3 t4 =>
      obtain ⟨⟨n3, t5⟩, h1, h⟩ := bind_of h
      obtain ⟨⟨n4, t6⟩, h2, h⟩ := bind_of h
      obtain ⟨⟨n5, t7, n6⟩, h3, h⟩ := bind_of h
      have h := some_of h
      subst h
      exact runs_of (C := cfg) (objs := []) (sc := [.br false, .res (kinfolklaw04_tree_out (T_kinfolkref02_Event.mk n2 t3 t4) (n3, t5)), .res (kinfolklaw04_tree_out (T_kinfolkref02_Event.mk n2 t3 t4) (n3, t5)), .res (kinfolklaw04_tree_out t2 (n4, t6)), .res (event_Node_out n n3 t5 n4 t6 (n5, t7, n6)), .res (kinfolklaw04_tree_out t2 (n4, t6)), .res (event_Node_out n n3 t5 n4 t6 (n5, t7, n6))]) (.k1 (an_ (rfl : false = false) (an_ (hrec_kinfolklaw04_tree (T_kinfolkref02_Event.mk n2 t3 t4) _ h1) (an_ (hrec_kinfolklaw04_tree (T_kinfolkref02_Event.mk n2 t3 t4) _ h1) (an_ (hrec_kinfolklaw04_tree t2 _ h2) (an_ (event_Node_runs N n n3 t5 n4 t6 _ h3) (an_ (hrec_kinfolklaw04_tree t2 _ h2) (an_ (event_Node_runs N n n3 t5 n4 t6 _ h3) trivial))))))) (by kernel_rfl) (by kernel_rfl))
noncomputable def kinfolklaw04_tree : Nat → T_kinfolkref02_Event → Option (Int × T_event_halves)
  | 0, _ => none
  | N + 1, x => kinfolklaw04_tree_b N (kinfolklaw04_tree N) x
theorem kinfolklaw04_tree_runs : ∀ (N : Nat) (x : T_kinfolkref02_Event) (r_ : Int × T_event_halves), kinfolklaw04_tree N x = some r_ → Runs Tryd.prog 90 [(.one (.pv (T_kinfolkref02_Event.pv x)))] [] [] (kinfolklaw04_tree_out x r_)
  | 0, _, _, h => by cases h
  | N + 1, x, r_, h => kinfolklaw04_tree_b_runs N (kinfolklaw04_tree N) (kinfolklaw04_tree_runs N) x r_ h
/-! ### kinfolklaw04_made -/
noncomputable def kinfolklaw04_made (N : Nat) (p : List Int) (q : List Int) : Option (Bool × T_id_halves × Int × T_event_halves × T_kinfolkref01_ID × T_kinfolkref02_Event) :=
  bif decide ((0 : Int) ≤ 0) && decide ((0 : Int) ≤ (if (60 : Int) < ((p).length : Int) then 60 else ((p).length : Int))) && decide (((if (60 : Int) < ((p).length : Int) then 60 else ((p).length : Int)) : Int) ≤ ((p).length : Int)) && decide (((if (60 : Int) < ((p).length : Int) then 60 else ((p).length : Int)) : Int) = (if (60 : Int) < ((p).length : Int) then 60 else ((p).length : Int))) then
  (kinfolkref01_Make N (List.take ((if (60 : Int) < ((p).length : Int) then 60 else ((p).length : Int)) - 0).toNat p) 6).bind fun (t, l_) =>
  bif decide ((0 : Int) ≤ 0) && decide ((0 : Int) ≤ (if (60 : Int) < ((q).length : Int) then 60 else ((q).length : Int))) && decide (((if (60 : Int) < ((q).length : Int) then 60 else ((q).length : Int)) : Int) ≤ ((q).length : Int)) && decide (((if (60 : Int) < ((q).length : Int) then 60 else ((q).length : Int)) : Int) = (if (60 : Int) < ((q).length : Int) then 60 else ((q).length : Int))) then
  (kinfolkref02_Make N (List.take ((if (60 : Int) < ((q).length : Int) then 60 else ((q).length : Int)) - 0).toNat q) 6).bind fun (t2, l_2) =>
  (kinfolklaw04_own N t).bind fun (b, t3) =>
  (kinfolklaw04_tree N t2).bind fun (n, t4) =>
  some (b, t3, n, t4, t, t2)
  else none
  else none
theorem kinfolklaw04_made_runs (N : Nat) (p : List Int) (q : List Int) (r_ : Bool × T_id_halves × Int × T_event_halves × T_kinfolkref01_ID × T_kinfolkref02_Event) (h : kinfolklaw04_made N p q = some r_) : Runs Tryd.prog 19 [(.one (.pv (.ints .u8 p false))), (.one (.pv (.ints .u8 q false)))] [] [] (kinfolklaw04_made_out p q r_) := by
  unfold kinfolklaw04_made at h
  obtain ⟨h1, h⟩ := need_of h
  obtain ⟨⟨t, l_⟩, h2, h⟩ := bind_of h
  obtain ⟨h3, h⟩ := need_of h
  obtain ⟨⟨t2, l_2⟩, h4, h⟩ := bind_of h
  obtain ⟨⟨b, t3⟩, h5, h⟩ := bind_of h
  obtain ⟨⟨n, t4⟩, h6, h⟩ := bind_of h
  have h := some_of h
  subst h
  exact runs_of (C := cfg) (objs := []) (sc := [.res (kinfolkref01_Make_out (List.take ((if (60 : Int) < ((p).length : Int) then 60 else ((p).length : Int)) - 0).toNat p) 6 (t, l_)), .res (kinfolkref02_Make_out (List.take ((if (60 : Int) < ((q).length : Int) then 60 else ((q).length : Int)) - 0).toNat q) 6 (t2, l_2)), .res (kinfolklaw04_own_out t (b, t3)), .res (kinfolklaw04_tree_out t2 (n, t4))]) (.k0 (an_ h1 (an_ (kinfolkref01_Make_runs N (List.take ((if (60 : Int) < ((p).length : Int) then 60 else ((p).length : Int)) - 0).toNat p) 6 _ h2) (an_ h3 (an_ (kinfolkref02_Make_runs N (List.take ((if (60 : Int) < ((q).length : Int) then 60 else ((q).length : Int)) - 0).toNat q) 6 _ h4) (an_ (kinfolklaw04_own_runs N t _ h5) (an_ (kinfolklaw04_tree_runs N t2 _ h6) trivial)))))) (by kernel_rfl))
/-! ### kinfolkref04_Fill_out -/
def kinfolkref04_Fill_out (i : T_kinfolkref01_ID) (e : T_kinfolkref02_Event) : T_kinfolkref02_Event → Res
  | r1 => ([(.one (.pv (T_kinfolkref02_Event.pv r1)))], [], [])
/-! ### kinfolkref02_Max_out -/
def kinfolkref02_Max_out (e : T_kinfolkref02_Event) : Int → Res
  | r1 => ([(.one (.pv (.int .u64 r1)))], [], [])
/-! ### kinfolkref02_Max -/
noncomputable def kinfolkref02_Max_b (rec_kinfolkref02_Max : T_kinfolkref02_Event → Option (Int)) (e : T_kinfolkref02_Event) : Option (Int) :=
  match e with
  | .nil =>
    none
  | .mk n t t2 =>
    match t with
    | .nil =>
      some n
    | .mk n2 t3 t4 =>
      (rec_kinfolkref02_Max t).bind fun n3 =>
      (rec_kinfolkref02_Max t2).bind fun n4 =>
      bif (decide ((n4 : Int) < n3)) then
        some (iadd .u64 n n3)
      else
        some (iadd .u64 n n4)
theorem kinfolkref02_Max_b_runs (rec_kinfolkref02_Max : T_kinfolkref02_Event → Option (Int)) (hrec_kinfolkref02_Max : ∀ e r_, rec_kinfolkref02_Max e = some r_ → Runs Tryd.prog 29 [(.one (.pv (T_kinfolkref02_Event.pv e)))] [] [] (kinfolkref02_Max_out e r_)) (e : T_kinfolkref02_Event) (r_ : Int) (h : kinfolkref02_Max_b rec_kinfolkref02_Max e = some r_) : Runs Tryd.prog 29 [(.one (.pv (T_kinfolkref02_Event.pv e)))] [] [] (kinfolkref02_Max_out e r_) := by
  unfold kinfolkref02_Max_b at h
  cases e with
  | nil =>
    cases h
  | mk n t t2 =>
    cases t with
    | nil =>
      have h := some_of h
      subst h
      exact runs_of (C := cfg) (objs := []) (sc := [.br true]) (.k0 (an_ (rfl : true = true) trivial) (by kernel_rfl))
    | mk n2 t3 t4 =>
      obtain ⟨n3, h1, h⟩ := bind_of h
      obtain ⟨n4, h2, h⟩ := bind_of h
      rcases cond_of h with ⟨h3, h⟩ | ⟨h3, h⟩
      · have h := some_of h
        subst h
        exact runs_of (C := cfg) (objs := []) (sc := [.br false, .res (kinfolkref02_Max_out (T_kinfolkref02_Event.mk n2 t3 t4) n3), .res (kinfolkref02_Max_out t2 n4), .br true]) (.k0 (an_ (rfl : false = false) (an_ (hrec_kinfolkref02_Max (T_kinfolkref02_Event.mk n2 t3 t4) _ h1) (an_ (hrec_kinfolkref02_Max t2 _ h2) (an_ h3 trivial)))) (by kernel_rfl))
      · have h := some_of h
        subst h
        exact runs_of (C := cfg) (objs := []) (sc := [.br false, .res (kinfolkref02_Max_out (T_kinfolkref02_Event.mk n2 t3 t4) n3), .res (kinfolkref02_Max_out t2 n4), .br false]) (.k0 (an_ (rfl : false = false) (an_ (hrec_kinfolkref02_Max (T_kinfolkref02_Event.mk n2 t3 t4) _ h1) (an_ (hrec_kinfolkref02_Max t2 _ h2) (an_ h3 trivial)))) (by kernel_rfl))
noncomputable def kinfolkref02_Max : Nat → T_kinfolkref02_Event → Option (Int)
  | 0, _ => none
  | N + 1, e => kinfolkref02_Max_b (kinfolkref02_Max N) e
theorem kinfolkref02_Max_runs : ∀ (N : Nat) (e : T_kinfolkref02_Event) (r_ : Int), kinfolkref02_Max N e = some r_ → Runs Tryd.prog 29 [(.one (.pv (T_kinfolkref02_Event.pv e)))] [] [] (kinfolkref02_Max_out e r_)
  | 0, _, _, h => by cases h
  | N + 1, e, r_, h => kinfolkref02_Max_b_runs (kinfolkref02_Max N) (kinfolkref02_Max_runs N) e r_ h
/-! ### kinfolkref04_greater_out -/
def kinfolkref04_greater_out (a : Int) (b : Int) : Int → Res
  | r1 => ([(.one (.pv (.int .u64 r1)))], [], [])
/-! ### kinfolkref04_greater -/
noncomputable def kinfolkref04_greater (a : Int) (b : Int) : Option (Int) :=
  bif (decide ((b : Int) < a)) then
    some a
  else
    some b
theorem kinfolkref04_greater_runs (a : Int) (b : Int) (r_ : Int) (h : kinfolkref04_greater a b = some r_) : Runs Tryd.prog 99 [(.one (.pv (.int .u64 a))), (.one (.pv (.int .u64 b)))] [] [] (kinfolkref04_greater_out a b r_) := by
  unfold kinfolkref04_greater at h
  rcases cond_of h with ⟨h1, h⟩ | ⟨h1, h⟩
  · have h := some_of h
    subst h
    exact runs_of (C := cfg) (objs := []) (sc := [.br true]) (.k0 (an_ h1 trivial) (by kernel_rfl))
  · have h := some_of h
    subst h
    exact runs_of (C := cfg) (objs := []) (sc := [.br false]) (.k0 (an_ h1 trivial) (by kernel_rfl))
/-! ### kinfolkref04_Fill -/
noncomputable def kinfolkref04_Fill_b (N : Nat) (rec_kinfolkref04_Fill : T_kinfolkref01_ID → T_kinfolkref02_Event → Option (T_kinfolkref02_Event)) (i : T_kinfolkref01_ID) (e : T_kinfolkref02_Event) : Option (T_kinfolkref02_Event) :=
  match i with
  | .nil =>
    none
  | .mk n t t2 =>
    bif (decide ((n : Int) = 0)) then
      some e
    else
      match e with
      | .nil =>
        none
      | .mk n2 t3 t4 =>
        match t3 with
        | .nil =>
          some e
        | .mk n3 t5 t6 =>
          bif (decide ((n : Int) = 1)) then
            (kinfolkref02_Max N e).bind fun n4 =>
            (kinfolkref02_Leaf n4).bind fun t7 =>
            some t7
          else
            match t with
            | .nil =>
              none
            | .mk n4 t7 t8 =>
              bif (decide ((n4 : Int) = 1)) then
                (rec_kinfolkref04_Fill t2 t4).bind fun t9 =>
                (kinfolkref02_Max N t3).bind fun n5 =>
                (kinfolkref02_Min N t9).bind fun n6 =>
                (kinfolkref04_greater n5 n6).bind fun n7 =>
                (kinfolkref02_Leaf n7).bind fun t10 =>
                (kinfolkref02_Node N n2 t10 t9).bind fun t11 =>
                some t11
              else
                match t2 with
                | .nil =>
                  none
                | .mk n5 t9 t10 =>
                  bif (decide ((n5 : Int) = 1)) then
                    (rec_kinfolkref04_Fill t t3).bind fun t11 =>
                    (kinfolkref02_Max N t4).bind fun n6 =>
                    (kinfolkref02_Min N t11).bind fun n7 =>
                    (kinfolkref04_greater n6 n7).bind fun n8 =>
                    (kinfolkref02_Leaf n8).bind fun t12 =>
                    (kinfolkref02_Node N n2 t11 t12).bind fun t13 =>
                    some t13
                  else
                    (rec_kinfolkref04_Fill t t3).bind fun t11 =>
                    (rec_kinfolkref04_Fill t2 t4).bind fun t12 =>
                    (kinfolkref02_Node N n2 t11 t12).bind fun t13 =>
                    some t13
theorem kinfolkref04_Fill_b_runs (N : Nat) (rec_kinfolkref04_Fill : T_kinfolkref01_ID → T_kinfolkref02_Event → Option (T_kinfolkref02_Event)) (hrec_kinfolkref04_Fill : ∀ i e r_, rec_kinfolkref04_Fill i e = some r_ → Runs Tryd.prog 23 [(.one (.pv (T_kinfolkref01_ID.pv i))), (.one (.pv (T_kinfolkref02_Event.pv e)))] [] [] (kinfolkref04_Fill_out i e r_)) (i : T_kinfolkref01_ID) (e : T_kinfolkref02_Event) (r_ : T_kinfolkref02_Event) (h : kinfolkref04_Fill_b N rec_kinfolkref04_Fill i e = some r_) : Runs Tryd.prog 23 [(.one (.pv (T_kinfolkref01_ID.pv i))), (.one (.pv (T_kinfolkref02_Event.pv e)))] [] [] (kinfolkref04_Fill_out i e r_) := by
  unfold kinfolkref04_Fill_b at h
  cases i with
  | nil =>
    cases h
  | mk n t t2 =>
    rcases cond_of h with ⟨h1, h⟩ | ⟨h1, h⟩
    · have h := some_of h
      subst h
      exact runs_of (C := cfg) (objs := []) (sc := [.br true, .br true]) (.k0 (an_ h1 (an_ (rfl : true = true) trivial)) (by kernel_rfl))
    · cases e with
      | nil =>
        cases h
      | mk n2 t3 t4 =>
        cases t3 with
        | nil =>
          have h := some_of h
          subst h
          exact runs_of (C := cfg) (objs := []) (sc := [.br false, .br true]) (.k0 (an_ h1 (an_ (rfl : true = true) trivial)) (by kernel_rfl))
        | mk n3 t5 t6 =>
          rcases cond_of h with ⟨h2, h⟩ | ⟨h2, h⟩
          · obtain ⟨n4, h3, h⟩ := bind_of h
            obtain ⟨t7, h4, h⟩ := bind_of h
            have h := some_of h
            subst h
            exact runs_of (C := cfg) (objs := []) (sc := [.br false, .br false, .br true, .res (kinfolkref02_Max_out (T_kinfolkref02_Event.mk n2 (T_kinfolkref02_Event.mk n3 t5 t6) t4) n4), .res (kinfolkref02_Leaf_out n4 t7)]) (.k0 (an_ h1 (an_ (rfl : false = false) (an_ h2 (an_ (kinfolkref02_Max_runs N (T_kinfolkref02_Event.mk n2 (T_kinfolkref02_Event.mk n3 t5 t6) t4) _ h3) (an_ (kinfolkref02_Leaf_runs n4 _ h4) trivial))))) (by kernel_rfl))
          · cases t with
            | nil =>
              cases h
            | mk n4 t7 t8 =>
              rcases cond_of h with ⟨h3, h⟩ | ⟨h3, h⟩
              · obtain ⟨t9, h4, h⟩ := bind_of h
                obtain ⟨n5, h5, h⟩ := bind_of h
                obtain ⟨n6, h6, h⟩ := bind_of h
                obtain ⟨n7, h7, h⟩ := bind_of h
                obtain ⟨t10, h8, h⟩ := bind_of h
                obtain ⟨t11, h9, h⟩ := bind_of h
                have h := some_of h
                subst h
                exact runs_of (C := cfg) (objs := []) (sc := [.br false, .br false, .br false, .br true, .res (kinfolkref04_Fill_out t2 t4 t9), .res (kinfolkref02_Max_out (T_kinfolkref02_Event.mk n3 t5 t6) n5), .res (kinfolkref02_Min_out t9 n6), .res (kinfolkref04_greater_out n5 n6 n7), .res (kinfolkref02_Leaf_out n7 t10), .res (kinfolkref02_Node_out n2 t10 t9 t11)]) (.k0 (an_ h1 (an_ (rfl : false = false) (an_ h2 (an_ h3 (an_ (hrec_kinfolkref04_Fill t2 t4 _ h4) (an_ (kinfolkref02_Max_runs N (T_kinfolkref02_Event.mk n3 t5 t6) _ h5) (an_ (kinfolkref02_Min_runs N t9 _ h6) (an_ (kinfolkref04_greater_runs n5 n6 _ h7) (an_ (kinfolkref02_Leaf_runs n7 _ h8) (an_ (kinfolkref02_Node_runs N n2 t10 t9 _ h9) trivial)))))))))) (by kernel_rfl))
              · cases t2 with
                | nil =>
                  cases h
                | mk n5 t9 t10 =>
                  rcases cond_of h with ⟨h4, h⟩ | ⟨h4, h⟩
                  · obtain ⟨t11, h5, h⟩ := bind_of h
                    obtain ⟨n6, h6, h⟩ := bind_of h
                    obtain ⟨n7, h7, h⟩ := bind_of h
                    obtain ⟨n8, h8, h⟩ := bind_of h
                    obtain ⟨t12, h9, h⟩ := bind_of h
                    obtain ⟨t13, h10, h⟩ := bind_of h
                    have h := some_of h
                    subst h
                    exact runs_of (C := cfg) (objs := []) (sc := [.br false, .br false, .br false, .br false, .br true, .res (kinfolkref04_Fill_out (T_kinfolkref01_ID.mk n4 t7 t8) (T_kinfolkref02_Event.mk n3 t5 t6) t11), .res (kinfolkref02_Max_out t4 n6), .res (kinfolkref02_Min_out t11 n7), .res (kinfolkref04_greater_out n6 n7 n8), .res (kinfolkref02_Leaf_out n8 t12), .res (kinfolkref02_Node_out n2 t11 t12 t13)]) (.k0 (an_ h1 (an_ (rfl : false = false) (an_ h2 (an_ h3 (an_ h4 (an_ (hrec_kinfolkref04_Fill (T_kinfolkref01_ID.mk n4 t7 t8) (T_kinfolkref02_Event.mk n3 t5 t6) _ h5) (an_ (kinfolkref02_Max_runs N t4 _ h6) (an_ (kinfolkref02_Min_runs N t11 _ h7) (an_ (kinfolkref04_greater_runs n6 n7 _ h8) (an_ (kinfolkref02_Leaf_runs n8 _ h9) (an_ (kinfolkref02_Node_runs N n2 t11 t12 _ h10) trivial))))))))))) (by kernel_rfl))
                  · obtain ⟨t11, h5, h⟩ := bind_of h
                    obtain ⟨t12, h6, h⟩ := bind_of h
                    obtain ⟨t13, h7, h⟩ := bind_of h
                    have h := some_of h
                    subst h
                    exact runs_of (C := cfg) (objs := []) (sc := [.br false, .br false, .br false, .br false, .br false, .res (kinfolkref04_Fill_out (T_kinfolkref01_ID.mk n4 t7 t8) (T_kinfolkref02_Event.mk n3 t5 t6) t11), .res (kinfolkref04_Fill_out (T_kinfolkref01_ID.mk n5 t9 t10) t4 t12), .res (kinfolkref02_Node_out n2 t11 t12 t13)]) (.k0 (an_ h1 (an_ (rfl : false = false) (an_ h2 (an_ h3 (an_ h4 (an_ (hrec_kinfolkref04_Fill (T_kinfolkref01_ID.mk n4 t7 t8) (T_kinfolkref02_Event.mk n3 t5 t6) _ h5) (an_ (hrec_kinfolkref04_Fill (T_kinfolkref01_ID.mk n5 t9 t10) t4 _ h6) (an_ (kinfolkref02_Node_runs N n2 t11 t12 _ h7) trivial)))))))) (by kernel_rfl))
noncomputable def kinfolkref04_Fill : Nat → T_kinfolkref01_ID → T_kinfolkref02_Event → Option (T_kinfolkref02_Event)
  | 0, _, _ => none
  | N + 1, i, e => kinfolkref04_Fill_b N (kinfolkref04_Fill N) i e
theorem kinfolkref04_Fill_runs : ∀ (N : Nat) (i : T_kinfolkref01_ID) (e : T_kinfolkref02_Event) (r_ : T_kinfolkref02_Event), kinfolkref04_Fill N i e = some r_ → Runs Tryd.prog 23 [(.one (.pv (T_kinfolkref01_ID.pv i))), (.one (.pv (T_kinfolkref02_Event.pv e)))] [] [] (kinfolkref04_Fill_out i e r_)
  | 0, _, _, _, h => by cases h
  | N + 1, i, e, r_, h => kinfolkref04_Fill_b_runs N (kinfolkref04_Fill N) (kinfolkref04_Fill_runs N) i e r_ h
/-! ### kinfolkref02_Text_out -/
def kinfolkref02_Text_out (e : T_kinfolkref02_Event) : ByteArray → Res
  | r1 => ([(.one (.pv (.str r1)))], [], [])
/-! ### kinfolkref02_Dec_out -/
def kinfolkref02_Dec_out (n : Int) : ByteArray → Res
  | r1 => ([(.one (.pv (.str r1)))], [], [])
/-! ### kinfolkref02_Dec -/
noncomputable def kinfolkref02_Dec_b (rec_kinfolkref02_Dec : Int → Option (ByteArray)) (n : Int) : Option (ByteArray) :=
  bif decide ((0 : Int) ≤ (irem .u64 n 10)) && decide (((irem .u64 n 10) : Int) ≤ (iadd .u64 (irem .u64 n 10) 1)) && decide (((iadd .u64 (irem .u64 n 10) 1) : Int) ≤ ((⟨#[48, 49, 50, 51, 52, 53, 54, 55, 56, 57]⟩ : ByteArray).size : Int)) then
  bif (decide ((n : Int) < 10)) then
    some ((⟨#[48, 49, 50, 51, 52, 53, 54, 55, 56, 57]⟩ : ByteArray).extract ((irem .u64 n 10)).toNat ((iadd .u64 (irem .u64 n 10) 1)).toNat)
  else
    (rec_kinfolkref02_Dec (iquo .u64 n 10)).bind fun s =>
    bif decide (s.size + ((⟨#[48, 49, 50, 51, 52, 53, 54, 55, 56, 57]⟩ : ByteArray).extract ((irem .u64 n 10)).toNat ((iadd .u64 (irem .u64 n 10) 1)).toNat).size ≤ 140737488355328) then
    some (s ++ ((⟨#[48, 49, 50, 51, 52, 53, 54, 55, 56, 57]⟩ : ByteArray).extract ((irem .u64 n 10)).toNat ((iadd .u64 (irem .u64 n 10) 1)).toNat))
    else none
  else none
theorem kinfolkref02_Dec_b_runs (rec_kinfolkref02_Dec : Int → Option (ByteArray)) (hrec_kinfolkref02_Dec : ∀ n r_, rec_kinfolkref02_Dec n = some r_ → Runs Tryd.prog 98 [(.one (.pv (.int .u64 n)))] [] [] (kinfolkref02_Dec_out n r_)) (n : Int) (r_ : ByteArray) (h : kinfolkref02_Dec_b rec_kinfolkref02_Dec n = some r_) : Runs Tryd.prog 98 [(.one (.pv (.int .u64 n)))] [] [] (kinfolkref02_Dec_out n r_) := by
  unfold kinfolkref02_Dec_b at h
  obtain ⟨h1, h⟩ := need_of h
  rcases cond_of h with ⟨h2, h⟩ | ⟨h2, h⟩
  · have h := some_of h
    subst h
    exact runs_of (C := cfg) (objs := []) (sc := [.br true]) (.k0 (an_ (rfl : true = true) (an_ (rfl : true = true) (an_ h1 (an_ h2 trivial)))) (by kernel_rfl))
  · obtain ⟨s, h3, h⟩ := bind_of h
    obtain ⟨h4, h⟩ := need_of h
    have h := some_of h
    subst h
    exact runs_of (C := cfg) (objs := []) (sc := [.br false, .res (kinfolkref02_Dec_out (iquo .u64 n 10) s)]) (.k0 (an_ (rfl : true = true) (an_ (rfl : true = true) (an_ h1 (an_ h2 (an_ (rfl : true = true) (an_ (hrec_kinfolkref02_Dec (iquo .u64 n 10) _ h3) (an_ h4 trivial))))))) (by kernel_rfl))
noncomputable def kinfolkref02_Dec : Nat → Int → Option (ByteArray)
  | 0, _ => none
  | N + 1, n => kinfolkref02_Dec_b (kinfolkref02_Dec N) n
theorem kinfolkref02_Dec_runs : ∀ (N : Nat) (n : Int) (r_ : ByteArray), kinfolkref02_Dec N n = some r_ → Runs Tryd.prog 98 [(.one (.pv (.int .u64 n)))] [] [] (kinfolkref02_Dec_out n r_)
  | 0, _, _, h => by cases h
  | N + 1, n, r_, h => kinfolkref02_Dec_b_runs (kinfolkref02_Dec N) (kinfolkref02_Dec_runs N) n r_ h
/-! ### kinfolkref02_Text -/
noncomputable def kinfolkref02_Text_b (N : Nat) (rec_kinfolkref02_Text : T_kinfolkref02_Event → Option (ByteArray)) (e : T_kinfolkref02_Event) : Option (ByteArray) :=
  match e with
  | .nil =>
    none
  | .mk n t t2 =>
    match t with
    | .nil =>
      (kinfolkref02_Dec N n).bind fun s =>
      some s
    | .mk n2 t3 t4 =>
      (kinfolkref02_Dec N n).bind fun s =>
      bif decide ((⟨#[40]⟩ : ByteArray).size + s.size ≤ 140737488355328) then
      bif decide (((⟨#[40]⟩ : ByteArray) ++ s).size + (⟨#[44]⟩ : ByteArray).size ≤ 140737488355328) then
      (rec_kinfolkref02_Text t).bind fun s2 =>
      bif decide ((((⟨#[40]⟩ : ByteArray) ++ s) ++ (⟨#[44]⟩ : ByteArray)).size + s2.size ≤ 140737488355328) then
      bif decide (((((⟨#[40]⟩ : ByteArray) ++ s) ++ (⟨#[44]⟩ : ByteArray)) ++ s2).size + (⟨#[44]⟩ : ByteArray).size ≤ 140737488355328) then
      (rec_kinfolkref02_Text t2).bind fun s3 =>
      bif decide ((((((⟨#[40]⟩ : ByteArray) ++ s) ++ (⟨#[44]⟩ : ByteArray)) ++ s2) ++ (⟨#[44]⟩ : ByteArray)).size + s3.size ≤ 140737488355328) then
      bif decide (((((((⟨#[40]⟩ : ByteArray) ++ s) ++ (⟨#[44]⟩ : ByteArray)) ++ s2) ++ (⟨#[44]⟩ : ByteArray)) ++ s3).size + (⟨#[41]⟩ : ByteArray).size ≤ 140737488355328) then
      some (((((((⟨#[40]⟩ : ByteArray) ++ s) ++ (⟨#[44]⟩ : ByteArray)) ++ s2) ++ (⟨#[44]⟩ : ByteArray)) ++ s3) ++ (⟨#[41]⟩ : ByteArray))
      else none
      else none
      else none
      else none
      else none
      else none
theorem kinfolkref02_Text_b_runs (N : Nat) (rec_kinfolkref02_Text : T_kinfolkref02_Event → Option (ByteArray)) (hrec_kinfolkref02_Text : ∀ e r_, rec_kinfolkref02_Text e = some r_ → Runs Tryd.prog 22 [(.one (.pv (T_kinfolkref02_Event.pv e)))] [] [] (kinfolkref02_Text_out e r_)) (e : T_kinfolkref02_Event) (r_ : ByteArray) (h : kinfolkref02_Text_b N rec_kinfolkref02_Text e = some r_) : Runs Tryd.prog 22 [(.one (.pv (T_kinfolkref02_Event.pv e)))] [] [] (kinfolkref02_Text_out e r_) := by
  unfold kinfolkref02_Text_b at h
  cases e with
  | nil =>
    cases h
  | mk n t t2 =>
    cases t with
    | nil =>
      obtain ⟨s, h1, h⟩ := bind_of h
      have h := some_of h
      subst h
      exact runs_of (C := cfg) (objs := []) (sc := [.br true, .res (kinfolkref02_Dec_out n s)]) (.k0 (an_ (rfl : true = true) (an_ (kinfolkref02_Dec_runs N n _ h1) trivial)) (by kernel_rfl))
    | mk n2 t3 t4 =>
      obtain ⟨s, h1, h⟩ := bind_of h
      obtain ⟨h2, h⟩ := need_of h
      obtain ⟨h3, h⟩ := need_of h
      obtain ⟨s2, h4, h⟩ := bind_of h
      obtain ⟨h5, h⟩ := need_of h
      obtain ⟨h6, h⟩ := need_of h
      obtain ⟨s3, h7, h⟩ := bind_of h
      obtain ⟨h8, h⟩ := need_of h
      obtain ⟨h9, h⟩ := need_of h
      have h := some_of h
      subst h
      exact runs_of (C := cfg) (objs := []) (sc := [.br false, .res (kinfolkref02_Dec_out n s), .res (kinfolkref02_Text_out (T_kinfolkref02_Event.mk n2 t3 t4) s2), .res (kinfolkref02_Text_out t2 s3)]) (.k0 (an_ (rfl : false = false) (an_ (kinfolkref02_Dec_runs N n _ h1) (an_ h2 (an_ h3 (an_ (hrec_kinfolkref02_Text (T_kinfolkref02_Event.mk n2 t3 t4) _ h4) (an_ h5 (an_ h6 (an_ (hrec_kinfolkref02_Text t2 _ h7) (an_ h8 (an_ h9 trivial)))))))))) (by kernel_rfl))
noncomputable def kinfolkref02_Text : Nat → T_kinfolkref02_Event → Option (ByteArray)
  | 0, _ => none
  | N + 1, e => kinfolkref02_Text_b N (kinfolkref02_Text N) e
theorem kinfolkref02_Text_runs : ∀ (N : Nat) (e : T_kinfolkref02_Event) (r_ : ByteArray), kinfolkref02_Text N e = some r_ → Runs Tryd.prog 22 [(.one (.pv (T_kinfolkref02_Event.pv e)))] [] [] (kinfolkref02_Text_out e r_)
  | 0, _, _, h => by cases h
  | N + 1, e, r_, h => kinfolkref02_Text_b_runs N (kinfolkref02_Text N) (kinfolkref02_Text_runs N) e r_ h
/-! ### kinfolkref04_Grow_out -/
def kinfolkref04_Grow_out (i : T_kinfolkref01_ID) (e : T_kinfolkref02_Event) : T_kinfolkref02_Event × Int → Res
  | (r1, r2) => ([(.one (.pv (T_kinfolkref02_Event.pv r1))), (.one (.pv (.int .i64 r2)))], [], [])
/-! ### kinfolkref04_halves_out -/
def kinfolkref04_halves_out (e : T_kinfolkref02_Event) : T_kinfolkref02_Event × T_kinfolkref02_Event → Res
  | (r1, r2) => ([(.one (.pv (T_kinfolkref02_Event.pv r1))), (.one (.pv (T_kinfolkref02_Event.pv r2)))], [], [])
/-! ### kinfolkref04_halves -/
noncomputable def kinfolkref04_halves (e : T_kinfolkref02_Event) : Option (T_kinfolkref02_Event × T_kinfolkref02_Event) :=
  match e with
  | .nil =>
    none
  | .mk n t t2 =>
    match t with
    | .nil =>
      (kinfolkref02_Leaf 0).bind fun t3 =>
      some (t3, t3)
    | .mk n2 t3 t4 =>
      some (t, t2)
theorem kinfolkref04_halves_runs (e : T_kinfolkref02_Event) (r_ : T_kinfolkref02_Event × T_kinfolkref02_Event) (h : kinfolkref04_halves e = some r_) : Runs Tryd.prog 103 [(.one (.pv (T_kinfolkref02_Event.pv e)))] [] [] (kinfolkref04_halves_out e r_) := by
  unfold kinfolkref04_halves at h
  cases e with
  | nil =>
    cases h
  | mk n t t2 =>
    cases t with
    | nil =>
      obtain ⟨t3, h1, h⟩ := bind_of h
      have h := some_of h
      subst h
      exact runs_of (C := cfg) (objs := []) (sc := [.br true, .res (kinfolkref02_Leaf_out 0 t3), .res (kinfolkref02_Leaf_out 0 t3)]) (.k0 (an_ (rfl : true = true) (an_ (kinfolkref02_Leaf_runs 0 _ h1) (an_ (kinfolkref02_Leaf_runs 0 _ h1) trivial))) (by kernel_rfl))
    | mk n2 t3 t4 =>
      have h := some_of h
      subst h
      exact runs_of (C := cfg) (objs := []) (sc := [.br false]) (.k0 (an_ (rfl : false = false) trivial) (by kernel_rfl))
/-! ### kinfolkref01_Left_out -/
def kinfolkref01_Left_out (i : T_kinfolkref01_ID) : T_kinfolkref01_ID → Res
  | r1 => ([(.one (.pv (T_kinfolkref01_ID.pv r1)))], [], [])
/-! ### kinfolkref01_Left -/
noncomputable def kinfolkref01_Left (i : T_kinfolkref01_ID) : Option (T_kinfolkref01_ID) :=
  match i with
  | .nil =>
    none
  | .mk n t t2 =>
    bif (decide ((n : Int) < 2)) then
      some i
    else
      some t
theorem kinfolkref01_Left_runs (i : T_kinfolkref01_ID) (r_ : T_kinfolkref01_ID) (h : kinfolkref01_Left i = some r_) : Runs Tryd.prog 104 [(.one (.pv (T_kinfolkref01_ID.pv i)))] [] [] (kinfolkref01_Left_out i r_) := by
  unfold kinfolkref01_Left at h
  cases i with
  | nil =>
    cases h
  | mk n t t2 =>
    rcases cond_of h with ⟨h1, h⟩ | ⟨h1, h⟩
    · have h := some_of h
      subst h
      exact runs_of (C := cfg) (objs := []) (sc := [.br true]) (.k0 (an_ h1 trivial) (by kernel_rfl))
    · have h := some_of h
      subst h
      exact runs_of (C := cfg) (objs := []) (sc := [.br false]) (.k0 (an_ h1 trivial) (by kernel_rfl))
/-! ### kinfolkref01_Right_out -/
def kinfolkref01_Right_out (i : T_kinfolkref01_ID) : T_kinfolkref01_ID → Res
  | r1 => ([(.one (.pv (T_kinfolkref01_ID.pv r1)))], [], [])
/-! ### kinfolkref01_Right -/
noncomputable def kinfolkref01_Right (i : T_kinfolkref01_ID) : Option (T_kinfolkref01_ID) :=
  match i with
  | .nil =>
    none
  | .mk n t t2 =>
    bif (decide ((n : Int) < 2)) then
      some i
    else
      some t2
theorem kinfolkref01_Right_runs (i : T_kinfolkref01_ID) (r_ : T_kinfolkref01_ID) (h : kinfolkref01_Right i = some r_) : Runs Tryd.prog 105 [(.one (.pv (T_kinfolkref01_ID.pv i)))] [] [] (kinfolkref01_Right_out i r_) := by
  unfold kinfolkref01_Right at h
  cases i with
  | nil =>
    cases h
  | mk n t t2 =>
    rcases cond_of h with ⟨h1, h⟩ | ⟨h1, h⟩
    · have h := some_of h
      subst h
      exact runs_of (C := cfg) (objs := []) (sc := [.br true]) (.k0 (an_ h1 trivial) (by kernel_rfl))
    · have h := some_of h
      subst h
      exact runs_of (C := cfg) (objs := []) (sc := [.br false]) (.k0 (an_ h1 trivial) (by kernel_rfl))
/-! ### kinfolkref04_Grow -/
noncomputable def kinfolkref04_Grow_b (N : Nat) (rec_kinfolkref04_Grow : T_kinfolkref01_ID → T_kinfolkref02_Event → Option (T_kinfolkref02_Event × Int)) (i : T_kinfolkref01_ID) (e : T_kinfolkref02_Event) : Option (T_kinfolkref02_Event × Int) :=
  match e with
  | .nil =>
    none
  | .mk n t t2 =>
    match t with
    | .nil =>
      match i with
      | .nil =>
        none
      | .mk n2 t3 t4 =>
        bif (decide ((n2 : Int) = 1)) then
          (kinfolkref02_Leaf (iadd .u64 n 1)).bind fun t5 =>
          some (t5, 0)
        else
          (kinfolkref04_halves e).bind fun (t5, t6) =>
          (kinfolkref01_Left i).bind fun t7 =>
          (kinfolkref01_Right i).bind fun t8 =>
          match t7 with
          | .nil =>
            none
          | .mk n3 t9 t10 =>
            bif (decide ((n3 : Int) = 0)) then
              (rec_kinfolkref04_Grow t8 t6).bind fun (t11, n4) =>
              (kinfolkref02_Node N n t5 t11).bind fun t12 =>
              some (t12, (iadd .i64 n4 1001))
            else
              match t8 with
              | .nil =>
                none
              | .mk n4 t11 t12 =>
                bif (decide ((n4 : Int) = 0)) then
                  (rec_kinfolkref04_Grow t7 t5).bind fun (t13, n5) =>
                  (kinfolkref02_Node N n t13 t6).bind fun t14 =>
                  some (t14, (iadd .i64 n5 1001))
                else
                  (rec_kinfolkref04_Grow t7 t5).bind fun (t13, n5) =>
                  (rec_kinfolkref04_Grow t8 t6).bind fun (t14, n6) =>
                  bif (decide ((n5 : Int) < n6)) then
                    (kinfolkref02_Node N n t13 t6).bind fun t15 =>
                    some (t15, (iadd .i64 n5 1001))
                  else
                    (kinfolkref02_Node N n t5 t14).bind fun t15 =>
                    some (t15, (iadd .i64 n6 1001))
    | .mk n2 t3 t4 =>
      (kinfolkref04_halves e).bind fun (t5, t6) =>
      (kinfolkref01_Left i).bind fun t7 =>
      (kinfolkref01_Right i).bind fun t8 =>
      match t7 with
      | .nil =>
        none
      | .mk n3 t9 t10 =>
        bif (decide ((n3 : Int) = 0)) then
          (rec_kinfolkref04_Grow t8 t6).bind fun (t11, n4) =>
          (kinfolkref02_Node N n t5 t11).bind fun t12 =>
          some (t12, (iadd .i64 n4 1))
        else
          match t8 with
          | .nil =>
            none
          | .mk n4 t11 t12 =>
            bif (decide ((n4 : Int) = 0)) then
              (rec_kinfolkref04_Grow t7 t5).bind fun (t13, n5) =>
              (kinfolkref02_Node N n t13 t6).bind fun t14 =>
              some (t14, (iadd .i64 n5 1))
            else
              (rec_kinfolkref04_Grow t7 t5).bind fun (t13, n5) =>
              (rec_kinfolkref04_Grow t8 t6).bind fun (t14, n6) =>
              bif (decide ((n5 : Int) < n6)) then
                (kinfolkref02_Node N n t13 t6).bind fun t15 =>
                some (t15, (iadd .i64 n5 1))
              else
                (kinfolkref02_Node N n t5 t14).bind fun t15 =>
                some (t15, (iadd .i64 n6 1))
theorem kinfolkref04_Grow_b_runs (N : Nat) (rec_kinfolkref04_Grow : T_kinfolkref01_ID → T_kinfolkref02_Event → Option (T_kinfolkref02_Event × Int)) (hrec_kinfolkref04_Grow : ∀ i e r_, rec_kinfolkref04_Grow i e = some r_ → Runs Tryd.prog 26 [(.one (.pv (T_kinfolkref01_ID.pv i))), (.one (.pv (T_kinfolkref02_Event.pv e)))] [] [] (kinfolkref04_Grow_out i e r_)) (i : T_kinfolkref01_ID) (e : T_kinfolkref02_Event) (r_ : T_kinfolkref02_Event × Int) (h : kinfolkref04_Grow_b N rec_kinfolkref04_Grow i e = some r_) : Runs Tryd.prog 26 [(.one (.pv (T_kinfolkref01_ID.pv i))), (.one (.pv (T_kinfolkref02_Event.pv e)))] [] [] (kinfolkref04_Grow_out i e r_) := by
  unfold kinfolkref04_Grow_b at h
  cases e with
  | nil =>
    cases h
  | mk n t t2 =>
    cases t with
    | nil =>
      cases i with
      | nil =>
        cases h
      | mk n2 t3 t4 =>
        rcases cond_of h with ⟨h1, h⟩ | ⟨h1, h⟩
        · obtain ⟨t5, h2, h⟩ := bind_of h
          have h := some_of h
          subst h
          exact runs_of (C := cfg) (objs := []) (sc := [.br true, .br true, .res (kinfolkref02_Leaf_out (iadd .u64 n 1) t5)]) (.k0 (an_ (rfl : true = true) (an_ h1 (an_ (kinfolkref02_Leaf_runs (iadd .u64 n 1) _ h2) trivial))) (by kernel_rfl))
        · obtain ⟨⟨t5, t6⟩, h2, h⟩ := bind_of h
          obtain ⟨t7, h3, h⟩ := bind_of h
          obtain ⟨t8, h4, h⟩ := bind_of h
          cases t7 with
          | nil =>
            cases h
          | mk n3 t9 t10 =>
            rcases cond_of h with ⟨h5, h⟩ | ⟨h5, h⟩
            · obtain ⟨⟨t11, n4⟩, h6, h⟩ := bind_of h
              obtain ⟨t12, h7, h⟩ := bind_of h
              have h := some_of h
              subst h
              exact runs_of (C := cfg) (objs := []) (sc := [.br true, .br false, .br true, .res (kinfolkref04_halves_out (T_kinfolkref02_Event.mk n T_kinfolkref02_Event.nil t2) (t5, t6)), .res (kinfolkref01_Left_out (T_kinfolkref01_ID.mk n2 t3 t4) (T_kinfolkref01_ID.mk n3 t9 t10)), .res (kinfolkref01_Right_out (T_kinfolkref01_ID.mk n2 t3 t4) t8), .br true, .res (kinfolkref04_Grow_out t8 t6 (t11, n4)), .res (kinfolkref02_Node_out n t5 t11 t12)]) (.k0 (an_ (rfl : true = true) (an_ h1 (an_ (rfl : true = true) (an_ (kinfolkref04_halves_runs (T_kinfolkref02_Event.mk n T_kinfolkref02_Event.nil t2) _ h2) (an_ (kinfolkref01_Left_runs (T_kinfolkref01_ID.mk n2 t3 t4) _ h3) (an_ (kinfolkref01_Right_runs (T_kinfolkref01_ID.mk n2 t3 t4) _ h4) (an_ h5 (an_ (hrec_kinfolkref04_Grow t8 t6 _ h6) (an_ (kinfolkref02_Node_runs N n t5 t11 _ h7) trivial))))))))) (by kernel_rfl))
            · cases t8 with
              | nil =>
                cases h
              | mk n4 t11 t12 =>
                rcases cond_of h with ⟨h6, h⟩ | ⟨h6, h⟩
                · obtain ⟨⟨t13, n5⟩, h7, h⟩ := bind_of h
                  obtain ⟨t14, h8, h⟩ := bind_of h
                  have h := some_of h
                  subst h
                  exact runs_of (C := cfg) (objs := []) (sc := [.br true, .br false, .br true, .res (kinfolkref04_halves_out (T_kinfolkref02_Event.mk n T_kinfolkref02_Event.nil t2) (t5, t6)), .res (kinfolkref01_Left_out (T_kinfolkref01_ID.mk n2 t3 t4) (T_kinfolkref01_ID.mk n3 t9 t10)), .res (kinfolkref01_Right_out (T_kinfolkref01_ID.mk n2 t3 t4) (T_kinfolkref01_ID.mk n4 t11 t12)), .br false, .br true, .res (kinfolkref04_Grow_out (T_kinfolkref01_ID.mk n3 t9 t10) t5 (t13, n5)), .res (kinfolkref02_Node_out n t13 t6 t14)]) (.k0 (an_ (rfl : true = true) (an_ h1 (an_ (rfl : true = true) (an_ (kinfolkref04_halves_runs (T_kinfolkref02_Event.mk n T_kinfolkref02_Event.nil t2) _ h2) (an_ (kinfolkref01_Left_runs (T_kinfolkref01_ID.mk n2 t3 t4) _ h3) (an_ (kinfolkref01_Right_runs (T_kinfolkref01_ID.mk n2 t3 t4) _ h4) (an_ h5 (an_ h6 (an_ (hrec_kinfolkref04_Grow (T_kinfolkref01_ID.mk n3 t9 t10) t5 _ h7) (an_ (kinfolkref02_Node_runs N n t13 t6 _ h8) trivial)))))))))) (by kernel_rfl))
                · obtain ⟨⟨t13, n5⟩, h7, h⟩ := bind_of h
                  obtain ⟨⟨t14, n6⟩, h8, h⟩ := bind_of h
                  rcases cond_of h with ⟨h9, h⟩ | ⟨h9, h⟩
                  · obtain ⟨t15, h10, h⟩ := bind_of h
                    have h := some_of h
                    subst h
                    exact runs_of (C := cfg) (objs := []) (sc := [.br true, .br false, .br true, .res (kinfolkref04_halves_out (T_kinfolkref02_Event.mk n T_kinfolkref02_Event.nil t2) (t5, t6)), .res (kinfolkref01_Left_out (T_kinfolkref01_ID.mk n2 t3 t4) (T_kinfolkref01_ID.mk n3 t9 t10)), .res (kinfolkref01_Right_out (T_kinfolkref01_ID.mk n2 t3 t4) (T_kinfolkref01_ID.mk n4 t11 t12)), .br false, .br false, .res (kinfolkref04_Grow_out (T_kinfolkref01_ID.mk n3 t9 t10) t5 (t13, n5)), .res (kinfolkref04_Grow_out (T_kinfolkref01_ID.mk n4 t11 t12) t6 (t14, n6)), .br true, .res (kinfolkref02_Node_out n t13 t6 t15)]) (.k0 (an_ (rfl : true = true) (an_ h1 (an_ (rfl : true = true) (an_ (kinfolkref04_halves_runs (T_kinfolkref02_Event.mk n T_kinfolkref02_Event.nil t2) _ h2) (an_ (kinfolkref01_Left_runs (T_kinfolkref01_ID.mk n2 t3 t4) _ h3) (an_ (kinfolkref01_Right_runs (T_kinfolkref01_ID.mk n2 t3 t4) _ h4) (an_ h5 (an_ h6 (an_ (hrec_kinfolkref04_Grow (T_kinfolkref01_ID.mk n3 t9 t10) t5 _ h7) (an_ (hrec_kinfolkref04_Grow (T_kinfolkref01_ID.mk n4 t11 t12) t6 _ h8) (an_ h9 (an_ (kinfolkref02_Node_runs N n t13 t6 _ h10) trivial)))))))))))) (by kernel_rfl))
                  · obtain ⟨t15, h10, h⟩ := bind_of h
                    have h := some_of h
                    subst h
                    exact runs_of (C := cfg) (objs := []) (sc := [.br true, .br false, .br true, .res (kinfolkref04_halves_out (T_kinfolkref02_Event.mk n T_kinfolkref02_Event.nil t2) (t5, t6)), .res (kinfolkref01_Left_out (T_kinfolkref01_ID.mk n2 t3 t4) (T_kinfolkref01_ID.mk n3 t9 t10)), .res (kinfolkref01_Right_out (T_kinfolkref01_ID.mk n2 t3 t4) (T_kinfolkref01_ID.mk n4 t11 t12)), .br false, .br false, .res (kinfolkref04_Grow_out (T_kinfolkref01_ID.mk n3 t9 t10) t5 (t13, n5)), .res (kinfolkref04_Grow_out (T_kinfolkref01_ID.mk n4 t11 t12) t6 (t14, n6)), .br false, .res (kinfolkref02_Node_out n t5 t14 t15)]) (.k0 (an_ (rfl : true = true) (an_ h1 (an_ (rfl : true = true) (an_ (kinfolkref04_halves_runs (T_kinfolkref02_Event.mk n T_kinfolkref02_Event.nil t2) _ h2) (an_ (kinfolkref01_Left_runs (T_kinfolkref01_ID.mk n2 t3 t4) _ h3) (an_ (kinfolkref01_Right_runs (T_kinfolkref01_ID.mk n2 t3 t4) _ h4) (an_ h5 (an_ h6 (an_ (hrec_kinfolkref04_Grow (T_kinfolkref01_ID.mk n3 t9 t10) t5 _ h7) (an_ (hrec_kinfolkref04_Grow (T_kinfolkref01_ID.mk n4 t11 t12) t6 _ h8) (an_ h9 (an_ (kinfolkref02_Node_runs N n t5 t14 _ h10) trivial)))))))))))) (by kernel_rfl))
    | mk n2 t3 t4 =>
      obtain ⟨⟨t5, t6⟩, h1, h⟩ := bind_of h
      obtain ⟨t7, h2, h⟩ := bind_of h
      obtain ⟨t8, h3, h⟩ := bind_of h
      cases t7 with
      | nil =>
        cases h
      | mk n3 t9 t10 =>
        rcases cond_of h with ⟨h4, h⟩ | ⟨h4, h⟩
        · obtain ⟨⟨t11, n4⟩, h5, h⟩ := bind_of h
          obtain ⟨t12, h6, h⟩ := bind_of h
          have h := some_of h
          subst h
          exact runs_of (C := cfg) (objs := []) (sc := [.br false, .br false, .br false, .res (kinfolkref04_halves_out (T_kinfolkref02_Event.mk n (T_kinfolkref02_Event.mk n2 t3 t4) t2) (t5, t6)), .res (kinfolkref01_Left_out i (T_kinfolkref01_ID.mk n3 t9 t10)), .res (kinfolkref01_Right_out i t8), .br true, .res (kinfolkref04_Grow_out t8 t6 (t11, n4)), .res (kinfolkref02_Node_out n t5 t11 t12)]) (.k0 (an_ (rfl : false = false) (an_ (rfl : false = false) (an_ (rfl : false = false) (an_ (kinfolkref04_halves_runs (T_kinfolkref02_Event.mk n (T_kinfolkref02_Event.mk n2 t3 t4) t2) _ h1) (an_ (kinfolkref01_Left_runs i _ h2) (an_ (kinfolkref01_Right_runs i _ h3) (an_ h4 (an_ (hrec_kinfolkref04_Grow t8 t6 _ h5) (an_ (kinfolkref02_Node_runs N n t5 t11 _ h6) trivial))))))))) (by kernel_rfl))
        · cases t8 with
          | nil =>
            cases h
          | mk n4 t11 t12 =>
            rcases cond_of h with ⟨h5, h⟩ | ⟨h5, h⟩
            · obtain ⟨⟨t13, n5⟩, h6, h⟩ := bind_of h
              obtain ⟨t14, h7, h⟩ := bind_of h
              have h := some_of h
              subst h
              exact runs_of (C := cfg) (objs := []) (sc := [.br false, .br false, .br false, .res (kinfolkref04_halves_out (T_kinfolkref02_Event.mk n (T_kinfolkref02_Event.mk n2 t3 t4) t2) (t5, t6)), .res (kinfolkref01_Left_out i (T_kinfolkref01_ID.mk n3 t9 t10)), .res (kinfolkref01_Right_out i (T_kinfolkref01_ID.mk n4 t11 t12)), .br false, .br true, .res (kinfolkref04_Grow_out (T_kinfolkref01_ID.mk n3 t9 t10) t5 (t13, n5)), .res (kinfolkref02_Node_out n t13 t6 t14)]) (.k0 (an_ (rfl : false = false) (an_ (rfl : false = false) (an_ (rfl : false = false) (an_ (kinfolkref04_halves_runs (T_kinfolkref02_Event.mk n (T_kinfolkref02_Event.mk n2 t3 t4) t2) _ h1) (an_ (kinfolkref01_Left_runs i _ h2) (an_ (kinfolkref01_Right_runs i _ h3) (an_ h4 (an_ h5 (an_ (hrec_kinfolkref04_Grow (T_kinfolkref01_ID.mk n3 t9 t10) t5 _ h6) (an_ (kinfolkref02_Node_runs N n t13 t6 _ h7) trivial)))))))))) (by kernel_rfl))
            · obtain ⟨⟨t13, n5⟩, h6, h⟩ := bind_of h
              obtain ⟨⟨t14, n6⟩, h7, h⟩ := bind_of h
              rcases cond_of h with ⟨h8, h⟩ | ⟨h8, h⟩
              · obtain ⟨t15, h9, h⟩ := bind_of h
                have h := some_of h
                subst h
                exact runs_of (C := cfg) (objs := []) (sc := [.br false, .br false, .br false, .res (kinfolkref04_halves_out (T_kinfolkref02_Event.mk n (T_kinfolkref02_Event.mk n2 t3 t4) t2) (t5, t6)), .res (kinfolkref01_Left_out i (T_kinfolkref01_ID.mk n3 t9 t10)), .res (kinfolkref01_Right_out i (T_kinfolkref01_ID.mk n4 t11 t12)), .br false, .br false, .res (kinfolkref04_Grow_out (T_kinfolkref01_ID.mk n3 t9 t10) t5 (t13, n5)), .res (kinfolkref04_Grow_out (T_kinfolkref01_ID.mk n4 t11 t12) t6 (t14, n6)), .br true, .res (kinfolkref02_Node_out n t13 t6 t15)]) (.k0 (an_ (rfl : false = false) (an_ (rfl : false = false) (an_ (rfl : false = false) (an_ (kinfolkref04_halves_runs (T_kinfolkref02_Event.mk n (T_kinfolkref02_Event.mk n2 t3 t4) t2) _ h1) (an_ (kinfolkref01_Left_runs i _ h2) (an_ (kinfolkref01_Right_runs i _ h3) (an_ h4 (an_ h5 (an_ (hrec_kinfolkref04_Grow (T_kinfolkref01_ID.mk n3 t9 t10) t5 _ h6) (an_ (hrec_kinfolkref04_Grow (T_kinfolkref01_ID.mk n4 t11 t12) t6 _ h7) (an_ h8 (an_ (kinfolkref02_Node_runs N n t13 t6 _ h9) trivial)))))))))))) (by kernel_rfl))
              · obtain ⟨t15, h9, h⟩ := bind_of h
                have h := some_of h
                subst h
                exact runs_of (C := cfg) (objs := []) (sc := [.br false, .br false, .br false, .res (kinfolkref04_halves_out (T_kinfolkref02_Event.mk n (T_kinfolkref02_Event.mk n2 t3 t4) t2) (t5, t6)), .res (kinfolkref01_Left_out i (T_kinfolkref01_ID.mk n3 t9 t10)), .res (kinfolkref01_Right_out i (T_kinfolkref01_ID.mk n4 t11 t12)), .br false, .br false, .res (kinfolkref04_Grow_out (T_kinfolkref01_ID.mk n3 t9 t10) t5 (t13, n5)), .res (kinfolkref04_Grow_out (T_kinfolkref01_ID.mk n4 t11 t12) t6 (t14, n6)), .br false, .res (kinfolkref02_Node_out n t5 t14 t15)]) (.k0 (an_ (rfl : false = false) (an_ (rfl : false = false) (an_ (rfl : false = false) (an_ (kinfolkref04_halves_runs (T_kinfolkref02_Event.mk n (T_kinfolkref02_Event.mk n2 t3 t4) t2) _ h1) (an_ (kinfolkref01_Left_runs i _ h2) (an_ (kinfolkref01_Right_runs i _ h3) (an_ h4 (an_ h5 (an_ (hrec_kinfolkref04_Grow (T_kinfolkref01_ID.mk n3 t9 t10) t5 _ h6) (an_ (hrec_kinfolkref04_Grow (T_kinfolkref01_ID.mk n4 t11 t12) t6 _ h7) (an_ h8 (an_ (kinfolkref02_Node_runs N n t5 t14 _ h9) trivial)))))))))))) (by kernel_rfl))
noncomputable def kinfolkref04_Grow : Nat → T_kinfolkref01_ID → T_kinfolkref02_Event → Option (T_kinfolkref02_Event × Int)
  | 0, _, _ => none
  | N + 1, i, e => kinfolkref04_Grow_b N (kinfolkref04_Grow N) i e
theorem kinfolkref04_Grow_runs : ∀ (N : Nat) (i : T_kinfolkref01_ID) (e : T_kinfolkref02_Event) (r_ : T_kinfolkref02_Event × Int), kinfolkref04_Grow N i e = some r_ → Runs Tryd.prog 26 [(.one (.pv (T_kinfolkref01_ID.pv i))), (.one (.pv (T_kinfolkref02_Event.pv e)))] [] [] (kinfolkref04_Grow_out i e r_)
  | 0, _, _, _, h => by cases h
  | N + 1, i, e, r_, h => kinfolkref04_Grow_b_runs N (kinfolkref04_Grow N) (kinfolkref04_Grow_runs N) i e r_ h
/-! ### kinfolklaw04_StampGrows -/
noncomputable def kinfolklaw04_StampGrows (N : Nat) (p : List Int) (q : List Int) : Option (Bool) :=
  (kinfolklaw04_awake N).bind fun b =>
  bif b then
    (kinfolklaw04_made N p q).bind fun (b2, t, n, t2, t3, t4) =>
    (stamp_Fill N b2 t n t2).bind fun (n2, t5) =>
    (event_Event_Text N n2 t5).bind fun s =>
    (kinfolkref04_Fill N t3 t4).bind fun t6 =>
    (kinfolkref02_Text N t6).bind fun s2 =>
    bif decide (s = s2) then
      (stamp_Grow N b2 t n t2).bind fun (n3, t7, n4, n5) =>
      match t3 with
      | .nil =>
        none
      | .mk n6 t8 t9 =>
        bif (decide ((n6 : Int) = 0)) then
          bif (decide ((n5 : Int) = 2)) then
            bif (decide ((n4 : Int) = 0)) then
              (event_Same N n3 t7 n t2).bind fun b3 =>
              some b3
            else
              some false
          else
            some false
        else
          (kinfolkref04_Grow N t3 t4).bind fun (t10, n7) =>
          bif (decide ((n5 : Int) = 0)) then
            (event_Event_Text N n3 t7).bind fun s3 =>
            (kinfolkref02_Text N t10).bind fun s4 =>
            bif (decide (s3 = s4)) then
              some (decide ((n4 : Int) = n7))
            else
              some false
          else
            some false
    else
      some false
  else
    some false
theorem kinfolklaw04_StampGrows_runs (N : Nat) (p : List Int) (q : List Int) (r_ : Bool) (h : kinfolklaw04_StampGrows N p q = some r_) : Runs Tryd.prog 3 [(.one (.pv (.ints .u8 p false))), (.one (.pv (.ints .u8 q false)))] [] [] (kinfolklaw04_StampGrows_out p q r_) := by
  unfold kinfolklaw04_StampGrows at h
  obtain ⟨b, h1, h⟩ := bind_of h
  rcases cond_of h with ⟨h2, h⟩ | ⟨h2, h⟩
  · obtain ⟨⟨b2, t, n, t2, t3, t4⟩, h3, h⟩ := bind_of h
    obtain ⟨⟨n2, t5⟩, h4, h⟩ := bind_of h
    obtain ⟨s, h5, h⟩ := bind_of h
    obtain ⟨t6, h6, h⟩ := bind_of h
    obtain ⟨s2, h7, h⟩ := bind_of h
    rcases cond_of h with ⟨h8, h⟩ | ⟨h8, h⟩
    · obtain ⟨⟨n3, t7, n4, n5⟩, h9, h⟩ := bind_of h
      cases t3 with
      | nil =>
        cases h
      | mk n6 t8 t9 =>
        rcases cond_of h with ⟨h10, h⟩ | ⟨h10, h⟩
        · rcases cond_of h with ⟨h11, h⟩ | ⟨h11, h⟩
          · rcases cond_of h with ⟨h12, h⟩ | ⟨h12, h⟩
            · obtain ⟨b3, h13, h⟩ := bind_of h
              have h := some_of h
              subst h
              exact runs_of (C := cfg) (objs := []) (sc := [.res (kinfolklaw04_awake_out b), .br false, .res (kinfolklaw04_made_out p q (b2, t, n, t2, (T_kinfolkref01_ID.mk n6 t8 t9), t4)), .res (stamp_Fill_out b2 t n t2 (n2, t5)), .res (stamp_Fill_out b2 t n t2 (n2, t5)), .res (stamp_Fill_out b2 t n t2 (n2, t5)), .res (event_Event_Text_out n2 t5 s), .res (event_Event_Text_out n2 t5 s), .res (event_Event_Text_out n2 t5 s), .res (stamp_Fill_out b2 t n t2 (n2, t5)), .res (event_Event_Text_out n2 t5 s), .res (kinfolkref04_Fill_out (T_kinfolkref01_ID.mk n6 t8 t9) t4 t6), .res (kinfolkref02_Text_out t6 s2), .br false, .res (stamp_Grow_out b2 t n t2 (n3, t7, n4, n5)), .br true, .br true, .br true, .res (event_Same_out n3 t7 n t2 b3)]) (.k1 (an_ (kinfolklaw04_awake_runs N _ h1) (an_ (not_of2 h2) (an_ (kinfolklaw04_made_runs N p q _ h3) (an_ (stamp_Fill_runs N b2 t n t2 _ h4) (an_ (stamp_Fill_runs N b2 t n t2 _ h4) (an_ (stamp_Fill_runs N b2 t n t2 _ h4) (an_ (event_Event_Text_runs N n2 t5 _ h5) (an_ (event_Event_Text_runs N n2 t5 _ h5) (an_ (event_Event_Text_runs N n2 t5 _ h5) (an_ (stamp_Fill_runs N b2 t n t2 _ h4) (an_ (event_Event_Text_runs N n2 t5 _ h5) (an_ (kinfolkref04_Fill_runs N (T_kinfolkref01_ID.mk n6 t8 t9) t4 _ h6) (an_ (kinfolkref02_Text_runs N t6 _ h7) (an_ (not_of2 h8) (an_ (stamp_Grow_runs N b2 t n t2 _ h9) (an_ h10 (an_ h11 (an_ h12 (an_ (event_Same_runs N n3 t7 n t2 _ h13) trivial))))))))))))))))))) (by kernel_rfl) (by kernel_rfl))
            · have h := some_of h
              subst h
              exact runs_of (C := cfg) (objs := []) (sc := [.res (kinfolklaw04_awake_out b), .br false, .res (kinfolklaw04_made_out p q (b2, t, n, t2, (T_kinfolkref01_ID.mk n6 t8 t9), t4)), .res (stamp_Fill_out b2 t n t2 (n2, t5)), .res (stamp_Fill_out b2 t n t2 (n2, t5)), .res (stamp_Fill_out b2 t n t2 (n2, t5)), .res (event_Event_Text_out n2 t5 s), .res (event_Event_Text_out n2 t5 s), .res (event_Event_Text_out n2 t5 s), .res (stamp_Fill_out b2 t n t2 (n2, t5)), .res (event_Event_Text_out n2 t5 s), .res (kinfolkref04_Fill_out (T_kinfolkref01_ID.mk n6 t8 t9) t4 t6), .res (kinfolkref02_Text_out t6 s2), .br false, .res (stamp_Grow_out b2 t n t2 (n3, t7, n4, n5)), .br true, .br true, .br false]) (.k1 (an_ (kinfolklaw04_awake_runs N _ h1) (an_ (not_of2 h2) (an_ (kinfolklaw04_made_runs N p q _ h3) (an_ (stamp_Fill_runs N b2 t n t2 _ h4) (an_ (stamp_Fill_runs N b2 t n t2 _ h4) (an_ (stamp_Fill_runs N b2 t n t2 _ h4) (an_ (event_Event_Text_runs N n2 t5 _ h5) (an_ (event_Event_Text_runs N n2 t5 _ h5) (an_ (event_Event_Text_runs N n2 t5 _ h5) (an_ (stamp_Fill_runs N b2 t n t2 _ h4) (an_ (event_Event_Text_runs N n2 t5 _ h5) (an_ (kinfolkref04_Fill_runs N (T_kinfolkref01_ID.mk n6 t8 t9) t4 _ h6) (an_ (kinfolkref02_Text_runs N t6 _ h7) (an_ (not_of2 h8) (an_ (stamp_Grow_runs N b2 t n t2 _ h9) (an_ h10 (an_ h11 (an_ h12 trivial)))))))))))))))))) (by kernel_rfl) (by kernel_rfl))
          · have h := some_of h
            subst h
            exact runs_of (C := cfg) (objs := []) (sc := [.res (kinfolklaw04_awake_out b), .br false, .res (kinfolklaw04_made_out p q (b2, t, n, t2, (T_kinfolkref01_ID.mk n6 t8 t9), t4)), .res (stamp_Fill_out b2 t n t2 (n2, t5)), .res (stamp_Fill_out b2 t n t2 (n2, t5)), .res (stamp_Fill_out b2 t n t2 (n2, t5)), .res (event_Event_Text_out n2 t5 s), .res (event_Event_Text_out n2 t5 s), .res (event_Event_Text_out n2 t5 s), .res (stamp_Fill_out b2 t n t2 (n2, t5)), .res (event_Event_Text_out n2 t5 s), .res (kinfolkref04_Fill_out (T_kinfolkref01_ID.mk n6 t8 t9) t4 t6), .res (kinfolkref02_Text_out t6 s2), .br false, .res (stamp_Grow_out b2 t n t2 (n3, t7, n4, n5)), .br true, .br false, .br false]) (.k1 (an_ (kinfolklaw04_awake_runs N _ h1) (an_ (not_of2 h2) (an_ (kinfolklaw04_made_runs N p q _ h3) (an_ (stamp_Fill_runs N b2 t n t2 _ h4) (an_ (stamp_Fill_runs N b2 t n t2 _ h4) (an_ (stamp_Fill_runs N b2 t n t2 _ h4) (an_ (event_Event_Text_runs N n2 t5 _ h5) (an_ (event_Event_Text_runs N n2 t5 _ h5) (an_ (event_Event_Text_runs N n2 t5 _ h5) (an_ (stamp_Fill_runs N b2 t n t2 _ h4) (an_ (event_Event_Text_runs N n2 t5 _ h5) (an_ (kinfolkref04_Fill_runs N (T_kinfolkref01_ID.mk n6 t8 t9) t4 _ h6) (an_ (kinfolkref02_Text_runs N t6 _ h7) (an_ (not_of2 h8) (an_ (stamp_Grow_runs N b2 t n t2 _ h9) (an_ h10 (an_ h11 (an_ (rfl : false = false) trivial)))))))))))))))))) (by kernel_rfl) (by kernel_rfl))
        · obtain ⟨⟨t10, n7⟩, h11, h⟩ := bind_of h
          rcases cond_of h with ⟨h12, h⟩ | ⟨h12, h⟩
          · obtain ⟨s3, h13, h⟩ := bind_of h
            obtain ⟨s4, h14, h⟩ := bind_of h
            rcases cond_of h with ⟨h15, h⟩ | ⟨h15, h⟩
            · have h := some_of h
              subst h
              exact runs_of (C := cfg) (objs := []) (sc := [.res (kinfolklaw04_awake_out b), .br false, .res (kinfolklaw04_made_out p q (b2, t, n, t2, (T_kinfolkref01_ID.mk n6 t8 t9), t4)), .res (stamp_Fill_out b2 t n t2 (n2, t5)), .res (stamp_Fill_out b2 t n t2 (n2, t5)), .res (stamp_Fill_out b2 t n t2 (n2, t5)), .res (event_Event_Text_out n2 t5 s), .res (event_Event_Text_out n2 t5 s), .res (event_Event_Text_out n2 t5 s), .res (stamp_Fill_out b2 t n t2 (n2, t5)), .res (event_Event_Text_out n2 t5 s), .res (kinfolkref04_Fill_out (T_kinfolkref01_ID.mk n6 t8 t9) t4 t6), .res (kinfolkref02_Text_out t6 s2), .br false, .res (stamp_Grow_out b2 t n t2 (n3, t7, n4, n5)), .br false, .res (kinfolkref04_Grow_out (T_kinfolkref01_ID.mk n6 t8 t9) t4 (t10, n7)), .br true, .res (event_Event_Text_out n3 t7 s3), .res (kinfolkref02_Text_out t10 s4), .br true]) (.k1 (an_ (kinfolklaw04_awake_runs N _ h1) (an_ (not_of2 h2) (an_ (kinfolklaw04_made_runs N p q _ h3) (an_ (stamp_Fill_runs N b2 t n t2 _ h4) (an_ (stamp_Fill_runs N b2 t n t2 _ h4) (an_ (stamp_Fill_runs N b2 t n t2 _ h4) (an_ (event_Event_Text_runs N n2 t5 _ h5) (an_ (event_Event_Text_runs N n2 t5 _ h5) (an_ (event_Event_Text_runs N n2 t5 _ h5) (an_ (stamp_Fill_runs N b2 t n t2 _ h4) (an_ (event_Event_Text_runs N n2 t5 _ h5) (an_ (kinfolkref04_Fill_runs N (T_kinfolkref01_ID.mk n6 t8 t9) t4 _ h6) (an_ (kinfolkref02_Text_runs N t6 _ h7) (an_ (not_of2 h8) (an_ (stamp_Grow_runs N b2 t n t2 _ h9) (an_ h10 (an_ (kinfolkref04_Grow_runs N (T_kinfolkref01_ID.mk n6 t8 t9) t4 _ h11) (an_ h12 (an_ (event_Event_Text_runs N n3 t7 _ h13) (an_ (kinfolkref02_Text_runs N t10 _ h14) (an_ h15 trivial))))))))))))))))))))) (by kernel_rfl) (by kernel_rfl))
            · have h := some_of h
              subst h
              exact runs_of (C := cfg) (objs := []) (sc := [.res (kinfolklaw04_awake_out b), .br false, .res (kinfolklaw04_made_out p q (b2, t, n, t2, (T_kinfolkref01_ID.mk n6 t8 t9), t4)), .res (stamp_Fill_out b2 t n t2 (n2, t5)), .res (stamp_Fill_out b2 t n t2 (n2, t5)), .res (stamp_Fill_out b2 t n t2 (n2, t5)), .res (event_Event_Text_out n2 t5 s), .res (event_Event_Text_out n2 t5 s), .res (event_Event_Text_out n2 t5 s), .res (stamp_Fill_out b2 t n t2 (n2, t5)), .res (event_Event_Text_out n2 t5 s), .res (kinfolkref04_Fill_out (T_kinfolkref01_ID.mk n6 t8 t9) t4 t6), .res (kinfolkref02_Text_out t6 s2), .br false, .res (stamp_Grow_out b2 t n t2 (n3, t7, n4, n5)), .br false, .res (kinfolkref04_Grow_out (T_kinfolkref01_ID.mk n6 t8 t9) t4 (t10, n7)), .br true, .res (event_Event_Text_out n3 t7 s3), .res (kinfolkref02_Text_out t10 s4), .br false]) (.k1 (an_ (kinfolklaw04_awake_runs N _ h1) (an_ (not_of2 h2) (an_ (kinfolklaw04_made_runs N p q _ h3) (an_ (stamp_Fill_runs N b2 t n t2 _ h4) (an_ (stamp_Fill_runs N b2 t n t2 _ h4) (an_ (stamp_Fill_runs N b2 t n t2 _ h4) (an_ (event_Event_Text_runs N n2 t5 _ h5) (an_ (event_Event_Text_runs N n2 t5 _ h5) (an_ (event_Event_Text_runs N n2 t5 _ h5) (an_ (stamp_Fill_runs N b2 t n t2 _ h4) (an_ (event_Event_Text_runs N n2 t5 _ h5) (an_ (kinfolkref04_Fill_runs N (T_kinfolkref01_ID.mk n6 t8 t9) t4 _ h6) (an_ (kinfolkref02_Text_runs N t6 _ h7) (an_ (not_of2 h8) (an_ (stamp_Grow_runs N b2 t n t2 _ h9) (an_ h10 (an_ (kinfolkref04_Grow_runs N (T_kinfolkref01_ID.mk n6 t8 t9) t4 _ h11) (an_ h12 (an_ (event_Event_Text_runs N n3 t7 _ h13) (an_ (kinfolkref02_Text_runs N t10 _ h14) (an_ h15 trivial))))))))))))))))))))) (by kernel_rfl) (by kernel_rfl))
          · have h := some_of h
            subst h
            exact runs_of (C := cfg) (objs := []) (sc := [.res (kinfolklaw04_awake_out b), .br false, .res (kinfolklaw04_made_out p q (b2, t, n, t2, (T_kinfolkref01_ID.mk n6 t8 t9), t4)), .res (stamp_Fill_out b2 t n t2 (n2, t5)), .res (stamp_Fill_out b2 t n t2 (n2, t5)), .res (stamp_Fill_out b2 t n t2 (n2, t5)), .res (event_Event_Text_out n2 t5 s), .res (event_Event_Text_out n2 t5 s), .res (event_Event_Text_out n2 t5 s), .res (stamp_Fill_out b2 t n t2 (n2, t5)), .res (event_Event_Text_out n2 t5 s), .res (kinfolkref04_Fill_out (T_kinfolkref01_ID.mk n6 t8 t9) t4 t6), .res (kinfolkref02_Text_out t6 s2), .br false, .res (stamp_Grow_out b2 t n t2 (n3, t7, n4, n5)), .br false, .res (kinfolkref04_Grow_out (T_kinfolkref01_ID.mk n6 t8 t9) t4 (t10, n7)), .br false, .br false]) (.k1 (an_ (kinfolklaw04_awake_runs N _ h1) (an_ (not_of2 h2) (an_ (kinfolklaw04_made_runs N p q _ h3) (an_ (stamp_Fill_runs N b2 t n t2 _ h4) (an_ (stamp_Fill_runs N b2 t n t2 _ h4) (an_ (stamp_Fill_runs N b2 t n t2 _ h4) (an_ (event_Event_Text_runs N n2 t5 _ h5) (an_ (event_Event_Text_runs N n2 t5 _ h5) (an_ (event_Event_Text_runs N n2 t5 _ h5) (an_ (stamp_Fill_runs N b2 t n t2 _ h4) (an_ (event_Event_Text_runs N n2 t5 _ h5) (an_ (kinfolkref04_Fill_runs N (T_kinfolkref01_ID.mk n6 t8 t9) t4 _ h6) (an_ (kinfolkref02_Text_runs N t6 _ h7) (an_ (not_of2 h8) (an_ (stamp_Grow_runs N b2 t n t2 _ h9) (an_ h10 (an_ (kinfolkref04_Grow_runs N (T_kinfolkref01_ID.mk n6 t8 t9) t4 _ h11) (an_ h12 (an_ (rfl : false = false) trivial))))))))))))))))))) (by kernel_rfl) (by kernel_rfl))
    · have h := some_of h
      subst h
      exact runs_of (C := cfg) (objs := []) (sc := [.res (kinfolklaw04_awake_out b), .br false, .res (kinfolklaw04_made_out p q (b2, t, n, t2, t3, t4)), .res (stamp_Fill_out b2 t n t2 (n2, t5)), .res (stamp_Fill_out b2 t n t2 (n2, t5)), .res (stamp_Fill_out b2 t n t2 (n2, t5)), .res (event_Event_Text_out n2 t5 s), .res (event_Event_Text_out n2 t5 s), .res (event_Event_Text_out n2 t5 s), .res (stamp_Fill_out b2 t n t2 (n2, t5)), .res (event_Event_Text_out n2 t5 s), .res (kinfolkref04_Fill_out t3 t4 t6), .res (kinfolkref02_Text_out t6 s2), .br true]) (.k1 (an_ (kinfolklaw04_awake_runs N _ h1) (an_ (not_of2 h2) (an_ (kinfolklaw04_made_runs N p q _ h3) (an_ (stamp_Fill_runs N b2 t n t2 _ h4) (an_ (stamp_Fill_runs N b2 t n t2 _ h4) (an_ (stamp_Fill_runs N b2 t n t2 _ h4) (an_ (event_Event_Text_runs N n2 t5 _ h5) (an_ (event_Event_Text_runs N n2 t5 _ h5) (an_ (event_Event_Text_runs N n2 t5 _ h5) (an_ (stamp_Fill_runs N b2 t n t2 _ h4) (an_ (event_Event_Text_runs N n2 t5 _ h5) (an_ (kinfolkref04_Fill_runs N t3 t4 _ h6) (an_ (kinfolkref02_Text_runs N t6 _ h7) (an_ (not_of h8) trivial)))))))))))))) (by kernel_rfl) (by kernel_rfl))
  · have h := some_of h
    subst h
    exact runs_of (C := cfg) (objs := []) (sc := [.res (kinfolklaw04_awake_out b), .br true]) (.k0 (an_ (kinfolklaw04_awake_runs N _ h1) (an_ (not_of h2) trivial)) (by kernel_rfl))
/-! ### kinfolklaw04_StampFills_out -/
def kinfolklaw04_StampFills_out (p : List Int) (q : List Int) : Bool → Res
  | r1 => ([(.one (.pv (.bool r1)))], [], [])
/-! ### kinfolkref02_Heights_out -/
def kinfolkref02_Heights_out (e : T_kinfolkref02_Event) (depth : Int) : List Int → Res
  | r1 => ([(.one (.own 0 0 (r1).length false))], [], [(.ints .u64 r1)])
/-! ### kinfolkref02_Left_out -/
def kinfolkref02_Left_out (e : T_kinfolkref02_Event) : T_kinfolkref02_Event → Res
  | r1 => ([(.one (.pv (T_kinfolkref02_Event.pv r1)))], [], [])
/-! ### kinfolkref02_Add_out -/
def kinfolkref02_Add_out (e : T_kinfolkref02_Event) (n : Int) : T_kinfolkref02_Event → Res
  | r1 => ([(.one (.pv (T_kinfolkref02_Event.pv r1)))], [], [])
/-! ### kinfolkref02_Add -/
noncomputable def kinfolkref02_Add (e : T_kinfolkref02_Event) (n : Int) : Option (T_kinfolkref02_Event) :=
  match e with
  | .nil =>
    none
  | .mk n2 t t2 =>
    some (T_kinfolkref02_Event.mk (iadd .u64 n2 n) t t2)
theorem kinfolkref02_Add_runs (e : T_kinfolkref02_Event) (n : Int) (r_ : T_kinfolkref02_Event) (h : kinfolkref02_Add e n = some r_) : Runs Tryd.prog 119 [(.one (.pv (T_kinfolkref02_Event.pv e))), (.one (.pv (.int .u64 n)))] [] [] (kinfolkref02_Add_out e n r_) := by
  unfold kinfolkref02_Add at h
  cases e with
  | nil =>
    cases h
  | mk n2 t t2 =>
    have h := some_of h
    subst h
    have e_ : Runs Tryd.prog 119 [(.one (.pv (T_kinfolkref02_Event.pv (T_kinfolkref02_Event.mk n2 t t2)))), (.one (.pv (.int .u64 n)))] [] [] ([(.one (.pv (.imm [(.int .u64 (iadd .u64 n2 n)), (T_kinfolkref02_Event.pv t), (T_kinfolkref02_Event.pv t2)] 0)))], [], []) := runs_of (C := cfg) (objs := []) (sc := []) (.k0 (trivial) (by kernel_rfl))
    exact e_.out ⟨.eq rfl, trivial⟩ trivial trivial rfl
/-! ### kinfolkref02_Left -/
noncomputable def kinfolkref02_Left (e : T_kinfolkref02_Event) : Option (T_kinfolkref02_Event) :=
  match e with
  | .nil =>
    none
  | .mk n t t2 =>
    match t with
    | .nil =>
      some e
    | .mk n2 t3 t4 =>
      (kinfolkref02_Add t n).bind fun t5 =>
      some t5
theorem kinfolkref02_Left_runs (e : T_kinfolkref02_Event) (r_ : T_kinfolkref02_Event) (h : kinfolkref02_Left e = some r_) : Runs Tryd.prog 67 [(.one (.pv (T_kinfolkref02_Event.pv e)))] [] [] (kinfolkref02_Left_out e r_) := by
  unfold kinfolkref02_Left at h
  cases e with
  | nil =>
    cases h
  | mk n t t2 =>
    cases t with
    | nil =>
      have h := some_of h
      subst h
      exact runs_of (C := cfg) (objs := []) (sc := [.br true]) (.k0 (an_ (rfl : true = true) trivial) (by kernel_rfl))
    | mk n2 t3 t4 =>
      obtain ⟨t5, h1, h⟩ := bind_of h
      have h := some_of h
      subst h
      exact runs_of (C := cfg) (objs := []) (sc := [.br false, .res (kinfolkref02_Add_out (T_kinfolkref02_Event.mk n2 t3 t4) n t5)]) (.k0 (an_ (rfl : false = false) (an_ (kinfolkref02_Add_runs (T_kinfolkref02_Event.mk n2 t3 t4) n _ h1) trivial)) (by kernel_rfl))
/-! ### kinfolkref02_Right_out -/
def kinfolkref02_Right_out (e : T_kinfolkref02_Event) : T_kinfolkref02_Event → Res
  | r1 => ([(.one (.pv (T_kinfolkref02_Event.pv r1)))], [], [])
/-! ### kinfolkref02_Right -/
noncomputable def kinfolkref02_Right (e : T_kinfolkref02_Event) : Option (T_kinfolkref02_Event) :=
  match e with
  | .nil =>
    none
  | .mk n t t2 =>
    match t with
    | .nil =>
      some e
    | .mk n2 t3 t4 =>
      (kinfolkref02_Add t2 n).bind fun t5 =>
      some t5
theorem kinfolkref02_Right_runs (e : T_kinfolkref02_Event) (r_ : T_kinfolkref02_Event) (h : kinfolkref02_Right e = some r_) : Runs Tryd.prog 68 [(.one (.pv (T_kinfolkref02_Event.pv e)))] [] [] (kinfolkref02_Right_out e r_) := by
  unfold kinfolkref02_Right at h
  cases e with
  | nil =>
    cases h
  | mk n t t2 =>
    cases t with
    | nil =>
      have h := some_of h
      subst h
      exact runs_of (C := cfg) (objs := []) (sc := [.br true]) (.k0 (an_ (rfl : true = true) trivial) (by kernel_rfl))
    | mk n2 t3 t4 =>
      obtain ⟨t5, h1, h⟩ := bind_of h
      have h := some_of h
      subst h
      exact runs_of (C := cfg) (objs := []) (sc := [.br false, .res (kinfolkref02_Add_out t2 n t5)]) (.k0 (an_ (rfl : false = false) (an_ (kinfolkref02_Add_runs t2 n _ h1) trivial)) (by kernel_rfl))
/-! ### kinfolkref02_Heights -/
noncomputable def kinfolkref02_Heights_b (N : Nat) (rec_kinfolkref02_Heights : T_kinfolkref02_Event → Int → Option (List Int)) (e : T_kinfolkref02_Event) (depth : Int) : Option (List Int) :=
  bif (decide ((depth : Int) = 0)) then
    (kinfolkref02_Max N e).bind fun n =>
    some [n]
  else
    (kinfolkref02_Left e).bind fun t =>
    (rec_kinfolkref02_Heights t (isub .i64 depth 1)).bind fun l_ =>
    (kinfolkref02_Right e).bind fun t2 =>
    (rec_kinfolkref02_Heights t2 (isub .i64 depth 1)).bind fun l_2 =>
    bif fits ((l_ ++ (List.take (l_2).length l_2))).length then
    some (l_ ++ l_2)
    else none
theorem kinfolkref02_Heights_b_runs (N : Nat) (rec_kinfolkref02_Heights : T_kinfolkref02_Event → Int → Option (List Int)) (hrec_kinfolkref02_Heights : ∀ e depth r_, rec_kinfolkref02_Heights e depth = some r_ → Runs Tryd.prog 27 [(.one (.pv (T_kinfolkref02_Event.pv e))), (.one (.pv (.int .i64 depth)))] [] [] (kinfolkref02_Heights_out e depth r_)) (e : T_kinfolkref02_Event) (depth : Int) (r_ : List Int) (h : kinfolkref02_Heights_b N rec_kinfolkref02_Heights e depth = some r_) : Runs Tryd.prog 27 [(.one (.pv (T_kinfolkref02_Event.pv e))), (.one (.pv (.int .i64 depth)))] [] [] (kinfolkref02_Heights_out e depth r_) := by
  unfold kinfolkref02_Heights_b at h
  rcases cond_of h with ⟨h1, h⟩ | ⟨h1, h⟩
  · obtain ⟨n, h2, h⟩ := bind_of h
    have h := some_of h
    subst h
    have e_ : Runs Tryd.prog 27 [(.one (.pv (T_kinfolkref02_Event.pv e))), (.one (.pv (.int .i64 depth)))] [] [] ([(.one (.own 0 0 1 true))], [], [(.ints .u64 [n])]) := runs_of (C := cfg) (objs := []) (sc := [.br true, .res (kinfolkref02_Max_out e n)]) (.k0 (an_ h1 (an_ (kinfolkref02_Max_runs N e _ h2) trivial)) (by kernel_rfl))
    exact e_.out ⟨.ownF (by first | rfl | (simp only [List.take_length]; done) | (simp only [List.take_length, List.length_append, List.drop_zero, List.map_append, List.map_take, List.map_drop, List.map_cons, List.map_nil, List.append_nil, List.nil_append]; done) | (simp; done)), trivial⟩ trivial ⟨.eq rfl, trivial⟩ rfl
  · obtain ⟨t, h2, h⟩ := bind_of h
    obtain ⟨l_, h3, h⟩ := bind_of h
    obtain ⟨t2, h4, h⟩ := bind_of h
    obtain ⟨l_2, h5, h⟩ := bind_of h
    obtain ⟨h6, h⟩ := need_of h
    have h := some_of h
    subst h
    have e_ : Runs Tryd.prog 27 [(.one (.pv (T_kinfolkref02_Event.pv e))), (.one (.pv (.int .i64 depth)))] [] [] ([(.one (.own 0 0 ((l_ ++ (List.take (l_2).length l_2))).length false))], [], [(.ints .u64 (l_ ++ (List.take (l_2).length l_2)))]) := runs_of (C := cfg) (objs := []) (sc := [.br false, .res (kinfolkref02_Left_out e t), .res (kinfolkref02_Heights_out t (isub .i64 depth 1) l_), .res (kinfolkref02_Right_out e t2), .res (kinfolkref02_Heights_out t2 (isub .i64 depth 1) l_2)]) (.k0 (an_ h1 (an_ (kinfolkref02_Left_runs e _ h2) (an_ (hrec_kinfolkref02_Heights t (isub .i64 depth 1) _ h3) (an_ (kinfolkref02_Right_runs e _ h4) (an_ (hrec_kinfolkref02_Heights t2 (isub .i64 depth 1) _ h5) (an_ (show (Nat.beq (l_).length (l_).length) = true from Nat.beq_refl _) (an_ h6 trivial))))))) (by kernel_rfl))
    exact e_.out ⟨.own (by first | rfl | (simp only [List.take_length]; done) | (simp only [List.take_length, List.length_append, List.drop_zero, List.map_append, List.map_take, List.map_drop, List.map_cons, List.map_nil, List.append_nil, List.nil_append]; done) | (simp; done)), trivial⟩ trivial ⟨.eq (by first | rfl | (simp only [List.take_length]; done) | (simp only [List.take_length, List.length_append, List.drop_zero, List.map_append, List.map_take, List.map_drop, List.map_cons, List.map_nil, List.append_nil, List.nil_append]; done) | (simp; done)), trivial⟩ rfl
noncomputable def kinfolkref02_Heights : Nat → T_kinfolkref02_Event → Int → Option (List Int)
  | 0, _, _ => none
  | N + 1, e, depth => kinfolkref02_Heights_b N (kinfolkref02_Heights N) e depth
theorem kinfolkref02_Heights_runs : ∀ (N : Nat) (e : T_kinfolkref02_Event) (depth : Int) (r_ : List Int), kinfolkref02_Heights N e depth = some r_ → Runs Tryd.prog 27 [(.one (.pv (T_kinfolkref02_Event.pv e))), (.one (.pv (.int .i64 depth)))] [] [] (kinfolkref02_Heights_out e depth r_)
  | 0, _, _, _, h => by cases h
  | N + 1, e, depth, r_, h => kinfolkref02_Heights_b_runs N (kinfolkref02_Heights N) (kinfolkref02_Heights_runs N) e depth r_ h
/-! ### kinfolkref01_Has_out -/
def kinfolkref01_Has_out (i : T_kinfolkref01_ID) (depth : Int) : List Bool → Res
  | r1 => ([(.one (.own 0 0 (r1).length false))], [], [(.bools r1)])

end Go.Proofs.YtjjakdmcnkldoaaDoor
