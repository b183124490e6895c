/- What functions compute, and that they do. -/
import Derived.Test.YtjjakdmcnkldoaaDoorCA5
set_option linter.unusedVariables false
set_option linter.unusedSimpArgs false
set_option maxRecDepth 100000
namespace Go.Proofs.YtjjakdmcnkldoaaDoor
open Go.Ev

/-! ### id_ID_Text -/
noncomputable def id_ID_Text_b (rec_id_ID_Text : Bool → T_id_halves → Option (ByteArray)) (i : Bool) (i2 : T_id_halves) : Option (ByteArray) :=
  (id_ID_IsZero i i2).bind fun b =>
  bif b then
    some (⟨#[48]⟩ : ByteArray)
  else
    (id_ID_IsOne i i2).bind fun _ =>
    bif i then
      some (⟨#[49]⟩ : ByteArray)
    else
      match i2 with
      | .nil =>
        none
      | .mk b2 t b3 t2 =>
        (rec_id_ID_Text b2 t).bind fun s =>
        bif decide ((⟨#[40]⟩ : ByteArray).size + s.size ≤ 140737488355328) then
        bif decide (((⟨#[40]⟩ : ByteArray) ++ s).size + (⟨#[44]⟩ : ByteArray).size ≤ 140737488355328) then
        (rec_id_ID_Text b3 t2).bind fun s2 =>
        bif decide ((((⟨#[40]⟩ : ByteArray) ++ s) ++ (⟨#[44]⟩ : ByteArray)).size + s2.size ≤ 140737488355328) then
        bif decide (((((⟨#[40]⟩ : ByteArray) ++ s) ++ (⟨#[44]⟩ : ByteArray)) ++ s2).size + (⟨#[41]⟩ : ByteArray).size ≤ 140737488355328) then
        some (((((⟨#[40]⟩ : ByteArray) ++ s) ++ (⟨#[44]⟩ : ByteArray)) ++ s2) ++ (⟨#[41]⟩ : ByteArray))
        else none
        else none
        else none
        else none
theorem id_ID_Text_b_runs (rec_id_ID_Text : Bool → T_id_halves → Option (ByteArray)) (hrec_id_ID_Text : ∀ i i2 r_, rec_id_ID_Text i i2 = some r_ → Runs Tryd.prog 79 [(.agg [(.pv (.bool i)), (.pv (T_id_halves.pv i2))])] [] [] (id_ID_Text_out i i2 r_)) (i : Bool) (i2 : T_id_halves) (r_ : ByteArray) (h : id_ID_Text_b rec_id_ID_Text i i2 = some r_) : Runs Tryd.prog 79 [(.agg [(.pv (.bool i)), (.pv (T_id_halves.pv i2))])] [] [] (id_ID_Text_out i i2 r_) := by
  unfold id_ID_Text_b at h
  obtain ⟨b, h1, h⟩ := bind_of h
  rcases cond_of h with ⟨h2, h⟩ | ⟨h2, h⟩
  · have h := some_of h
    subst h
    have t_ := tR (id_ID_IsZero_runs i i2 _ h1) <| tT h2 <| tN
    exact runs_of (C := cfg) (objs := []) (sc := t_.ev) (.k0 t_.pf (by kernel_rfl))
  · obtain ⟨_, h3, h⟩ := bind_of h
    rcases cond_of h with ⟨h4, h⟩ | ⟨h4, h⟩
    · have h := some_of h
      subst h
      have t_ := tR (id_ID_IsZero_runs i i2 _ h1) <| tF h2 <| tR (id_ID_IsOne_runs i i2 _ h3) <| tT h4 <| tN
      exact runs_of (C := cfg) (objs := []) (sc := t_.ev) (.k0 t_.pf (by kernel_rfl))
    · cases i2 with
      | nil =>
        cases h
      | mk b2 t b3 t2 =>
        obtain ⟨s, h5, h⟩ := bind_of h
        obtain ⟨h6, h⟩ := need_of h
        obtain ⟨h7, h⟩ := need_of h
        obtain ⟨s2, h8, h⟩ := bind_of h
        obtain ⟨h9, h⟩ := need_of h
        obtain ⟨h10, h⟩ := need_of h
        have h := some_of h
        subst h
        have t_ := tR (id_ID_IsZero_runs i (T_id_halves.mk b2 t b3 t2) _ h1) <| tF h2 <| tR (id_ID_IsOne_runs i (T_id_halves.mk b2 t b3 t2) _ h3) <| tF h4 <| tR (hrec_id_ID_Text b2 t _ h5) <| tO h6 <| tO h7 <| tR (hrec_id_ID_Text b2 t _ h5) <| tO h6 <| tO h7 <| tR (hrec_id_ID_Text b3 t2 _ h8) <| tO h9 <| tO h10 <| tN
        exact runs_of (C := cfg) (objs := []) (sc := t_.ev) (.k1 t_.pf (by kernel_rfl) (by kernel_rfl))
noncomputable def id_ID_Text : Nat → Bool → T_id_halves → Option (ByteArray)
  | 0, _, _ => none
  | N + 1, i, i2 => id_ID_Text_b (id_ID_Text N) i i2
theorem id_ID_Text_runs : ∀ (N : Nat) (i : Bool) (i2 : T_id_halves) (r_ : ByteArray), id_ID_Text N i i2 = some r_ → Runs Tryd.prog 79 [(.agg [(.pv (.bool i)), (.pv (T_id_halves.pv i2))])] [] [] (id_ID_Text_out i i2 r_)
  | 0, _, _, _, h => by cases h
  | N + 1, i, i2, r_, h => id_ID_Text_b_runs (id_ID_Text N) (id_ID_Text_runs N) i i2 r_ h
/-! ### event_Event_Text_out -/
def event_Event_Text_out (e : Int) (e2 : T_event_halves) : ByteArray → Res
  | r1 => ([(.one (.pv (.str r1)))], [], [])
/-! ### strconv_FormatUint_out -/
def strconv_FormatUint_out (i : Int) (base : Int) : ByteArray → Res
  | r1 => ([(.one (.pv (.str r1)))], [], [])
/-! ### strconv_FormatUint -/
noncomputable def strconv_FormatUint (i : Int) (base : Int) : Option (ByteArray) :=
  (strconv_FormatUint10 i base).bind fun s =>
  some s
theorem strconv_FormatUint_runs (i : Int) (base : Int) (r_ : ByteArray) (h : strconv_FormatUint i base = some r_) : Runs Tryd.prog 97 [(.one (.pv (.int .u64 i))), (.one (.pv (.int .i64 base)))] [] [] (strconv_FormatUint_out i base r_) := by
  unfold strconv_FormatUint at h
  obtain ⟨s, h1, h⟩ := bind_of h
  have h := some_of h
  subst h
  have t_ := tR (strconv_FormatUint10_runs i base _ h1) <| tN
  exact runs_of (C := cfg) (objs := []) (sc := t_.ev) (.k0 t_.pf (by kernel_rfl))
/-! ### event_Event_Text -/
noncomputable def event_Event_Text_b (rec_event_Event_Text : Int → T_event_halves → Option (ByteArray)) (e : Int) (e2 : T_event_halves) : Option (ByteArray) :=
  (strconv_FormatUint e 10).bind fun s =>
  match e2 with
  | .nil =>
    some s
  | .mk n t n2 t2 =>
    bif decide ((⟨#[40]⟩ : ByteArray).size + s.size ≤ 140737488355328) then
    bif decide (((⟨#[40]⟩ : ByteArray) ++ s).size + (⟨#[44]⟩ : ByteArray).size ≤ 140737488355328) then
    (rec_event_Event_Text n t).bind fun s2 =>
    bif decide ((((⟨#[40]⟩ : ByteArray) ++ s) ++ (⟨#[44]⟩ : ByteArray)).size + s2.size ≤ 140737488355328) then
    bif decide (((((⟨#[40]⟩ : ByteArray) ++ s) ++ (⟨#[44]⟩ : ByteArray)) ++ s2).size + (⟨#[44]⟩ : ByteArray).size ≤ 140737488355328) then
    (rec_event_Event_Text n2 t2).bind fun s3 =>
    bif decide ((((((⟨#[40]⟩ : ByteArray) ++ s) ++ (⟨#[44]⟩ : ByteArray)) ++ s2) ++ (⟨#[44]⟩ : ByteArray)).size + s3.size ≤ 140737488355328) then
    bif decide (((((((⟨#[40]⟩ : ByteArray) ++ s) ++ (⟨#[44]⟩ : ByteArray)) ++ s2) ++ (⟨#[44]⟩ : ByteArray)) ++ s3).size + (⟨#[41]⟩ : ByteArray).size ≤ 140737488355328) then
    some (((((((⟨#[40]⟩ : ByteArray) ++ s) ++ (⟨#[44]⟩ : ByteArray)) ++ s2) ++ (⟨#[44]⟩ : ByteArray)) ++ s3) ++ (⟨#[41]⟩ : ByteArray))
    else none
    else none
    else none
    else none
    else none
    else none
theorem event_Event_Text_b_runs (rec_event_Event_Text : Int → T_event_halves → Option (ByteArray)) (hrec_event_Event_Text : ∀ e e2 r_, rec_event_Event_Text e e2 = some r_ → Runs Tryd.prog 21 [(.agg [(.pv (.int .u64 e)), (.pv (T_event_halves.pv e2))])] [] [] (event_Event_Text_out e e2 r_)) (e : Int) (e2 : T_event_halves) (r_ : ByteArray) (h : event_Event_Text_b rec_event_Event_Text e e2 = some r_) : Runs Tryd.prog 21 [(.agg [(.pv (.int .u64 e)), (.pv (T_event_halves.pv e2))])] [] [] (event_Event_Text_out e e2 r_) := by
  unfold event_Event_Text_b at h
  obtain ⟨s, h1, h⟩ := bind_of h
  cases e2 with
  | nil =>
    have h := some_of h
    subst h
    have t_ := tR (strconv_FormatUint_runs e 10 _ h1) <| tT (rfl : true = true) <| tN
    exact runs_of (C := cfg) (objs := []) (sc := t_.ev) (.k0 t_.pf (by kernel_rfl))
  | mk n t n2 t2 =>
    obtain ⟨h2, h⟩ := need_of h
    obtain ⟨h3, h⟩ := need_of h
    obtain ⟨s2, h4, h⟩ := bind_of h
    obtain ⟨h5, h⟩ := need_of h
    obtain ⟨h6, h⟩ := need_of h
    obtain ⟨s3, h7, h⟩ := bind_of h
    obtain ⟨h8, h⟩ := need_of h
    obtain ⟨h9, h⟩ := need_of h
    have h := some_of h
    subst h
    have t_ := tR (strconv_FormatUint_runs e 10 _ h1) <| tF (rfl : false = false) <| tO h2 <| tO h3 <| tR (hrec_event_Event_Text n t _ h4) <| tO h5 <| tO h6 <| tR (hrec_event_Event_Text n t _ h4) <| tO h5 <| tO h6 <| tR (hrec_event_Event_Text n2 t2 _ h7) <| tO h8 <| tO h9 <| tN
    exact runs_of (C := cfg) (objs := []) (sc := t_.ev) (.k1 t_.pf (by kernel_rfl) (by kernel_rfl))
noncomputable def event_Event_Text : Nat → Int → T_event_halves → Option (ByteArray)
  | 0, _, _ => none
  | N + 1, e, e2 => event_Event_Text_b (event_Event_Text N) e e2
theorem event_Event_Text_runs : ∀ (N : Nat) (e : Int) (e2 : T_event_halves) (r_ : ByteArray), event_Event_Text N e e2 = some r_ → Runs Tryd.prog 21 [(.agg [(.pv (.int .u64 e)), (.pv (T_event_halves.pv e2))])] [] [] (event_Event_Text_out e e2 r_)
  | 0, _, _, _, h => by cases h
  | N + 1, e, e2, r_, h => event_Event_Text_b_runs (event_Event_Text N) (event_Event_Text_runs N) e e2 r_ h
/-! ### stamp_Stamp_Text -/
noncomputable def stamp_Stamp_Text (N : Nat) (s : Bool) (s2 : T_id_halves) (s3 : Int) (s4 : T_event_halves) : Option (ByteArray) :=
  (id_ID_Text N s s2).bind fun s5 =>
  bif decide ((⟨#[40]⟩ : ByteArray).size + s5.size ≤ 140737488355328) then
  bif decide (((⟨#[40]⟩ : ByteArray) ++ s5).size + (⟨#[59]⟩ : ByteArray).size ≤ 140737488355328) then
  (event_Event_Text N s3 s4).bind fun s6 =>
  bif decide ((((⟨#[40]⟩ : ByteArray) ++ s5) ++ (⟨#[59]⟩ : ByteArray)).size + s6.size ≤ 140737488355328) then
  bif decide (((((⟨#[40]⟩ : ByteArray) ++ s5) ++ (⟨#[59]⟩ : ByteArray)) ++ s6).size + (⟨#[41]⟩ : ByteArray).size ≤ 140737488355328) then
  some (((((⟨#[40]⟩ : ByteArray) ++ s5) ++ (⟨#[59]⟩ : ByteArray)) ++ s6) ++ (⟨#[41]⟩ : ByteArray))
  else none
  else none
  else none
  else none
theorem stamp_Stamp_Text_runs (N : Nat) (s : Bool) (s2 : T_id_halves) (s3 : Int) (s4 : T_event_halves) (r_ : ByteArray) (h : stamp_Stamp_Text N s s2 s3 s4 = some r_) : Runs Tryd.prog 83 [(.agg [(.pv (.bool s)), (.pv (T_id_halves.pv s2)), (.pv (.int .u64 s3)), (.pv (T_event_halves.pv s4))])] [] [] (stamp_Stamp_Text_out s s2 s3 s4 r_) := by
  unfold stamp_Stamp_Text at h
  obtain ⟨s5, h1, h⟩ := bind_of h
  obtain ⟨h2, h⟩ := need_of h
  obtain ⟨h3, h⟩ := need_of h
  obtain ⟨s6, h4, h⟩ := bind_of h
  obtain ⟨h5, h⟩ := need_of h
  obtain ⟨h6, h⟩ := need_of h
  have h := some_of h
  subst h
  have t_ := tR (id_ID_Text_runs N s s2 _ h1) <| tO h2 <| tR (id_ID_Text_runs N s s2 _ h1) <| tO h2 <| tO h3 <| tO h3 <| tR (event_Event_Text_runs N s3 s4 _ h4) <| tO h5 <| tO h6 <| tN
  exact runs_of (C := cfg) (objs := []) (sc := t_.ev) (.k1 t_.pf (by kernel_rfl) (by kernel_rfl))
/-! ### kinfolkref04_Text_out -/
def kinfolkref04_Text_out (s : T_kinfolkref01_ID) (s2 : T_kinfolkref02_Event) : ByteArray → Res
  | r1 => ([(.one (.pv (.str r1)))], [], [])
/-! ### kinfolkref01_Text_out -/
def kinfolkref01_Text_out (i : T_kinfolkref01_ID) : ByteArray → Res
  | r1 => ([(.one (.pv (.str r1)))], [], [])
/-! ### kinfolkref01_Text -/
noncomputable def kinfolkref01_Text_b (rec_kinfolkref01_Text : T_kinfolkref01_ID → Option (ByteArray)) (i : T_kinfolkref01_ID) : Option (ByteArray) :=
  match i with
  | .nil =>
    none
  | .mk n t t2 =>
    bif (decide ((n : Int) = 0)) then
      some (⟨#[48]⟩ : ByteArray)
    else
      bif (decide ((n : Int) = 1)) then
        some (⟨#[49]⟩ : ByteArray)
      else
        (rec_kinfolkref01_Text t).bind fun s =>
        bif decide ((⟨#[40]⟩ : ByteArray).size + s.size ≤ 140737488355328) then
        bif decide (((⟨#[40]⟩ : ByteArray) ++ s).size + (⟨#[44]⟩ : ByteArray).size ≤ 140737488355328) then
        (rec_kinfolkref01_Text t2).bind fun s2 =>
        bif decide ((((⟨#[40]⟩ : ByteArray) ++ s) ++ (⟨#[44]⟩ : ByteArray)).size + s2.size ≤ 140737488355328) then
        bif decide (((((⟨#[40]⟩ : ByteArray) ++ s) ++ (⟨#[44]⟩ : ByteArray)) ++ s2).size + (⟨#[41]⟩ : ByteArray).size ≤ 140737488355328) then
        some (((((⟨#[40]⟩ : ByteArray) ++ s) ++ (⟨#[44]⟩ : ByteArray)) ++ s2) ++ (⟨#[41]⟩ : ByteArray))
        else none
        else none
        else none
        else none
theorem kinfolkref01_Text_b_runs (rec_kinfolkref01_Text : T_kinfolkref01_ID → Option (ByteArray)) (hrec_kinfolkref01_Text : ∀ i r_, rec_kinfolkref01_Text i = some r_ → Runs Tryd.prog 80 [(.one (.pv (T_kinfolkref01_ID.pv i)))] [] [] (kinfolkref01_Text_out i r_)) (i : T_kinfolkref01_ID) (r_ : ByteArray) (h : kinfolkref01_Text_b rec_kinfolkref01_Text i = some r_) : Runs Tryd.prog 80 [(.one (.pv (T_kinfolkref01_ID.pv i)))] [] [] (kinfolkref01_Text_out i r_) := by
  unfold kinfolkref01_Text_b at h
  cases i with
  | nil =>
    cases h
  | mk n t t2 =>
    rcases cond_of h with ⟨h1, h⟩ | ⟨h1, h⟩
    · have h := some_of h
      subst h
      have t_ := tT h1 <| tN
      exact runs_of (C := cfg) (objs := []) (sc := t_.ev) (.k0 t_.pf (by kernel_rfl))
    · rcases cond_of h with ⟨h2, h⟩ | ⟨h2, h⟩
      · have h := some_of h
        subst h
        have t_ := tF h1 <| tT h2 <| tN
        exact runs_of (C := cfg) (objs := []) (sc := t_.ev) (.k0 t_.pf (by kernel_rfl))
      · obtain ⟨s, h3, h⟩ := bind_of h
        obtain ⟨h4, h⟩ := need_of h
        obtain ⟨h5, h⟩ := need_of h
        obtain ⟨s2, h6, h⟩ := bind_of h
        obtain ⟨h7, h⟩ := need_of h
        obtain ⟨h8, h⟩ := need_of h
        have h := some_of h
        subst h
        have t_ := tF h1 <| tF h2 <| tR (hrec_kinfolkref01_Text t _ h3) <| tO h4 <| tO h5 <| tR (hrec_kinfolkref01_Text t2 _ h6) <| tO h7 <| tO h8 <| tN
        exact runs_of (C := cfg) (objs := []) (sc := t_.ev) (.k0 t_.pf (by kernel_rfl))
noncomputable def kinfolkref01_Text : Nat → T_kinfolkref01_ID → Option (ByteArray)
  | 0, _ => none
  | N + 1, i => kinfolkref01_Text_b (kinfolkref01_Text N) i
theorem kinfolkref01_Text_runs : ∀ (N : Nat) (i : T_kinfolkref01_ID) (r_ : ByteArray), kinfolkref01_Text N i = some r_ → Runs Tryd.prog 80 [(.one (.pv (T_kinfolkref01_ID.pv i)))] [] [] (kinfolkref01_Text_out i r_)
  | 0, _, _, h => by cases h
  | N + 1, i, r_, h => kinfolkref01_Text_b_runs (kinfolkref01_Text N) (kinfolkref01_Text_runs N) i r_ h
/-! ### kinfolkref02_Text_out -/
def kinfolkref02_Text_out (e : T_kinfolkref02_Event) : ByteArray → Res
  | r1 => ([(.one (.pv (.str r1)))], [], [])
/-! ### kinfolkref02_Dec_out -/
def kinfolkref02_Dec_out (n : Int) : ByteArray → Res
  | r1 => ([(.one (.pv (.str r1)))], [], [])
/-! ### kinfolkref02_Dec -/
noncomputable def kinfolkref02_Dec_b (rec_kinfolkref02_Dec : Int → Option (ByteArray)) (n : Int) : Option (ByteArray) :=
  bif decide ((0 : Int) ≤ (irem .u64 n 10)) && decide (((irem .u64 n 10) : Int) ≤ (iadd .u64 (irem .u64 n 10) 1)) && decide (((iadd .u64 (irem .u64 n 10) 1) : Int) ≤ ((⟨#[48, 49, 50, 51, 52, 53, 54, 55, 56, 57]⟩ : ByteArray).size : Int)) then
  bif (decide ((n : Int) < 10)) then
    some ((⟨#[48, 49, 50, 51, 52, 53, 54, 55, 56, 57]⟩ : ByteArray).extract ((irem .u64 n 10)).toNat ((iadd .u64 (irem .u64 n 10) 1)).toNat)
  else
    (rec_kinfolkref02_Dec (iquo .u64 n 10)).bind fun s =>
    bif decide (s.size + ((⟨#[48, 49, 50, 51, 52, 53, 54, 55, 56, 57]⟩ : ByteArray).extract ((irem .u64 n 10)).toNat ((iadd .u64 (irem .u64 n 10) 1)).toNat).size ≤ 140737488355328) then
    some (s ++ ((⟨#[48, 49, 50, 51, 52, 53, 54, 55, 56, 57]⟩ : ByteArray).extract ((irem .u64 n 10)).toNat ((iadd .u64 (irem .u64 n 10) 1)).toNat))
    else none
  else none
theorem kinfolkref02_Dec_b_runs (rec_kinfolkref02_Dec : Int → Option (ByteArray)) (hrec_kinfolkref02_Dec : ∀ n r_, rec_kinfolkref02_Dec n = some r_ → Runs Tryd.prog 98 [(.one (.pv (.int .u64 n)))] [] [] (kinfolkref02_Dec_out n r_)) (n : Int) (r_ : ByteArray) (h : kinfolkref02_Dec_b rec_kinfolkref02_Dec n = some r_) : Runs Tryd.prog 98 [(.one (.pv (.int .u64 n)))] [] [] (kinfolkref02_Dec_out n r_) := by
  unfold kinfolkref02_Dec_b at h
  obtain ⟨h1, h⟩ := need_of h
  rcases cond_of h with ⟨h2, h⟩ | ⟨h2, h⟩
  · have h := some_of h
    subst h
    have t_ := tO (rfl : true = true) <| tO (rfl : true = true) <| tO h1 <| tT h2 <| tN
    exact runs_of (C := cfg) (objs := []) (sc := t_.ev) (.k0 t_.pf (by kernel_rfl))
  · obtain ⟨s, h3, h⟩ := bind_of h
    obtain ⟨h4, h⟩ := need_of h
    have h := some_of h
    subst h
    have t_ := tO (rfl : true = true) <| tO (rfl : true = true) <| tO h1 <| tF h2 <| tO (rfl : true = true) <| tR (hrec_kinfolkref02_Dec (iquo .u64 n 10) _ h3) <| tO h4 <| tN
    exact runs_of (C := cfg) (objs := []) (sc := t_.ev) (.k0 t_.pf (by kernel_rfl))
noncomputable def kinfolkref02_Dec : Nat → Int → Option (ByteArray)
  | 0, _ => none
  | N + 1, n => kinfolkref02_Dec_b (kinfolkref02_Dec N) n
theorem kinfolkref02_Dec_runs : ∀ (N : Nat) (n : Int) (r_ : ByteArray), kinfolkref02_Dec N n = some r_ → Runs Tryd.prog 98 [(.one (.pv (.int .u64 n)))] [] [] (kinfolkref02_Dec_out n r_)
  | 0, _, _, h => by cases h
  | N + 1, n, r_, h => kinfolkref02_Dec_b_runs (kinfolkref02_Dec N) (kinfolkref02_Dec_runs N) n r_ h
/-! ### kinfolkref02_Text -/
noncomputable def kinfolkref02_Text_b (N : Nat) (rec_kinfolkref02_Text : T_kinfolkref02_Event → Option (ByteArray)) (e : T_kinfolkref02_Event) : Option (ByteArray) :=
  match e with
  | .nil =>
    none
  | .mk n t t2 =>
    match t with
    | .nil =>
      (kinfolkref02_Dec N n).bind fun s =>
      some s
    | .mk n2 t3 t4 =>
      (kinfolkref02_Dec N n).bind fun s =>
      bif decide ((⟨#[40]⟩ : ByteArray).size + s.size ≤ 140737488355328) then
      bif decide (((⟨#[40]⟩ : ByteArray) ++ s).size + (⟨#[44]⟩ : ByteArray).size ≤ 140737488355328) then
      (rec_kinfolkref02_Text t).bind fun s2 =>
      bif decide ((((⟨#[40]⟩ : ByteArray) ++ s) ++ (⟨#[44]⟩ : ByteArray)).size + s2.size ≤ 140737488355328) then
      bif decide (((((⟨#[40]⟩ : ByteArray) ++ s) ++ (⟨#[44]⟩ : ByteArray)) ++ s2).size + (⟨#[44]⟩ : ByteArray).size ≤ 140737488355328) then
      (rec_kinfolkref02_Text t2).bind fun s3 =>
      bif decide ((((((⟨#[40]⟩ : ByteArray) ++ s) ++ (⟨#[44]⟩ : ByteArray)) ++ s2) ++ (⟨#[44]⟩ : ByteArray)).size + s3.size ≤ 140737488355328) then
      bif decide (((((((⟨#[40]⟩ : ByteArray) ++ s) ++ (⟨#[44]⟩ : ByteArray)) ++ s2) ++ (⟨#[44]⟩ : ByteArray)) ++ s3).size + (⟨#[41]⟩ : ByteArray).size ≤ 140737488355328) then
      some (((((((⟨#[40]⟩ : ByteArray) ++ s) ++ (⟨#[44]⟩ : ByteArray)) ++ s2) ++ (⟨#[44]⟩ : ByteArray)) ++ s3) ++ (⟨#[41]⟩ : ByteArray))
      else none
      else none
      else none
      else none
      else none
      else none
theorem kinfolkref02_Text_b_runs (N : Nat) (rec_kinfolkref02_Text : T_kinfolkref02_Event → Option (ByteArray)) (hrec_kinfolkref02_Text : ∀ e r_, rec_kinfolkref02_Text e = some r_ → Runs Tryd.prog 22 [(.one (.pv (T_kinfolkref02_Event.pv e)))] [] [] (kinfolkref02_Text_out e r_)) (e : T_kinfolkref02_Event) (r_ : ByteArray) (h : kinfolkref02_Text_b N rec_kinfolkref02_Text e = some r_) : Runs Tryd.prog 22 [(.one (.pv (T_kinfolkref02_Event.pv e)))] [] [] (kinfolkref02_Text_out e r_) := by
  unfold kinfolkref02_Text_b at h
  cases e with
  | nil =>
    cases h
  | mk n t t2 =>
    cases t with
    | nil =>
      obtain ⟨s, h1, h⟩ := bind_of h
      have h := some_of h
      subst h
      have t_ := tT (rfl : true = true) <| tR (kinfolkref02_Dec_runs N n _ h1) <| tN
      exact runs_of (C := cfg) (objs := []) (sc := t_.ev) (.k0 t_.pf (by kernel_rfl))
    | mk n2 t3 t4 =>
      obtain ⟨s, h1, h⟩ := bind_of h
      obtain ⟨h2, h⟩ := need_of h
      obtain ⟨h3, h⟩ := need_of h
      obtain ⟨s2, h4, h⟩ := bind_of h
      obtain ⟨h5, h⟩ := need_of h
      obtain ⟨h6, h⟩ := need_of h
      obtain ⟨s3, h7, h⟩ := bind_of h
      obtain ⟨h8, h⟩ := need_of h
      obtain ⟨h9, h⟩ := need_of h
      have h := some_of h
      subst h
      have t_ := tF (rfl : false = false) <| tR (kinfolkref02_Dec_runs N n _ h1) <| tO h2 <| tO h3 <| tR (hrec_kinfolkref02_Text (T_kinfolkref02_Event.mk n2 t3 t4) _ h4) <| tO h5 <| tO h6 <| tR (hrec_kinfolkref02_Text t2 _ h7) <| tO h8 <| tO h9 <| tN
      exact runs_of (C := cfg) (objs := []) (sc := t_.ev) (.k0 t_.pf (by kernel_rfl))
noncomputable def kinfolkref02_Text : Nat → T_kinfolkref02_Event → Option (ByteArray)
  | 0, _ => none
  | N + 1, e => kinfolkref02_Text_b N (kinfolkref02_Text N) e
theorem kinfolkref02_Text_runs : ∀ (N : Nat) (e : T_kinfolkref02_Event) (r_ : ByteArray), kinfolkref02_Text N e = some r_ → Runs Tryd.prog 22 [(.one (.pv (T_kinfolkref02_Event.pv e)))] [] [] (kinfolkref02_Text_out e r_)
  | 0, _, _, h => by cases h
  | N + 1, e, r_, h => kinfolkref02_Text_b_runs N (kinfolkref02_Text N) (kinfolkref02_Text_runs N) e r_ h
/-! ### kinfolkref04_Text -/
noncomputable def kinfolkref04_Text (N : Nat) (s : T_kinfolkref01_ID) (s2 : T_kinfolkref02_Event) : Option (ByteArray) :=
  (kinfolkref01_Text N s).bind fun s3 =>
  bif decide ((⟨#[40]⟩ : ByteArray).size + s3.size ≤ 140737488355328) then
  bif decide (((⟨#[40]⟩ : ByteArray) ++ s3).size + (⟨#[59]⟩ : ByteArray).size ≤ 140737488355328) then
  (kinfolkref02_Text N s2).bind fun s4 =>
  bif decide ((((⟨#[40]⟩ : ByteArray) ++ s3) ++ (⟨#[59]⟩ : ByteArray)).size + s4.size ≤ 140737488355328) then
  bif decide (((((⟨#[40]⟩ : ByteArray) ++ s3) ++ (⟨#[59]⟩ : ByteArray)) ++ s4).size + (⟨#[41]⟩ : ByteArray).size ≤ 140737488355328) then
  some (((((⟨#[40]⟩ : ByteArray) ++ s3) ++ (⟨#[59]⟩ : ByteArray)) ++ s4) ++ (⟨#[41]⟩ : ByteArray))
  else none
  else none
  else none
  else none
theorem kinfolkref04_Text_runs (N : Nat) (s : T_kinfolkref01_ID) (s2 : T_kinfolkref02_Event) (r_ : ByteArray) (h : kinfolkref04_Text N s s2 = some r_) : Runs Tryd.prog 84 [(.agg [(.pv (T_kinfolkref01_ID.pv s)), (.pv (T_kinfolkref02_Event.pv s2))])] [] [] (kinfolkref04_Text_out s s2 r_) := by
  unfold kinfolkref04_Text at h
  obtain ⟨s3, h1, h⟩ := bind_of h
  obtain ⟨h2, h⟩ := need_of h
  obtain ⟨h3, h⟩ := need_of h
  obtain ⟨s4, h4, h⟩ := bind_of h
  obtain ⟨h5, h⟩ := need_of h
  obtain ⟨h6, h⟩ := need_of h
  have h := some_of h
  subst h
  have t_ := tR (kinfolkref01_Text_runs N s _ h1) <| tO h2 <| tR (kinfolkref01_Text_runs N s _ h1) <| tO h2 <| tO h3 <| tO h3 <| tR (kinfolkref02_Text_runs N s2 _ h4) <| tO h5 <| tO h6 <| tN
  exact runs_of (C := cfg) (objs := []) (sc := t_.ev) (.k1 t_.pf (by kernel_rfl) (by kernel_rfl))
/-! ### kinfolklaw07_CodeReads -/
noncomputable def kinfolklaw07_CodeReads (N : Nat) (p : List Int) : Option (Bool) :=
  (kinfolklaw07_awake N).bind fun b =>
  bif b then
    (kinfolklaw07_cut p 100).bind fun l_ =>
    (kinfolklaw07_cut l_ 100).bind fun l_2 =>
    (code_ReadStamp N l_2).bind fun (b2, t, n, t2, n2) =>
    (kinfolkref07_ReadStamp N l_).bind fun (t3, t4, n3) =>
    bif (decide ((n2 : Int) = n3)) then
      (stamp_Stamp_Text N b2 t n t2).bind fun s =>
      (kinfolkref04_Text N t3 t4).bind fun s2 =>
      bif decide (s = s2) then
        (bytes_Equal l_2 l_).bind fun b3 =>
        bif b3 then
          bif (decide ((n2 : Int) = 0)) then
            (code_Stamp N b2 t n t2).bind fun l_3 =>
            (bytes_Equal l_3 l_).bind fun b4 =>
            some b4
          else
            some true
        else
          some false
      else
        some false
    else
      some false
  else
    some false
theorem kinfolklaw07_CodeReads_runs (N : Nat) (p : List Int) (r_ : Bool) (h : kinfolklaw07_CodeReads N p = some r_) : Runs Tryd.prog 17 [(.one (.pv (.ints .u8 p false)))] [] [] (kinfolklaw07_CodeReads_out p r_) := by
  unfold kinfolklaw07_CodeReads at h
  obtain ⟨b, h1, h⟩ := bind_of h
  rcases cond_of h with ⟨h2, h⟩ | ⟨h2, h⟩
  · obtain ⟨l_, h3, h⟩ := bind_of h
    obtain ⟨l_2, h4, h⟩ := bind_of h
    obtain ⟨⟨b2, t, n, t2, n2⟩, h5, h⟩ := bind_of h
    obtain ⟨⟨t3, t4, n3⟩, h6, h⟩ := bind_of h
    rcases cond_of h with ⟨h7, h⟩ | ⟨h7, h⟩
    · obtain ⟨s, h8, h⟩ := bind_of h
      obtain ⟨s2, h9, h⟩ := bind_of h
      rcases cond_of h with ⟨h10, h⟩ | ⟨h10, h⟩
      · obtain ⟨b3, h11, h⟩ := bind_of h
        rcases cond_of h with ⟨h12, h⟩ | ⟨h12, h⟩
        · rcases cond_of h with ⟨h13, h⟩ | ⟨h13, h⟩
          · obtain ⟨l_3, h14, h⟩ := bind_of h
            obtain ⟨b4, h15, h⟩ := bind_of h
            have h := some_of h
            subst h
            have t_ := tR (kinfolklaw07_awake_runs N _ h1) <| tF (not_of2 h2) <| tR (kinfolklaw07_cut_runs p 100 _ h3) <| tR (kinfolklaw07_cut_runs l_ 100 _ h4) <| tR (code_ReadStamp_runs N l_2 _ h5) <| tR (kinfolkref07_ReadStamp_runs N l_ _ h6) <| tF (not_of2 h7) <| tR (stamp_Stamp_Text_runs N b2 t n t2 _ h8) <| tR (stamp_Stamp_Text_runs N b2 t n t2 _ h8) <| tR (kinfolkref04_Text_runs N t3 t4 _ h9) <| tF (not_of2 h10) <| tR (bytes_Equal_runs l_2 l_ _ h11) <| tF (not_of2 h12) <| tF (not_of2 h13) <| tR (code_Stamp_runs N b2 t n t2 _ h14) <| tR (bytes_Equal_runs l_3 l_ _ h15) <| tN
            exact runs_of (C := cfg) (objs := []) (sc := t_.ev) (.k1 t_.pf (by kernel_rfl) (by kernel_rfl))
          · have h := some_of h
            subst h
            have t_ := tR (kinfolklaw07_awake_runs N _ h1) <| tF (not_of2 h2) <| tR (kinfolklaw07_cut_runs p 100 _ h3) <| tR (kinfolklaw07_cut_runs l_ 100 _ h4) <| tR (code_ReadStamp_runs N l_2 _ h5) <| tR (kinfolkref07_ReadStamp_runs N l_ _ h6) <| tF (not_of2 h7) <| tR (stamp_Stamp_Text_runs N b2 t n t2 _ h8) <| tR (stamp_Stamp_Text_runs N b2 t n t2 _ h8) <| tR (kinfolkref04_Text_runs N t3 t4 _ h9) <| tF (not_of2 h10) <| tR (bytes_Equal_runs l_2 l_ _ h11) <| tF (not_of2 h12) <| tT (not_of h13) <| tN
            exact runs_of (C := cfg) (objs := []) (sc := t_.ev) (.k1 t_.pf (by kernel_rfl) (by kernel_rfl))
        · have h := some_of h
          subst h
          have t_ := tR (kinfolklaw07_awake_runs N _ h1) <| tF (not_of2 h2) <| tR (kinfolklaw07_cut_runs p 100 _ h3) <| tR (kinfolklaw07_cut_runs l_ 100 _ h4) <| tR (code_ReadStamp_runs N l_2 _ h5) <| tR (kinfolkref07_ReadStamp_runs N l_ _ h6) <| tF (not_of2 h7) <| tR (stamp_Stamp_Text_runs N b2 t n t2 _ h8) <| tR (stamp_Stamp_Text_runs N b2 t n t2 _ h8) <| tR (kinfolkref04_Text_runs N t3 t4 _ h9) <| tF (not_of2 h10) <| tR (bytes_Equal_runs l_2 l_ _ h11) <| tT (not_of h12) <| tN
          exact runs_of (C := cfg) (objs := []) (sc := t_.ev) (.k1 t_.pf (by kernel_rfl) (by kernel_rfl))
      · have h := some_of h
        subst h
        have t_ := tR (kinfolklaw07_awake_runs N _ h1) <| tF (not_of2 h2) <| tR (kinfolklaw07_cut_runs p 100 _ h3) <| tR (kinfolklaw07_cut_runs l_ 100 _ h4) <| tR (code_ReadStamp_runs N l_2 _ h5) <| tR (kinfolkref07_ReadStamp_runs N l_ _ h6) <| tF (not_of2 h7) <| tR (stamp_Stamp_Text_runs N b2 t n t2 _ h8) <| tR (stamp_Stamp_Text_runs N b2 t n t2 _ h8) <| tR (kinfolkref04_Text_runs N t3 t4 _ h9) <| tT (not_of h10) <| tT (rfl : true = true) <| tN
        exact runs_of (C := cfg) (objs := []) (sc := t_.ev) (.k1 t_.pf (by kernel_rfl) (by kernel_rfl))
    · have h := some_of h
      subst h
      have t_ := tR (kinfolklaw07_awake_runs N _ h1) <| tF (not_of2 h2) <| tR (kinfolklaw07_cut_runs p 100 _ h3) <| tR (kinfolklaw07_cut_runs l_ 100 _ h4) <| tR (code_ReadStamp_runs N l_2 _ h5) <| tR (kinfolkref07_ReadStamp_runs N l_ _ h6) <| tT (not_of h7) <| tT (rfl : true = true) <| tT (rfl : true = true) <| tN
      exact runs_of (C := cfg) (objs := []) (sc := t_.ev) (.k1 t_.pf (by kernel_rfl) (by kernel_rfl))
  · have h := some_of h
    subst h
    have t_ := tR (kinfolklaw07_awake_runs N _ h1) <| tT (not_of h2) <| tN
    exact runs_of (C := cfg) (objs := []) (sc := t_.ev) (.k0 t_.pf (by kernel_rfl))

end Go.Proofs.YtjjakdmcnkldoaaDoor
