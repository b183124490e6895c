/- What functions compute, and that they do. -/
import Derived.Test.YtjjakdmcnkldoaaDoorHA1
set_option linter.unusedVariables false
set_option linter.unusedSimpArgs false
set_option maxRecDepth 100000
namespace Go.Proofs.YtjjakdmcnkldoaaDoor
open Go.Ev

/-! ### event_Same -/
noncomputable def event_Same (N : Nat) (a : Int) (a2 : T_event_halves) (b : Int) (b2 : T_event_halves) : Option (Bool) :=
  (event_Leq N a a2 b b2).bind fun b3 =>
  bif b3 then
    (event_Leq N b b2 a a2).bind fun b4 =>
    some b4
  else
    some false
theorem event_Same_runs (N : Nat) (a : Int) (a2 : T_event_halves) (b : Int) (b2 : T_event_halves) (r_ : Bool) (h : event_Same N a a2 b b2 = some r_) : Runs Tryd.prog 25 [(.agg [(.pv (.int .u64 a)), (.pv (T_event_halves.pv a2))]), (.agg [(.pv (.int .u64 b)), (.pv (T_event_halves.pv b2))])] [] [] (event_Same_out a a2 b b2 r_) := by
  unfold event_Same at h
  obtain ⟨b3, h1, h⟩ := bind_of h
  rcases cond_of h with ⟨h2, h⟩ | ⟨h2, h⟩
  · obtain ⟨b4, h3, h⟩ := bind_of h
    have h := some_of h
    subst h
    have t_ := tR (event_Leq_runs N a a2 b b2 _ h1) <| tT h2 <| tR (event_Leq_runs N b b2 a a2 _ h3) <| tN
    exact runs_of (C := cfg) (objs := []) (sc := t_.ev) (.k0 t_.pf (by kernel_rfl))
  · have h := some_of h
    subst h
    have t_ := tR (event_Leq_runs N a a2 b b2 _ h1) <| tF h2 <| tN
    exact runs_of (C := cfg) (objs := []) (sc := t_.ev) (.k0 t_.pf (by kernel_rfl))
/-! ### kinfolkref02_Left_out -/
def kinfolkref02_Left_out (e : T_kinfolkref02_Event) : T_kinfolkref02_Event → Res
  | r1 => ([(.one (.pv (T_kinfolkref02_Event.pv r1)))], [], [])
/-! ### kinfolkref02_Add_out -/
def kinfolkref02_Add_out (e : T_kinfolkref02_Event) (n : Int) : T_kinfolkref02_Event → Res
  | r1 => ([(.one (.pv (T_kinfolkref02_Event.pv r1)))], [], [])
/-! ### kinfolkref02_Add -/
noncomputable def kinfolkref02_Add (e : T_kinfolkref02_Event) (n : Int) : Option (T_kinfolkref02_Event) :=
  match e with
  | .nil =>
    none
  | .mk n2 t t2 =>
    some (T_kinfolkref02_Event.mk (iadd .u64 n2 n) t t2)
theorem kinfolkref02_Add_runs (e : T_kinfolkref02_Event) (n : Int) (r_ : T_kinfolkref02_Event) (h : kinfolkref02_Add e n = some r_) : Runs Tryd.prog 119 [(.one (.pv (T_kinfolkref02_Event.pv e))), (.one (.pv (.int .u64 n)))] [] [] (kinfolkref02_Add_out e n r_) := by
  unfold kinfolkref02_Add at h
  cases e with
  | nil =>
    cases h
  | mk n2 t t2 =>
    have h := some_of h
    subst h
    have t_ := tN
    have e_ : Runs Tryd.prog 119 [(.one (.pv (T_kinfolkref02_Event.pv (T_kinfolkref02_Event.mk n2 t t2)))), (.one (.pv (.int .u64 n)))] [] [] ([(.one (.pv (.imm [(.int .u64 (iadd .u64 n2 n)), (T_kinfolkref02_Event.pv t), (T_kinfolkref02_Event.pv t2)] 0)))], [], []) := runs_of (C := cfg) (objs := []) (sc := t_.ev) (.k0 t_.pf (by kernel_rfl))
    exact e_.out ⟨.eq rfl, trivial⟩ trivial trivial rfl
/-! ### kinfolkref02_Left -/
noncomputable def kinfolkref02_Left (e : T_kinfolkref02_Event) : Option (T_kinfolkref02_Event) :=
  match e with
  | .nil =>
    none
  | .mk n t t2 =>
    match t with
    | .nil =>
      some e
    | .mk n2 t3 t4 =>
      (kinfolkref02_Add t n).bind fun t5 =>
      some t5
theorem kinfolkref02_Left_runs (e : T_kinfolkref02_Event) (r_ : T_kinfolkref02_Event) (h : kinfolkref02_Left e = some r_) : Runs Tryd.prog 67 [(.one (.pv (T_kinfolkref02_Event.pv e)))] [] [] (kinfolkref02_Left_out e r_) := by
  unfold kinfolkref02_Left at h
  cases e with
  | nil =>
    cases h
  | mk n t t2 =>
    cases t with
    | nil =>
      have h := some_of h
      subst h
      have t_ := tT (rfl : true = true) <| tN
      exact runs_of (C := cfg) (objs := []) (sc := t_.ev) (.k0 t_.pf (by kernel_rfl))
    | mk n2 t3 t4 =>
      obtain ⟨t5, h1, h⟩ := bind_of h
      have h := some_of h
      subst h
      have t_ := tF (rfl : false = false) <| tR (kinfolkref02_Add_runs (T_kinfolkref02_Event.mk n2 t3 t4) n _ h1) <| tN
      exact runs_of (C := cfg) (objs := []) (sc := t_.ev) (.k0 t_.pf (by kernel_rfl))
/-! ### kinfolklaw02_like_out -/
def kinfolklaw02_like_out (e : Int) (e2 : T_event_halves) (x : T_kinfolkref02_Event) : Bool → Res
  | r1 => ([(.one (.pv (.bool r1)))], [], [])
/-! ### event_Event_Min_out -/
def event_Event_Min_out (e : Int) (e2 : T_event_halves) : Unit → Res
  | _ => ([(.one (.pv (.int .u64 e)))], [], [])
/-! ### event_Event_Min -/
noncomputable def event_Event_Min (e : Int) (e2 : T_event_halves) : Option (Unit) :=
  some ()
theorem event_Event_Min_runs (e : Int) (e2 : T_event_halves) (r_ : Unit) (h : event_Event_Min e e2 = some r_) : Runs Tryd.prog 95 [(.agg [(.pv (.int .u64 e)), (.pv (T_event_halves.pv e2))])] [] [] (event_Event_Min_out e e2 r_) := by
  unfold event_Event_Min at h
  have h := some_of h
  subst h
  have t_ := tN
  exact runs_of (C := cfg) (objs := []) (sc := t_.ev) (.k0 t_.pf (by kernel_rfl))
/-! ### kinfolkref02_Max_out -/
def kinfolkref02_Max_out (e : T_kinfolkref02_Event) : Int → Res
  | r1 => ([(.one (.pv (.int .u64 r1)))], [], [])
/-! ### kinfolkref02_Max -/
noncomputable def kinfolkref02_Max_b (rec_kinfolkref02_Max : T_kinfolkref02_Event → Option (Int)) (e : T_kinfolkref02_Event) : Option (Int) :=
  match e with
  | .nil =>
    none
  | .mk n t t2 =>
    match t with
    | .nil =>
      some n
    | .mk n2 t3 t4 =>
      (rec_kinfolkref02_Max t).bind fun n3 =>
      (rec_kinfolkref02_Max t2).bind fun n4 =>
      bif (decide ((n4 : Int) < n3)) then
        some (iadd .u64 n n3)
      else
        some (iadd .u64 n n4)
theorem kinfolkref02_Max_b_runs (rec_kinfolkref02_Max : T_kinfolkref02_Event → Option (Int)) (hrec_kinfolkref02_Max : ∀ e r_, rec_kinfolkref02_Max e = some r_ → Runs Tryd.prog 29 [(.one (.pv (T_kinfolkref02_Event.pv e)))] [] [] (kinfolkref02_Max_out e r_)) (e : T_kinfolkref02_Event) (r_ : Int) (h : kinfolkref02_Max_b rec_kinfolkref02_Max e = some r_) : Runs Tryd.prog 29 [(.one (.pv (T_kinfolkref02_Event.pv e)))] [] [] (kinfolkref02_Max_out e r_) := by
  unfold kinfolkref02_Max_b at h
  cases e with
  | nil =>
    cases h
  | mk n t t2 =>
    cases t with
    | nil =>
      have h := some_of h
      subst h
      have t_ := tT (rfl : true = true) <| tN
      exact runs_of (C := cfg) (objs := []) (sc := t_.ev) (.k0 t_.pf (by kernel_rfl))
    | mk n2 t3 t4 =>
      obtain ⟨n3, h1, h⟩ := bind_of h
      obtain ⟨n4, h2, h⟩ := bind_of h
      rcases cond_of h with ⟨h3, h⟩ | ⟨h3, h⟩
      · have h := some_of h
        subst h
        have t_ := tF (rfl : false = false) <| tR (hrec_kinfolkref02_Max (T_kinfolkref02_Event.mk n2 t3 t4) _ h1) <| tR (hrec_kinfolkref02_Max t2 _ h2) <| tT h3 <| tN
        exact runs_of (C := cfg) (objs := []) (sc := t_.ev) (.k0 t_.pf (by kernel_rfl))
      · have h := some_of h
        subst h
        have t_ := tF (rfl : false = false) <| tR (hrec_kinfolkref02_Max (T_kinfolkref02_Event.mk n2 t3 t4) _ h1) <| tR (hrec_kinfolkref02_Max t2 _ h2) <| tF h3 <| tN
        exact runs_of (C := cfg) (objs := []) (sc := t_.ev) (.k0 t_.pf (by kernel_rfl))
noncomputable def kinfolkref02_Max : Nat → T_kinfolkref02_Event → Option (Int)
  | 0, _ => none
  | N + 1, e => kinfolkref02_Max_b (kinfolkref02_Max N) e
theorem kinfolkref02_Max_runs : ∀ (N : Nat) (e : T_kinfolkref02_Event) (r_ : Int), kinfolkref02_Max N e = some r_ → Runs Tryd.prog 29 [(.one (.pv (T_kinfolkref02_Event.pv e)))] [] [] (kinfolkref02_Max_out e r_)
  | 0, _, _, h => by cases h
  | N + 1, e, r_, h => kinfolkref02_Max_b_runs (kinfolkref02_Max N) (kinfolkref02_Max_runs N) e r_ h
/-! ### kinfolkref02_Depth_out -/
def kinfolkref02_Depth_out (e : T_kinfolkref02_Event) : Int → Res
  | r1 => ([(.one (.pv (.int .i64 r1)))], [], [])
/-! ### kinfolkref02_Depth -/
noncomputable def kinfolkref02_Depth_b (rec_kinfolkref02_Depth : T_kinfolkref02_Event → Option (Int)) (e : T_kinfolkref02_Event) : Option (Int) :=
  match e with
  | .nil =>
    none
  | .mk n t t2 =>
    match t with
    | .nil =>
      some 0
    | .mk n2 t3 t4 =>
      (rec_kinfolkref02_Depth t).bind fun n3 =>
      (rec_kinfolkref02_Depth t2).bind fun n4 =>
      bif (decide ((n4 : Int) < n3)) then
        some (iadd .i64 1 n3)
      else
        some (iadd .i64 1 n4)
theorem kinfolkref02_Depth_b_runs (rec_kinfolkref02_Depth : T_kinfolkref02_Event → Option (Int)) (hrec_kinfolkref02_Depth : ∀ e r_, rec_kinfolkref02_Depth e = some r_ → Runs Tryd.prog 57 [(.one (.pv (T_kinfolkref02_Event.pv e)))] [] [] (kinfolkref02_Depth_out e r_)) (e : T_kinfolkref02_Event) (r_ : Int) (h : kinfolkref02_Depth_b rec_kinfolkref02_Depth e = some r_) : Runs Tryd.prog 57 [(.one (.pv (T_kinfolkref02_Event.pv e)))] [] [] (kinfolkref02_Depth_out e r_) := by
  unfold kinfolkref02_Depth_b at h
  cases e with
  | nil =>
    cases h
  | mk n t t2 =>
    cases t with
    | nil =>
      have h := some_of h
      subst h
      have t_ := tT (rfl : true = true) <| tN
      exact runs_of (C := cfg) (objs := []) (sc := t_.ev) (.k0 t_.pf (by kernel_rfl))
    | mk n2 t3 t4 =>
      obtain ⟨n3, h1, h⟩ := bind_of h
      obtain ⟨n4, h2, h⟩ := bind_of h
      rcases cond_of h with ⟨h3, h⟩ | ⟨h3, h⟩
      · have h := some_of h
        subst h
        have t_ := tF (rfl : false = false) <| tR (hrec_kinfolkref02_Depth (T_kinfolkref02_Event.mk n2 t3 t4) _ h1) <| tR (hrec_kinfolkref02_Depth t2 _ h2) <| tT h3 <| tN
        exact runs_of (C := cfg) (objs := []) (sc := t_.ev) (.k0 t_.pf (by kernel_rfl))
      · have h := some_of h
        subst h
        have t_ := tF (rfl : false = false) <| tR (hrec_kinfolkref02_Depth (T_kinfolkref02_Event.mk n2 t3 t4) _ h1) <| tR (hrec_kinfolkref02_Depth t2 _ h2) <| tF h3 <| tN
        exact runs_of (C := cfg) (objs := []) (sc := t_.ev) (.k0 t_.pf (by kernel_rfl))
noncomputable def kinfolkref02_Depth : Nat → T_kinfolkref02_Event → Option (Int)
  | 0, _ => none
  | N + 1, e => kinfolkref02_Depth_b (kinfolkref02_Depth N) e
theorem kinfolkref02_Depth_runs : ∀ (N : Nat) (e : T_kinfolkref02_Event) (r_ : Int), kinfolkref02_Depth N e = some r_ → Runs Tryd.prog 57 [(.one (.pv (T_kinfolkref02_Event.pv e)))] [] [] (kinfolkref02_Depth_out e r_)
  | 0, _, _, h => by cases h
  | N + 1, e, r_, h => kinfolkref02_Depth_b_runs (kinfolkref02_Depth N) (kinfolkref02_Depth_runs N) e r_ h
/-! ### kinfolkref02_Text_out -/
def kinfolkref02_Text_out (e : T_kinfolkref02_Event) : ByteArray → Res
  | r1 => ([(.one (.pv (.str r1)))], [], [])
/-! ### kinfolkref02_Dec_out -/
def kinfolkref02_Dec_out (n : Int) : ByteArray → Res
  | r1 => ([(.one (.pv (.str r1)))], [], [])
/-! ### kinfolkref02_Dec -/
noncomputable def kinfolkref02_Dec_b (rec_kinfolkref02_Dec : Int → Option (ByteArray)) (n : Int) : Option (ByteArray) :=
  bif decide ((0 : Int) ≤ (irem .u64 n 10)) && decide (((irem .u64 n 10) : Int) ≤ (iadd .u64 (irem .u64 n 10) 1)) && decide (((iadd .u64 (irem .u64 n 10) 1) : Int) ≤ ((⟨#[48, 49, 50, 51, 52, 53, 54, 55, 56, 57]⟩ : ByteArray).size : Int)) then
  bif (decide ((n : Int) < 10)) then
    some ((⟨#[48, 49, 50, 51, 52, 53, 54, 55, 56, 57]⟩ : ByteArray).extract ((irem .u64 n 10)).toNat ((iadd .u64 (irem .u64 n 10) 1)).toNat)
  else
    (rec_kinfolkref02_Dec (iquo .u64 n 10)).bind fun s =>
    bif decide (s.size + ((⟨#[48, 49, 50, 51, 52, 53, 54, 55, 56, 57]⟩ : ByteArray).extract ((irem .u64 n 10)).toNat ((iadd .u64 (irem .u64 n 10) 1)).toNat).size ≤ 140737488355328) then
    some (s ++ ((⟨#[48, 49, 50, 51, 52, 53, 54, 55, 56, 57]⟩ : ByteArray).extract ((irem .u64 n 10)).toNat ((iadd .u64 (irem .u64 n 10) 1)).toNat))
    else none
  else none
theorem kinfolkref02_Dec_b_runs (rec_kinfolkref02_Dec : Int → Option (ByteArray)) (hrec_kinfolkref02_Dec : ∀ n r_, rec_kinfolkref02_Dec n = some r_ → Runs Tryd.prog 98 [(.one (.pv (.int .u64 n)))] [] [] (kinfolkref02_Dec_out n r_)) (n : Int) (r_ : ByteArray) (h : kinfolkref02_Dec_b rec_kinfolkref02_Dec n = some r_) : Runs Tryd.prog 98 [(.one (.pv (.int .u64 n)))] [] [] (kinfolkref02_Dec_out n r_) := by
  unfold kinfolkref02_Dec_b at h
  obtain ⟨h1, h⟩ := need_of h
  rcases cond_of h with ⟨h2, h⟩ | ⟨h2, h⟩
  · have h := some_of h
    subst h
    have t_ := tO (rfl : true = true) <| tO (rfl : true = true) <| tO h1 <| tT h2 <| tN
    exact runs_of (C := cfg) (objs := []) (sc := t_.ev) (.k0 t_.pf (by kernel_rfl))
  · obtain ⟨s, h3, h⟩ := bind_of h
    obtain ⟨h4, h⟩ := need_of h
    have h := some_of h
    subst h
    have t_ := tO (rfl : true = true) <| tO (rfl : true = true) <| tO h1 <| tF h2 <| tO (rfl : true = true) <| tR (hrec_kinfolkref02_Dec (iquo .u64 n 10) _ h3) <| tO h4 <| tN
    exact runs_of (C := cfg) (objs := []) (sc := t_.ev) (.k0 t_.pf (by kernel_rfl))
noncomputable def kinfolkref02_Dec : Nat → Int → Option (ByteArray)
  | 0, _ => none
  | N + 1, n => kinfolkref02_Dec_b (kinfolkref02_Dec N) n
theorem kinfolkref02_Dec_runs : ∀ (N : Nat) (n : Int) (r_ : ByteArray), kinfolkref02_Dec N n = some r_ → Runs Tryd.prog 98 [(.one (.pv (.int .u64 n)))] [] [] (kinfolkref02_Dec_out n r_)
  | 0, _, _, h => by cases h
  | N + 1, n, r_, h => kinfolkref02_Dec_b_runs (kinfolkref02_Dec N) (kinfolkref02_Dec_runs N) n r_ h
/-! ### kinfolkref02_Text -/
noncomputable def kinfolkref02_Text_b (N : Nat) (rec_kinfolkref02_Text : T_kinfolkref02_Event → Option (ByteArray)) (e : T_kinfolkref02_Event) : Option (ByteArray) :=
  match e with
  | .nil =>
    none
  | .mk n t t2 =>
    match t with
    | .nil =>
      (kinfolkref02_Dec N n).bind fun s =>
      some s
    | .mk n2 t3 t4 =>
      (kinfolkref02_Dec N n).bind fun s =>
      bif decide ((⟨#[40]⟩ : ByteArray).size + s.size ≤ 140737488355328) then
      bif decide (((⟨#[40]⟩ : ByteArray) ++ s).size + (⟨#[44]⟩ : ByteArray).size ≤ 140737488355328) then
      (rec_kinfolkref02_Text t).bind fun s2 =>
      bif decide ((((⟨#[40]⟩ : ByteArray) ++ s) ++ (⟨#[44]⟩ : ByteArray)).size + s2.size ≤ 140737488355328) then
      bif decide (((((⟨#[40]⟩ : ByteArray) ++ s) ++ (⟨#[44]⟩ : ByteArray)) ++ s2).size + (⟨#[44]⟩ : ByteArray).size ≤ 140737488355328) then
      (rec_kinfolkref02_Text t2).bind fun s3 =>
      bif decide ((((((⟨#[40]⟩ : ByteArray) ++ s) ++ (⟨#[44]⟩ : ByteArray)) ++ s2) ++ (⟨#[44]⟩ : ByteArray)).size + s3.size ≤ 140737488355328) then
      bif decide (((((((⟨#[40]⟩ : ByteArray) ++ s) ++ (⟨#[44]⟩ : ByteArray)) ++ s2) ++ (⟨#[44]⟩ : ByteArray)) ++ s3).size + (⟨#[41]⟩ : ByteArray).size ≤ 140737488355328) then
      some (((((((⟨#[40]⟩ : ByteArray) ++ s) ++ (⟨#[44]⟩ : ByteArray)) ++ s2) ++ (⟨#[44]⟩ : ByteArray)) ++ s3) ++ (⟨#[41]⟩ : ByteArray))
      else none
      else none
      else none
      else none
      else none
      else none
theorem kinfolkref02_Text_b_runs (N : Nat) (rec_kinfolkref02_Text : T_kinfolkref02_Event → Option (ByteArray)) (hrec_kinfolkref02_Text : ∀ e r_, rec_kinfolkref02_Text e = some r_ → Runs Tryd.prog 22 [(.one (.pv (T_kinfolkref02_Event.pv e)))] [] [] (kinfolkref02_Text_out e r_)) (e : T_kinfolkref02_Event) (r_ : ByteArray) (h : kinfolkref02_Text_b N rec_kinfolkref02_Text e = some r_) : Runs Tryd.prog 22 [(.one (.pv (T_kinfolkref02_Event.pv e)))] [] [] (kinfolkref02_Text_out e r_) := by
  unfold kinfolkref02_Text_b at h
  cases e with
  | nil =>
    cases h
  | mk n t t2 =>
    cases t with
    | nil =>
      obtain ⟨s, h1, h⟩ := bind_of h
      have h := some_of h
      subst h
      have t_ := tT (rfl : true = true) <| tR (kinfolkref02_Dec_runs N n _ h1) <| tN
      exact runs_of (C := cfg) (objs := []) (sc := t_.ev) (.k0 t_.pf (by kernel_rfl))
    | mk n2 t3 t4 =>
      obtain ⟨s, h1, h⟩ := bind_of h
      obtain ⟨h2, h⟩ := need_of h
      obtain ⟨h3, h⟩ := need_of h
      obtain ⟨s2, h4, h⟩ := bind_of h
      obtain ⟨h5, h⟩ := need_of h
      obtain ⟨h6, h⟩ := need_of h
      obtain ⟨s3, h7, h⟩ := bind_of h
      obtain ⟨h8, h⟩ := need_of h
      obtain ⟨h9, h⟩ := need_of h
      have h := some_of h
      subst h
      have t_ := tF (rfl : false = false) <| tR (kinfolkref02_Dec_runs N n _ h1) <| tO h2 <| tO h3 <| tR (hrec_kinfolkref02_Text (T_kinfolkref02_Event.mk n2 t3 t4) _ h4) <| tO h5 <| tO h6 <| tR (hrec_kinfolkref02_Text t2 _ h7) <| tO h8 <| tO h9 <| tN
      exact runs_of (C := cfg) (objs := []) (sc := t_.ev) (.k0 t_.pf (by kernel_rfl))
noncomputable def kinfolkref02_Text : Nat → T_kinfolkref02_Event → Option (ByteArray)
  | 0, _ => none
  | N + 1, e => kinfolkref02_Text_b N (kinfolkref02_Text N) e
theorem kinfolkref02_Text_runs : ∀ (N : Nat) (e : T_kinfolkref02_Event) (r_ : ByteArray), kinfolkref02_Text N e = some r_ → Runs Tryd.prog 22 [(.one (.pv (T_kinfolkref02_Event.pv e)))] [] [] (kinfolkref02_Text_out e r_)
  | 0, _, _, h => by cases h
  | N + 1, e, r_, h => kinfolkref02_Text_b_runs N (kinfolkref02_Text N) (kinfolkref02_Text_runs N) e r_ h
/-! ### kinfolklaw02_like -/
noncomputable def kinfolklaw02_like_b (N : Nat) (rec_kinfolklaw02_like : Int → T_event_halves → T_kinfolkref02_Event → Option (Bool)) (e : Int) (e2 : T_event_halves) (x : T_kinfolkref02_Event) : Option (Bool) :=
  match x with
  | .nil =>
    none
  | .mk n t t2 =>
    match t with
    | .nil =>
      (event_Event_IsLeaf e e2).bind fun b =>
      bif (b == true) then
        (event_Event_Base e e2).bind fun _ =>
        bif (decide ((e : Int) = n)) then
          (event_Event_Min e e2).bind fun _ =>
          (kinfolkref02_Min N x).bind fun n2 =>
          bif (decide ((e : Int) = n2)) then
            (event_Event_Max N e e2).bind fun n3 =>
            (kinfolkref02_Max N x).bind fun n4 =>
            bif (decide ((n3 : Int) = n4)) then
              (event_Event_Depth N e e2).bind fun n5 =>
              (kinfolkref02_Depth N x).bind fun n6 =>
              bif (decide ((n5 : Int) = n6)) then
                (event_Event_Text N e e2).bind fun s =>
                (kinfolkref02_Text N x).bind fun s2 =>
                bif decide (s = s2) then
                  (event_Event_Left e e2).bind fun (n7, t3) =>
                  (event_Event_Text N n7 t3).bind fun s3 =>
                  bif (decide (s3 = (⟨#[48]⟩ : ByteArray))) then
                    (event_Event_Right e e2).bind fun (n8, t4) =>
                    (event_Event_Text N n8 t4).bind fun s4 =>
                    some (decide (s4 = (⟨#[48]⟩ : ByteArray)))
                  else
                    some false
                else
                  some false
              else
                some false
            else
              some false
          else
            some false
        else
          some false
      else
        some false
    | .mk n2 t3 t4 =>
      (event_Event_IsLeaf e e2).bind fun b =>
      bif (b == false) then
        (event_Event_Base e e2).bind fun _ =>
        bif (decide ((e : Int) = n)) then
          (event_Event_Min e e2).bind fun _ =>
          (kinfolkref02_Min N x).bind fun n3 =>
          bif (decide ((e : Int) = n3)) then
            (event_Event_Max N e e2).bind fun n4 =>
            (kinfolkref02_Max N x).bind fun n5 =>
            bif (decide ((n4 : Int) = n5)) then
              (event_Event_Depth N e e2).bind fun n6 =>
              (kinfolkref02_Depth N x).bind fun n7 =>
              bif (decide ((n6 : Int) = n7)) then
                (event_Event_Text N e e2).bind fun s =>
                (kinfolkref02_Text N x).bind fun s2 =>
                bif decide (s = s2) then
                  (event_Event_Left e e2).bind fun (n8, t5) =>
                  (rec_kinfolklaw02_like n8 t5 t).bind fun b2 =>
                  bif b2 then
                    (event_Event_Right e e2).bind fun (n9, t6) =>
                    (rec_kinfolklaw02_like n9 t6 t2).bind fun b3 =>
                    some b3
                  else
                    some false
                else
                  some false
              else
                some false
            else
              some false
          else
            some false
        else
          some false
      else
        some false
theorem kinfolklaw02_like_b_runs (N : Nat) (rec_kinfolklaw02_like : Int → T_event_halves → T_kinfolkref02_Event → Option (Bool)) (hrec_kinfolklaw02_like : ∀ e e2 x r_, rec_kinfolklaw02_like e e2 x = some r_ → Runs Tryd.prog 53 [(.agg [(.pv (.int .u64 e)), (.pv (T_event_halves.pv e2))]), (.one (.pv (T_kinfolkref02_Event.pv x)))] [] [] (kinfolklaw02_like_out e e2 x r_)) (e : Int) (e2 : T_event_halves) (x : T_kinfolkref02_Event) (r_ : Bool) (h : kinfolklaw02_like_b N rec_kinfolklaw02_like e e2 x = some r_) : Runs Tryd.prog 53 [(.agg [(.pv (.int .u64 e)), (.pv (T_event_halves.pv e2))]), (.one (.pv (T_kinfolkref02_Event.pv x)))] [] [] (kinfolklaw02_like_out e e2 x r_) := by
  unfold kinfolklaw02_like_b at h
  cases x with
  | nil =>
    cases h
  | mk n t t2 =>
    cases t with
    | nil =>
      obtain ⟨b, h1, h⟩ := bind_of h
      rcases cond_of h with ⟨h2, h⟩ | ⟨h2, h⟩
      · obtain ⟨_, h3, h⟩ := bind_of h
        rcases cond_of h with ⟨h4, h⟩ | ⟨h4, h⟩
        · obtain ⟨_, h5, h⟩ := bind_of h
          obtain ⟨n2, h6, h⟩ := bind_of h
          rcases cond_of h with ⟨h7, h⟩ | ⟨h7, h⟩
          · obtain ⟨n3, h8, h⟩ := bind_of h
            obtain ⟨n4, h9, h⟩ := bind_of h
            rcases cond_of h with ⟨h10, h⟩ | ⟨h10, h⟩
            · obtain ⟨n5, h11, h⟩ := bind_of h
              obtain ⟨n6, h12, h⟩ := bind_of h
              have p14_ := fun {sc_ : List Ev} {Q_ : Prop} (t_ : Tell sc_ Q_) => tR (event_Event_IsLeaf_runs e e2 _ h1) <| tF (not_of2 h2) <| tR (event_Event_Base_runs e e2 _ h3) <| tF (not_of2 h4) <| tR (event_Event_Min_runs e e2 _ h5) <| tR (kinfolkref02_Min_runs N (T_kinfolkref02_Event.mk n T_kinfolkref02_Event.nil t2) _ h6) <| tF (not_of2 h7) <| tR (event_Event_Max_runs N e e2 _ h8) <| tR (kinfolkref02_Max_runs N (T_kinfolkref02_Event.mk n T_kinfolkref02_Event.nil t2) _ h9) <| tF (not_of2 h10) <| tR (event_Event_Depth_runs N e e2 _ h11) <| tR (kinfolkref02_Depth_runs N (T_kinfolkref02_Event.mk n T_kinfolkref02_Event.nil t2) _ h12) <| t_
              rcases cond_of h with ⟨h13, h⟩ | ⟨h13, h⟩
              · obtain ⟨s, h14, h⟩ := bind_of h
                obtain ⟨s2, h15, h⟩ := bind_of h
                rcases cond_of h with ⟨h16, h⟩ | ⟨h16, h⟩
                · obtain ⟨⟨n7, t3⟩, h17, h⟩ := bind_of h
                  obtain ⟨s3, h18, h⟩ := bind_of h
                  rcases cond_of h with ⟨h19, h⟩ | ⟨h19, h⟩
                  · obtain ⟨⟨n8, t4⟩, h20, h⟩ := bind_of h
                    obtain ⟨s4, h21, h⟩ := bind_of h
                    have h := some_of h
                    subst h
                    have t_ := p14_ <| tF (not_of2 h13) <| tR (event_Event_Text_runs N e e2 _ h14) <| tR (kinfolkref02_Text_runs N (T_kinfolkref02_Event.mk n T_kinfolkref02_Event.nil t2) _ h15) <| tF (not_of2 h16) <| tT (rfl : true = true) <| tR (event_Event_Left_runs e e2 _ h17) <| tR (event_Event_Text_runs N n7 t3 _ h18) <| tT h19 <| tR (event_Event_Right_runs e e2 _ h20) <| tR (event_Event_Text_runs N n8 t4 _ h21) <| tN
                    exact runs_of (C := cfg) (objs := []) (sc := t_.ev) (.k0 t_.pf (by kernel_rfl))
                  · have h := some_of h
                    subst h
                    have t_ := p14_ <| tF (not_of2 h13) <| tR (event_Event_Text_runs N e e2 _ h14) <| tR (kinfolkref02_Text_runs N (T_kinfolkref02_Event.mk n T_kinfolkref02_Event.nil t2) _ h15) <| tF (not_of2 h16) <| tT (rfl : true = true) <| tR (event_Event_Left_runs e e2 _ h17) <| tR (event_Event_Text_runs N n7 t3 _ h18) <| tF h19 <| tN
                    exact runs_of (C := cfg) (objs := []) (sc := t_.ev) (.k0 t_.pf (by kernel_rfl))
                · have h := some_of h
                  subst h
                  have t_ := p14_ <| tF (not_of2 h13) <| tR (event_Event_Text_runs N e e2 _ h14) <| tR (kinfolkref02_Text_runs N (T_kinfolkref02_Event.mk n T_kinfolkref02_Event.nil t2) _ h15) <| tT (not_of h16) <| tN
                  exact runs_of (C := cfg) (objs := []) (sc := t_.ev) (.k0 t_.pf (by kernel_rfl))
              · have h := some_of h
                subst h
                have t_ := p14_ <| tT (not_of h13) <| tT (rfl : true = true) <| tN
                exact runs_of (C := cfg) (objs := []) (sc := t_.ev) (.k0 t_.pf (by kernel_rfl))
            · have h := some_of h
              subst h
              have t_ := tR (event_Event_IsLeaf_runs e e2 _ h1) <| tF (not_of2 h2) <| tR (event_Event_Base_runs e e2 _ h3) <| tF (not_of2 h4) <| tR (event_Event_Min_runs e e2 _ h5) <| tR (kinfolkref02_Min_runs N (T_kinfolkref02_Event.mk n T_kinfolkref02_Event.nil t2) _ h6) <| tF (not_of2 h7) <| tR (event_Event_Max_runs N e e2 _ h8) <| tR (kinfolkref02_Max_runs N (T_kinfolkref02_Event.mk n T_kinfolkref02_Event.nil t2) _ h9) <| tT (not_of h10) <| tT (rfl : true = true) <| tT (rfl : true = true) <| tN
              exact runs_of (C := cfg) (objs := []) (sc := t_.ev) (.k0 t_.pf (by kernel_rfl))
          · have h := some_of h
            subst h
            have t_ := tR (event_Event_IsLeaf_runs e e2 _ h1) <| tF (not_of2 h2) <| tR (event_Event_Base_runs e e2 _ h3) <| tF (not_of2 h4) <| tR (event_Event_Min_runs e e2 _ h5) <| tR (kinfolkref02_Min_runs N (T_kinfolkref02_Event.mk n T_kinfolkref02_Event.nil t2) _ h6) <| tT (not_of h7) <| tT (rfl : true = true) <| tT (rfl : true = true) <| tT (rfl : true = true) <| tN
            exact runs_of (C := cfg) (objs := []) (sc := t_.ev) (.k0 t_.pf (by kernel_rfl))
        · have h := some_of h
          subst h
          have t_ := tR (event_Event_IsLeaf_runs e e2 _ h1) <| tF (not_of2 h2) <| tR (event_Event_Base_runs e e2 _ h3) <| tT (not_of h4) <| tT (rfl : true = true) <| tT (rfl : true = true) <| tT (rfl : true = true) <| tT (rfl : true = true) <| tN
          exact runs_of (C := cfg) (objs := []) (sc := t_.ev) (.k0 t_.pf (by kernel_rfl))
      · have h := some_of h
        subst h
        have t_ := tR (event_Event_IsLeaf_runs e e2 _ h1) <| tT (not_of h2) <| tT (rfl : true = true) <| tT (rfl : true = true) <| tT (rfl : true = true) <| tT (rfl : true = true) <| tT (rfl : true = true) <| tN
        exact runs_of (C := cfg) (objs := []) (sc := t_.ev) (.k1 t_.pf (by kernel_rfl) (by kernel_rfl))
    | mk n2 t3 t4 =>
      obtain ⟨b, h1, h⟩ := bind_of h
      rcases cond_of h with ⟨h2, h⟩ | ⟨h2, h⟩
      · obtain ⟨_, h3, h⟩ := bind_of h
        rcases cond_of h with ⟨h4, h⟩ | ⟨h4, h⟩
        · obtain ⟨_, h5, h⟩ := bind_of h
          obtain ⟨n3, h6, h⟩ := bind_of h
          rcases cond_of h with ⟨h7, h⟩ | ⟨h7, h⟩
          · obtain ⟨n4, h8, h⟩ := bind_of h
            obtain ⟨n5, h9, h⟩ := bind_of h
            rcases cond_of h with ⟨h10, h⟩ | ⟨h10, h⟩
            · obtain ⟨n6, h11, h⟩ := bind_of h
              obtain ⟨n7, h12, h⟩ := bind_of h
              have p14_ := fun {sc_ : List Ev} {Q_ : Prop} (t_ : Tell sc_ Q_) => tR (event_Event_IsLeaf_runs e e2 _ h1) <| tF (not_of2 h2) <| tR (event_Event_Base_runs e e2 _ h3) <| tF (not_of2 h4) <| tR (event_Event_Min_runs e e2 _ h5) <| tR (kinfolkref02_Min_runs N (T_kinfolkref02_Event.mk n (T_kinfolkref02_Event.mk n2 t3 t4) t2) _ h6) <| tF (not_of2 h7) <| tR (event_Event_Max_runs N e e2 _ h8) <| tR (kinfolkref02_Max_runs N (T_kinfolkref02_Event.mk n (T_kinfolkref02_Event.mk n2 t3 t4) t2) _ h9) <| tF (not_of2 h10) <| tR (event_Event_Depth_runs N e e2 _ h11) <| tR (kinfolkref02_Depth_runs N (T_kinfolkref02_Event.mk n (T_kinfolkref02_Event.mk n2 t3 t4) t2) _ h12) <| t_
              rcases cond_of h with ⟨h13, h⟩ | ⟨h13, h⟩
              · obtain ⟨s, h14, h⟩ := bind_of h
                obtain ⟨s2, h15, h⟩ := bind_of h
                rcases cond_of h with ⟨h16, h⟩ | ⟨h16, h⟩
                · obtain ⟨⟨n8, t5⟩, h17, h⟩ := bind_of h
                  obtain ⟨b2, h18, h⟩ := bind_of h
                  rcases cond_of h with ⟨h19, h⟩ | ⟨h19, h⟩
                  · obtain ⟨⟨n9, t6⟩, h20, h⟩ := bind_of h
                    obtain ⟨b3, h21, h⟩ := bind_of h
                    have h := some_of h
                    subst h
                    have t_ := p14_ <| tF (not_of2 h13) <| tR (event_Event_Text_runs N e e2 _ h14) <| tR (kinfolkref02_Text_runs N (T_kinfolkref02_Event.mk n (T_kinfolkref02_Event.mk n2 t3 t4) t2) _ h15) <| tF (not_of2 h16) <| tF (rfl : false = false) <| tR (event_Event_Left_runs e e2 _ h17) <| tR (hrec_kinfolklaw02_like n8 t5 (T_kinfolkref02_Event.mk n2 t3 t4) _ h18) <| tT h19 <| tR (event_Event_Right_runs e e2 _ h20) <| tR (hrec_kinfolklaw02_like n9 t6 t2 _ h21) <| tN
                    exact runs_of (C := cfg) (objs := []) (sc := t_.ev) (.k0 t_.pf (by kernel_rfl))
                  · have h := some_of h
                    subst h
                    have t_ := p14_ <| tF (not_of2 h13) <| tR (event_Event_Text_runs N e e2 _ h14) <| tR (kinfolkref02_Text_runs N (T_kinfolkref02_Event.mk n (T_kinfolkref02_Event.mk n2 t3 t4) t2) _ h15) <| tF (not_of2 h16) <| tF (rfl : false = false) <| tR (event_Event_Left_runs e e2 _ h17) <| tR (hrec_kinfolklaw02_like n8 t5 (T_kinfolkref02_Event.mk n2 t3 t4) _ h18) <| tF h19 <| tN
                    exact runs_of (C := cfg) (objs := []) (sc := t_.ev) (.k1 t_.pf (by kernel_rfl) (by kernel_rfl))
                · have h := some_of h
                  subst h
                  have t_ := p14_ <| tF (not_of2 h13) <| tR (event_Event_Text_runs N e e2 _ h14) <| tR (kinfolkref02_Text_runs N (T_kinfolkref02_Event.mk n (T_kinfolkref02_Event.mk n2 t3 t4) t2) _ h15) <| tT (not_of h16) <| tN
                  exact runs_of (C := cfg) (objs := []) (sc := t_.ev) (.k0 t_.pf (by kernel_rfl))
              · have h := some_of h
                subst h
                have t_ := p14_ <| tT (not_of h13) <| tT (rfl : true = true) <| tN
                exact runs_of (C := cfg) (objs := []) (sc := t_.ev) (.k0 t_.pf (by kernel_rfl))
            · have h := some_of h
              subst h
              have t_ := tR (event_Event_IsLeaf_runs e e2 _ h1) <| tF (not_of2 h2) <| tR (event_Event_Base_runs e e2 _ h3) <| tF (not_of2 h4) <| tR (event_Event_Min_runs e e2 _ h5) <| tR (kinfolkref02_Min_runs N (T_kinfolkref02_Event.mk n (T_kinfolkref02_Event.mk n2 t3 t4) t2) _ h6) <| tF (not_of2 h7) <| tR (event_Event_Max_runs N e e2 _ h8) <| tR (kinfolkref02_Max_runs N (T_kinfolkref02_Event.mk n (T_kinfolkref02_Event.mk n2 t3 t4) t2) _ h9) <| tT (not_of h10) <| tT (rfl : true = true) <| tT (rfl : true = true) <| tN
              exact runs_of (C := cfg) (objs := []) (sc := t_.ev) (.k0 t_.pf (by kernel_rfl))
          · have h := some_of h
            subst h
            have t_ := tR (event_Event_IsLeaf_runs e e2 _ h1) <| tF (not_of2 h2) <| tR (event_Event_Base_runs e e2 _ h3) <| tF (not_of2 h4) <| tR (event_Event_Min_runs e e2 _ h5) <| tR (kinfolkref02_Min_runs N (T_kinfolkref02_Event.mk n (T_kinfolkref02_Event.mk n2 t3 t4) t2) _ h6) <| tT (not_of h7) <| tT (rfl : true = true) <| tT (rfl : true = true) <| tT (rfl : true = true) <| tN
            exact runs_of (C := cfg) (objs := []) (sc := t_.ev) (.k0 t_.pf (by kernel_rfl))
        · have h := some_of h
          subst h
          have t_ := tR (event_Event_IsLeaf_runs e e2 _ h1) <| tF (not_of2 h2) <| tR (event_Event_Base_runs e e2 _ h3) <| tT (not_of h4) <| tT (rfl : true = true) <| tT (rfl : true = true) <| tT (rfl : true = true) <| tT (rfl : true = true) <| tN
          exact runs_of (C := cfg) (objs := []) (sc := t_.ev) (.k0 t_.pf (by kernel_rfl))
      · have h := some_of h
        subst h
        have t_ := tR (event_Event_IsLeaf_runs e e2 _ h1) <| tT (not_of h2) <| tT (rfl : true = true) <| tT (rfl : true = true) <| tT (rfl : true = true) <| tT (rfl : true = true) <| tT (rfl : true = true) <| tN
        exact runs_of (C := cfg) (objs := []) (sc := t_.ev) (.k1 t_.pf (by kernel_rfl) (by kernel_rfl))
noncomputable def kinfolklaw02_like : Nat → Int → T_event_halves → T_kinfolkref02_Event → Option (Bool)
  | 0, _, _, _ => none
  | N + 1, e, e2, x => kinfolklaw02_like_b N (kinfolklaw02_like N) e e2 x
theorem kinfolklaw02_like_runs : ∀ (N : Nat) (e : Int) (e2 : T_event_halves) (x : T_kinfolkref02_Event) (r_ : Bool), kinfolklaw02_like N e e2 x = some r_ → Runs Tryd.prog 53 [(.agg [(.pv (.int .u64 e)), (.pv (T_event_halves.pv e2))]), (.one (.pv (T_kinfolkref02_Event.pv x)))] [] [] (kinfolklaw02_like_out e e2 x r_)
  | 0, _, _, _, _, h => by cases h
  | N + 1, e, e2, x, r_, h => kinfolklaw02_like_b_runs N (kinfolklaw02_like N) (kinfolklaw02_like_runs N) e e2 x r_ h
/-! ### kinfolkref02_Right_out -/
def kinfolkref02_Right_out (e : T_kinfolkref02_Event) : T_kinfolkref02_Event → Res
  | r1 => ([(.one (.pv (T_kinfolkref02_Event.pv r1)))], [], [])
/-! ### kinfolkref02_Right -/
noncomputable def kinfolkref02_Right (e : T_kinfolkref02_Event) : Option (T_kinfolkref02_Event) :=
  match e with
  | .nil =>
    none
  | .mk n t t2 =>
    match t with
    | .nil =>
      some e
    | .mk n2 t3 t4 =>
      (kinfolkref02_Add t2 n).bind fun t5 =>
      some t5
theorem kinfolkref02_Right_runs (e : T_kinfolkref02_Event) (r_ : T_kinfolkref02_Event) (h : kinfolkref02_Right e = some r_) : Runs Tryd.prog 68 [(.one (.pv (T_kinfolkref02_Event.pv e)))] [] [] (kinfolkref02_Right_out e r_) := by
  unfold kinfolkref02_Right at h
  cases e with
  | nil =>
    cases h
  | mk n t t2 =>
    cases t with
    | nil =>
      have h := some_of h
      subst h
      have t_ := tT (rfl : true = true) <| tN
      exact runs_of (C := cfg) (objs := []) (sc := t_.ev) (.k0 t_.pf (by kernel_rfl))
    | mk n2 t3 t4 =>
      obtain ⟨t5, h1, h⟩ := bind_of h
      have h := some_of h
      subst h
      have t_ := tF (rfl : false = false) <| tR (kinfolkref02_Add_runs t2 n _ h1) <| tN
      exact runs_of (C := cfg) (objs := []) (sc := t_.ev) (.k0 t_.pf (by kernel_rfl))
/-! ### kinfolklaw02_EventHalves -/
noncomputable def kinfolklaw02_EventHalves (N : Nat) (p : List Int) (q : List Int) : Option (Bool) :=
  (kinfolklaw02_awake N).bind fun b =>
  bif b then
    (kinfolklaw02_made N p).bind fun (n, t, t2) =>
    (kinfolklaw02_made N q).bind fun (n2, t3, t4) =>
    (event_Event_Left n t).bind fun (n3, t5) =>
    (event_Event_Base n t).bind fun _ =>
    (kinfolklaw02_EventHalves_1 N n3 t5 n).bind fun (n4, t6) =>
    (event_Event_Right n t).bind fun (n5, t7) =>
    (kinfolklaw02_EventHalves_1 N n5 t7 n).bind fun (n6, t8) =>
    (event_Event_Left n2 t3).bind fun (n7, t9) =>
    (event_Event_Base n2 t3).bind fun _ =>
    (kinfolklaw02_EventHalves_1 N n7 t9 n2).bind fun (n8, t10) =>
    (event_Event_Right n2 t3).bind fun (n9, t11) =>
    (kinfolklaw02_EventHalves_1 N n9 t11 n2).bind fun (n10, t12) =>
    (event_Join N n4 t6 n8 t10).bind fun (n11, t13) =>
    (event_Join N n6 t8 n10 t12).bind fun (n12, t14) =>
    (event_Node N 0 n11 t13 n12 t14).bind fun (n13, t15, n14) =>
    bif (decide ((n14 : Int) = 0)) then
      (event_Leq N n t n2 t3).bind fun b2 =>
      (event_Leq N n4 t6 n8 t10).bind fun b3 =>
      bif b3 then
        (event_Leq N n6 t8 n10 t12).bind fun b4 =>
        bif (b2 == b4) then
          (event_Join N n t n2 t3).bind fun (n15, t16) =>
          (event_Same N n13 t15 n15 t16).bind fun b5 =>
          bif b5 then
            (kinfolkref02_Left t2).bind fun t17 =>
            (kinfolklaw02_like N n4 t6 t17).bind fun b6 =>
            bif b6 then
              (kinfolkref02_Right t4).bind fun t18 =>
              (kinfolklaw02_like N n10 t12 t18).bind fun b7 =>
              some b7
            else
              none
          else
            none
        else
          none
      else
        bif (b2 == false) then
          (event_Join N n t n2 t3).bind fun (n15, t16) =>
          (event_Same N n13 t15 n15 t16).bind fun b4 =>
          bif b4 then
            (kinfolkref02_Left t2).bind fun t17 =>
            (kinfolklaw02_like N n4 t6 t17).bind fun b5 =>
            bif b5 then
              (kinfolkref02_Right t4).bind fun t18 =>
              (kinfolklaw02_like N n10 t12 t18).bind fun b6 =>
              some b6
            else
              none
          else
            none
        else
          none
    else
      none
  else
    none
theorem kinfolklaw02_EventHalves_runs (N : Nat) (p : List Int) (q : List Int) (r_ : Bool) (h : kinfolklaw02_EventHalves N p q = some r_) : Runs Tryd.prog 14 [(.one (.pv (.ints .u8 p false))), (.one (.pv (.ints .u8 q false)))] [] [] (kinfolklaw02_EventHalves_out p q r_) := by
  unfold kinfolklaw02_EventHalves at h
  obtain ⟨b, h1, h⟩ := bind_of h
  rcases cond_of h with ⟨h2, h⟩ | ⟨h2, h⟩
  · obtain ⟨⟨n, t, t2⟩, h3, h⟩ := bind_of h
    obtain ⟨⟨n2, t3, t4⟩, h4, h⟩ := bind_of h
    obtain ⟨⟨n3, t5⟩, h5, h⟩ := bind_of h
    obtain ⟨_, h6, h⟩ := bind_of h
    obtain ⟨⟨n4, t6⟩, h7, h⟩ := bind_of h
    have q_7 := (kinfolklaw02_EventHalves_1_runs N n3 t5 n _ h7)
    obtain ⟨⟨n5, t7⟩, h8, h⟩ := bind_of h
    obtain ⟨⟨n6, t8⟩, h9, h⟩ := bind_of h
    have q_9 := (kinfolklaw02_EventHalves_1_runs N n5 t7 n _ h9)
    obtain ⟨⟨n7, t9⟩, h10, h⟩ := bind_of h
    obtain ⟨_, h11, h⟩ := bind_of h
    obtain ⟨⟨n8, t10⟩, h12, h⟩ := bind_of h
    have q_12 := (kinfolklaw02_EventHalves_1_runs N n7 t9 n2 _ h12)
    obtain ⟨⟨n9, t11⟩, h13, h⟩ := bind_of h
    obtain ⟨⟨n10, t12⟩, h14, h⟩ := bind_of h
    have q_14 := (kinfolklaw02_EventHalves_1_runs N n9 t11 n2 _ h14)
    obtain ⟨⟨n11, t13⟩, h15, h⟩ := bind_of h
    obtain ⟨⟨n12, t14⟩, h16, h⟩ := bind_of h
    obtain ⟨⟨n13, t15, n14⟩, h17, h⟩ := bind_of h
    have p17_ := fun {sc_ : List Ev} {Q_ : Prop} (t_ : Tell sc_ Q_) => tR (kinfolklaw02_awake_runs N _ h1) <| tF (not_of2 h2) <| tR (kinfolklaw02_made_runs N p _ h3) <| tR (kinfolklaw02_made_runs N q _ h4) <| tR (event_Event_Left_runs n t _ h5) <| tR (event_Event_Left_runs n t _ h5) <| tR (event_Event_Left_runs n t _ h5) <| tR (event_Event_Left_runs n t _ h5) <| tR (event_Event_Left_runs n t _ h5) <| tR (event_Event_Base_runs n t _ h6) <| tR q_7 <| tR (event_Event_Base_runs n t _ h6) <| tR (event_Event_Left_runs n t _ h5) <| tR (event_Event_Base_runs n t _ h6) <| tR (event_Event_Left_runs n t _ h5) <| tR (event_Event_Left_runs n t _ h5) <| tR (event_Event_Base_runs n t _ h6) <| tR (event_Event_Left_runs n t _ h5) <| tR (event_Event_Left_runs n t _ h5) <| tR (event_Event_Left_runs n t _ h5) <| tR (event_Event_Base_runs n t _ h6) <| tR (event_Event_Base_runs n t _ h6) <| tR (event_Event_Left_runs n t _ h5) <| tR (event_Event_Left_runs n t _ h5) <| tR (event_Event_Base_runs n t _ h6) <| tR (event_Event_Base_runs n t _ h6) <| tR (event_Event_Left_runs n t _ h5) <| tR (event_Event_Left_runs n t _ h5) <| tR (event_Event_Base_runs n t _ h6) <| tR (event_Event_Base_runs n t _ h6) <| tR (event_Event_Base_runs n t _ h6) <| tR q_7 <| tR q_7 <| tR q_7 <| tR q_7 <| tR (event_Event_Right_runs n t _ h8) <| tR (event_Event_Base_runs n t _ h6) <| tR (event_Event_Right_runs n t _ h8) <| tR (event_Event_Right_runs n t _ h8) <| tR (event_Event_Right_runs n t _ h8) <| tR (event_Event_Right_runs n t _ h8) <| tR q_7 <| tR q_7 <| tR q_7 <| tR (event_Event_Base_runs n t _ h6) <| tR q_7 <| tR (event_Event_Base_runs n t _ h6) <| tR q_7 <| tR (event_Event_Left_runs n t _ h5) <| tR (event_Event_Base_runs n t _ h6) <| tR (event_Event_Base_runs n t _ h6) <| tR q_7 <| tR q_7 <| tR (event_Event_Base_runs n t _ h6) <| tR q_7 <| tR q_7 <| tR q_7 <| tR (event_Event_Right_runs n t _ h8) <| tR (event_Event_Right_runs n t _ h8) <| tR (event_Event_Right_runs n t _ h8) <| tR (event_Event_Right_runs n t _ h8) <| tR (event_Event_Right_runs n t _ h8) <| tR (event_Event_Right_runs n t _ h8) <| tR (event_Event_Base_runs n t _ h6) <| tR (event_Event_Base_runs n t _ h6) <| tR (event_Event_Base_runs n t _ h6) <| tR (event_Event_Base_runs n t _ h6) <| tR q_9 <| tR (event_Event_Left_runs n2 t3 _ h10) <| tR q_9 <| tR q_9 <| tR q_9 <| tR q_9 <| tR (event_Event_Base_runs n t _ h6) <| tR (event_Event_Base_runs n t _ h6) <| tR (event_Event_Base_runs n t _ h6) <| tR (event_Event_Base_runs n t _ h6) <| tR (event_Event_Base_runs n t _ h6) <| tR (event_Event_Base_runs n t _ h6) <| tR (event_Event_Right_runs n t _ h8) <| tR (event_Event_Right_runs n t _ h8) <| tR (event_Event_Right_runs n t _ h8) <| tR q_7 <| tR (event_Event_Right_runs n t _ h8) <| tR (event_Event_Right_runs n t _ h8) <| tR (event_Event_Base_runs n t _ h6) <| tR (event_Event_Base_runs n t _ h6) <| tR (event_Event_Base_runs n t _ h6) <| tR (event_Event_Base_runs n t _ h6) <| tR q_9 <| tR q_9 <| tR q_9 <| tR q_9 <| tR q_9 <| tR q_9 <| tR (event_Event_Left_runs n2 t3 _ h10) <| tR (event_Event_Left_runs n2 t3 _ h10) <| tR (event_Event_Left_runs n2 t3 _ h10) <| tR (event_Event_Left_runs n2 t3 _ h10) <| tR (event_Event_Base_runs n2 t3 _ h11) <| tR q_12 <| tR (event_Event_Base_runs n2 t3 _ h11) <| tR (event_Event_Base_runs n2 t3 _ h11) <| tR (event_Event_Base_runs n2 t3 _ h11) <| tR (event_Event_Base_runs n2 t3 _ h11) <| tR (event_Event_Left_runs n2 t3 _ h10) <| tR (event_Event_Left_runs n2 t3 _ h10) <| tR (event_Event_Left_runs n2 t3 _ h10) <| tR (event_Event_Left_runs n2 t3 _ h10) <| tR (event_Event_Left_runs n2 t3 _ h10) <| tR (event_Event_Left_runs n2 t3 _ h10) <| tR q_9 <| tR q_9 <| tR q_9 <| tR q_9 <| tR (event_Event_Base_runs n t _ h6) <| tR q_9 <| tR (event_Event_Left_runs n2 t3 _ h10) <| tR (event_Event_Left_runs n2 t3 _ h10) <| tR (event_Event_Left_runs n2 t3 _ h10) <| tR (event_Event_Left_runs n2 t3 _ h10) <| tR (event_Event_Base_runs n2 t3 _ h11) <| tR (event_Event_Base_runs n2 t3 _ h11) <| tR (event_Event_Base_runs n2 t3 _ h11) <| tR (event_Event_Base_runs n2 t3 _ h11) <| tR (event_Event_Base_runs n2 t3 _ h11) <| tR (event_Event_Base_runs n2 t3 _ h11) <| tR q_12 <| tR q_12 <| tR q_12 <| tR q_12 <| tR (event_Event_Right_runs n2 t3 _ h13) <| tR (event_Event_Base_runs n2 t3 _ h11) <| tR (event_Event_Right_runs n2 t3 _ h13) <| tR (event_Event_Right_runs n2 t3 _ h13) <| tR (event_Event_Right_runs n2 t3 _ h13) <| tR (event_Event_Right_runs n2 t3 _ h13) <| tR q_12 <| tR q_12 <| tR q_12 <| tR q_12 <| tR q_12 <| tR q_12 <| tR (event_Event_Base_runs n2 t3 _ h11) <| tR (event_Event_Base_runs n2 t3 _ h11) <| tR (event_Event_Base_runs n2 t3 _ h11) <| tR (event_Event_Base_runs n2 t3 _ h11) <| tR (event_Event_Left_runs n2 t3 _ h10) <| tR (event_Event_Base_runs n2 t3 _ h11) <| tR q_12 <| tR q_12 <| tR q_12 <| tR q_12 <| tR (event_Event_Right_runs n2 t3 _ h13) <| tR (event_Event_Right_runs n2 t3 _ h13) <| tR (event_Event_Right_runs n2 t3 _ h13) <| tR (event_Event_Right_runs n2 t3 _ h13) <| tR (event_Event_Right_runs n2 t3 _ h13) <| tR (event_Event_Right_runs n2 t3 _ h13) <| tR (event_Event_Base_runs n2 t3 _ h11) <| tR (event_Event_Base_runs n2 t3 _ h11) <| tR (event_Event_Base_runs n2 t3 _ h11) <| tR (event_Event_Base_runs n2 t3 _ h11) <| tR q_14 <| tR q_14 <| tR q_14 <| tR q_14 <| tR q_14 <| tR (event_Event_Base_runs n2 t3 _ h11) <| tR (event_Event_Base_runs n2 t3 _ h11) <| tR (event_Event_Base_runs n2 t3 _ h11) <| tR (event_Event_Base_runs n2 t3 _ h11) <| tR (event_Event_Base_runs n2 t3 _ h11) <| tR (event_Event_Base_runs n2 t3 _ h11) <| tR (event_Event_Right_runs n2 t3 _ h13) <| tR (event_Event_Right_runs n2 t3 _ h13) <| tR (event_Event_Right_runs n2 t3 _ h13) <| tR (event_Event_Right_runs n2 t3 _ h13) <| tR q_12 <| tR (event_Event_Right_runs n2 t3 _ h13) <| tR (event_Event_Base_runs n2 t3 _ h11) <| tR (event_Event_Base_runs n2 t3 _ h11) <| tR (event_Event_Base_runs n2 t3 _ h11) <| tR (event_Event_Base_runs n2 t3 _ h11) <| tR q_14 <| tR q_14 <| tR q_14 <| tR q_14 <| tR q_14 <| tR q_14 <| tR q_14 <| tR q_14 <| tR q_14 <| tR q_14 <| tR (event_Event_Base_runs n2 t3 _ h11) <| tR q_14 <| tR (event_Join_runs N n4 t6 n8 t10 _ h15) <| tR (event_Join_runs N n4 t6 n8 t10 _ h15) <| tR (event_Join_runs N n6 t8 n10 t12 _ h16) <| tR (event_Node_runs N 0 n11 t13 n12 t14 _ h17) <| tR (event_Join_runs N n6 t8 n10 t12 _ h16) <| tR (event_Node_runs N 0 n11 t13 n12 t14 _ h17) <| t_
    rcases cond_of h with ⟨h18, h⟩ | ⟨h18, h⟩
    · obtain ⟨b2, h19, h⟩ := bind_of h
      obtain ⟨b3, h20, h⟩ := bind_of h
      rcases cond_of h with ⟨h21, h⟩ | ⟨h21, h⟩
      · obtain ⟨b4, h22, h⟩ := bind_of h
        rcases cond_of h with ⟨h23, h⟩ | ⟨h23, h⟩
        · obtain ⟨⟨n15, t16⟩, h24, h⟩ := bind_of h
          obtain ⟨b5, h25, h⟩ := bind_of h
          rcases cond_of h with ⟨h26, h⟩ | ⟨h26, h⟩
          · obtain ⟨t17, h27, h⟩ := bind_of h
            obtain ⟨b6, h28, h⟩ := bind_of h
            rcases cond_of h with ⟨h29, h⟩ | ⟨h29, h⟩
            · obtain ⟨t18, h30, h⟩ := bind_of h
              obtain ⟨b7, h31, h⟩ := bind_of h
              have h := some_of h
              subst h
              have t_ := p17_ <| tT h18 <| tR (event_Leq_runs N n t n2 t3 _ h19) <| tR (event_Leq_runs N n4 t6 n8 t10 _ h20) <| tT h21 <| tR (event_Leq_runs N n6 t8 n10 t12 _ h22) <| tT h23 <| tR (event_Join_runs N n t n2 t3 _ h24) <| tR (event_Same_runs N n13 t15 n15 t16 _ h25) <| tT h26 <| tR (kinfolkref02_Left_runs t2 _ h27) <| tR (kinfolklaw02_like_runs N n4 t6 t17 _ h28) <| tT h29 <| tR (kinfolkref02_Right_runs t4 _ h30) <| tR (kinfolklaw02_like_runs N n10 t12 t18 _ h31) <| tN
              exact runs_of (C := cfg) (objs := []) (sc := t_.ev) (.k1 t_.pf (by kernel_rfl) (by kernel_rfl))
            · cases h
          · cases h
        · cases h
      · rcases cond_of h with ⟨h22, h⟩ | ⟨h22, h⟩
        · obtain ⟨⟨n15, t16⟩, h23, h⟩ := bind_of h
          obtain ⟨b4, h24, h⟩ := bind_of h
          rcases cond_of h with ⟨h25, h⟩ | ⟨h25, h⟩
          · obtain ⟨t17, h26, h⟩ := bind_of h
            obtain ⟨b5, h27, h⟩ := bind_of h
            rcases cond_of h with ⟨h28, h⟩ | ⟨h28, h⟩
            · obtain ⟨t18, h29, h⟩ := bind_of h
              obtain ⟨b6, h30, h⟩ := bind_of h
              have h := some_of h
              subst h
              have t_ := p17_ <| tT h18 <| tR (event_Leq_runs N n t n2 t3 _ h19) <| tR (event_Leq_runs N n4 t6 n8 t10 _ h20) <| tF h21 <| tT h22 <| tR (event_Join_runs N n t n2 t3 _ h23) <| tR (event_Same_runs N n13 t15 n15 t16 _ h24) <| tT h25 <| tR (kinfolkref02_Left_runs t2 _ h26) <| tR (kinfolklaw02_like_runs N n4 t6 t17 _ h27) <| tT h28 <| tR (kinfolkref02_Right_runs t4 _ h29) <| tR (kinfolklaw02_like_runs N n10 t12 t18 _ h30) <| tN
              exact runs_of (C := cfg) (objs := []) (sc := t_.ev) (.k1 t_.pf (by kernel_rfl) (by kernel_rfl))
            · cases h
          · cases h
        · cases h
    · cases h
  · cases h

end Go.Proofs.YtjjakdmcnkldoaaDoor
