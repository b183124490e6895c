/- What functions compute, and that they do. -/
import Derived.Test.YtjjakdmcnkldoaaA4
set_option linter.unusedVariables false
set_option linter.unusedSimpArgs false
namespace Go.Proofs.Ytjjakdmcnkldoaa
open Go.Ev

/-! ### id_Covers -/
theorem id_Covers_p0 (a : Bool) (a2 : T_id_halves) (b : Bool) (b2 : T_id_halves) : evFn Try.prog cfg (Runs Try.prog) (LRuns Try.prog (lEnv Try.prog cfg 37 0).nt 0) 37 [(.agg [(.pv (.bool a)), (.pv (T_id_halves.pv a2))]), (.agg [(.pv (.bool b)), (.pv (T_id_halves.pv b2))])] [] []
    [.res ([(.one (.pv (.bool a)))], [], []), .br true, .br true] =
  some (([(.one (.pv (.bool true)))], [], []), obs [
    Runs Try.prog 48 [(.agg [(.pv (.bool a)), (.pv (T_id_halves.pv a2))])] [] [] ([(.one (.pv (.bool a)))], [], []),
    a = true,
    true = true]) := by kernel_rfl
theorem id_Covers_p1 (a : Bool) (a2 : T_id_halves) (b : Bool) (b2 : T_id_halves) (b3 : Bool) : evFn Try.prog cfg (Runs Try.prog) (LRuns Try.prog (lEnv Try.prog cfg 37 0).nt 0) 37 [(.agg [(.pv (.bool a)), (.pv (T_id_halves.pv a2))]), (.agg [(.pv (.bool b)), (.pv (T_id_halves.pv b2))])] [] []
    [.res ([(.one (.pv (.bool a)))], [], []), .br false, .res ([(.one (.pv (.bool b3)))], [], []), .br true] =
  some (([(.one (.pv (.bool true)))], [], []), obs [
    Runs Try.prog 48 [(.agg [(.pv (.bool a)), (.pv (T_id_halves.pv a2))])] [] [] ([(.one (.pv (.bool a)))], [], []),
    a = false,
    Runs Try.prog 47 [(.agg [(.pv (.bool b)), (.pv (T_id_halves.pv b2))])] [] [] ([(.one (.pv (.bool b3)))], [], []),
    b3 = true]) := by kernel_rfl
theorem id_Covers_p2 (a : Bool) (a2 : T_id_halves) (b : Bool) (b2 : T_id_halves) (b3 : Bool) (b4 : Bool) : evFn Try.prog cfg (Runs Try.prog) (LRuns Try.prog (lEnv Try.prog cfg 37 0).nt 0) 37 [(.agg [(.pv (.bool a)), (.pv (T_id_halves.pv a2))]), (.agg [(.pv (.bool b)), (.pv (T_id_halves.pv b2))])] [] []
    [.res ([(.one (.pv (.bool a)))], [], []), .br false, .res ([(.one (.pv (.bool b3)))], [], []), .br false, .res ([(.one (.pv (.bool b4)))], [], []), .br true, .br true] =
  some (([(.one (.pv (.bool false)))], [], []), obs [
    Runs Try.prog 48 [(.agg [(.pv (.bool a)), (.pv (T_id_halves.pv a2))])] [] [] ([(.one (.pv (.bool a)))], [], []),
    a = false,
    Runs Try.prog 47 [(.agg [(.pv (.bool b)), (.pv (T_id_halves.pv b2))])] [] [] ([(.one (.pv (.bool b3)))], [], []),
    b3 = false,
    Runs Try.prog 47 [(.agg [(.pv (.bool a)), (.pv (T_id_halves.pv a2))])] [] [] ([(.one (.pv (.bool b4)))], [], []),
    b4 = true,
    true = true]) := by kernel_rfl
theorem id_Covers_p3 (a : Bool) (a2 : T_id_halves) (b : Bool) (b2 : T_id_halves) (b3 : Bool) (b4 : Bool) : evFn Try.prog cfg (Runs Try.prog) (LRuns Try.prog (lEnv Try.prog cfg 37 0).nt 0) 37 [(.agg [(.pv (.bool a)), (.pv (T_id_halves.pv a2))]), (.agg [(.pv (.bool b)), (.pv (T_id_halves.pv b2))])] [] []
    [.res ([(.one (.pv (.bool a)))], [], []), .br false, .res ([(.one (.pv (.bool b3)))], [], []), .br false, .res ([(.one (.pv (.bool b4)))], [], []), .br false, .res ([(.one (.pv (.bool b)))], [], []), .br true] =
  some (([(.one (.pv (.bool false)))], [], []), obs [
    Runs Try.prog 48 [(.agg [(.pv (.bool a)), (.pv (T_id_halves.pv a2))])] [] [] ([(.one (.pv (.bool a)))], [], []),
    a = false,
    Runs Try.prog 47 [(.agg [(.pv (.bool b)), (.pv (T_id_halves.pv b2))])] [] [] ([(.one (.pv (.bool b3)))], [], []),
    b3 = false,
    Runs Try.prog 47 [(.agg [(.pv (.bool a)), (.pv (T_id_halves.pv a2))])] [] [] ([(.one (.pv (.bool b4)))], [], []),
    b4 = false,
    Runs Try.prog 48 [(.agg [(.pv (.bool b)), (.pv (T_id_halves.pv b2))])] [] [] ([(.one (.pv (.bool b)))], [], []),
    b = true]) := by kernel_rfl
theorem id_Covers_p6 (a : Bool) (b : Bool) (b3 : Bool) (b4 : Bool) (b5 : Bool) (t : T_id_halves) (b6 : Bool) (t2 : T_id_halves) (b7 : Bool) (t3 : T_id_halves) (b8 : Bool) (t4 : T_id_halves) (b9 : Bool) (b10 : Bool) : both (evFn Try.prog cfg (Runs Try.prog) (LRuns Try.prog (lEnv Try.prog cfg 37 0).nt 0) 37 [(.agg [(.pv (.bool a)), (.pv (T_id_halves.pv (T_id_halves.mk b7 t3 b8 t4)))]), (.agg [(.pv (.bool b)), (.pv (T_id_halves.pv (T_id_halves.mk b5 t b6 t2)))])] [] []
    [.res ([(.one (.pv (.bool a)))], [], []), .br false, .res ([(.one (.pv (.bool b3)))], [], []), .br false, .res ([(.one (.pv (.bool b4)))], [], []), .br false, .res ([(.one (.pv (.bool b)))], [], []), .br false, .res ([(.one (.pv (.bool b9)))], [], []), .br true, .res ([(.one (.pv (.bool b10)))], [], [])]) (([(.one (.pv (.bool b10)))], [], [])) [
    Runs Try.prog 48 [(.agg [(.pv (.bool a)), (.pv (T_id_halves.pv (T_id_halves.mk b7 t3 b8 t4)))])] [] [] ([(.one (.pv (.bool a)))], [], []),
    a = false,
    Runs Try.prog 47 [(.agg [(.pv (.bool b)), (.pv (T_id_halves.pv (T_id_halves.mk b5 t b6 t2)))])] [] [] ([(.one (.pv (.bool b3)))], [], []),
    b3 = false,
    Runs Try.prog 47 [(.agg [(.pv (.bool a)), (.pv (T_id_halves.pv (T_id_halves.mk b7 t3 b8 t4)))])] [] [] ([(.one (.pv (.bool b4)))], [], []),
    b4 = false,
    Runs Try.prog 48 [(.agg [(.pv (.bool b)), (.pv (T_id_halves.pv (T_id_halves.mk b5 t b6 t2)))])] [] [] ([(.one (.pv (.bool b)))], [], []),
    b = false,
    Runs Try.prog 37 [(.agg [(.pv (.bool b7)), (.pv (T_id_halves.pv t3))]), (.agg [(.pv (.bool b5)), (.pv (T_id_halves.pv t))])] [] [] ([(.one (.pv (.bool b9)))], [], []),
    b9 = true,
    Runs Try.prog 37 [(.agg [(.pv (.bool b8)), (.pv (T_id_halves.pv t4))]), (.agg [(.pv (.bool b6)), (.pv (T_id_halves.pv t2))])] [] [] ([(.one (.pv (.bool b10)))], [], [])] := ⟨by kernel_rfl, by kernel_rfl⟩
theorem id_Covers_p7 (a : Bool) (b : Bool) (b3 : Bool) (b4 : Bool) (b5 : Bool) (t : T_id_halves) (b6 : Bool) (t2 : T_id_halves) (b7 : Bool) (t3 : T_id_halves) (b8 : Bool) (t4 : T_id_halves) (b9 : Bool) : both (evFn Try.prog cfg (Runs Try.prog) (LRuns Try.prog (lEnv Try.prog cfg 37 0).nt 0) 37 [(.agg [(.pv (.bool a)), (.pv (T_id_halves.pv (T_id_halves.mk b7 t3 b8 t4)))]), (.agg [(.pv (.bool b)), (.pv (T_id_halves.pv (T_id_halves.mk b5 t b6 t2)))])] [] []
    [.res ([(.one (.pv (.bool a)))], [], []), .br false, .res ([(.one (.pv (.bool b3)))], [], []), .br false, .res ([(.one (.pv (.bool b4)))], [], []), .br false, .res ([(.one (.pv (.bool b)))], [], []), .br false, .res ([(.one (.pv (.bool b9)))], [], []), .br false]) (([(.one (.pv (.bool false)))], [], [])) [
    Runs Try.prog 48 [(.agg [(.pv (.bool a)), (.pv (T_id_halves.pv (T_id_halves.mk b7 t3 b8 t4)))])] [] [] ([(.one (.pv (.bool a)))], [], []),
    a = false,
    Runs Try.prog 47 [(.agg [(.pv (.bool b)), (.pv (T_id_halves.pv (T_id_halves.mk b5 t b6 t2)))])] [] [] ([(.one (.pv (.bool b3)))], [], []),
    b3 = false,
    Runs Try.prog 47 [(.agg [(.pv (.bool a)), (.pv (T_id_halves.pv (T_id_halves.mk b7 t3 b8 t4)))])] [] [] ([(.one (.pv (.bool b4)))], [], []),
    b4 = false,
    Runs Try.prog 48 [(.agg [(.pv (.bool b)), (.pv (T_id_halves.pv (T_id_halves.mk b5 t b6 t2)))])] [] [] ([(.one (.pv (.bool b)))], [], []),
    b = false,
    Runs Try.prog 37 [(.agg [(.pv (.bool b7)), (.pv (T_id_halves.pv t3))]), (.agg [(.pv (.bool b5)), (.pv (T_id_halves.pv t))])] [] [] ([(.one (.pv (.bool b9)))], [], []),
    b9 = false] := ⟨by kernel_rfl, by kernel_rfl⟩
noncomputable def id_Covers_b (rec_id_Covers : Bool → T_id_halves → Bool → T_id_halves → Option (Bool)) (a : Bool) (a2 : T_id_halves) (b : Bool) (b2 : T_id_halves) : Option (Bool) :=
  (id_ID_IsOne a a2).bind fun _ =>
  bif a then
    some true
  else
    (id_ID_IsZero b b2).bind fun b3 =>
    bif b3 then
      some true
    else
      (id_ID_IsZero a a2).bind fun b4 =>
      bif b4 then
        some false
      else
        (id_ID_IsOne b b2).bind fun _ =>
        bif b then
          some false
        else
          match b2 with
          | .nil =>
            none
          | .mk b5 t b6 t2 =>
            match a2 with
            | .nil =>
              none
            | .mk b7 t3 b8 t4 =>
              (rec_id_Covers b7 t3 b5 t).bind fun b9 =>
              bif b9 then
                (rec_id_Covers b8 t4 b6 t2).bind fun b10 =>
                some b10
              else
                some false
theorem id_Covers_b_runs (rec_id_Covers : Bool → T_id_halves → Bool → T_id_halves → Option (Bool)) (hrec_id_Covers : ∀ a a2 b b2 r_, rec_id_Covers a a2 b b2 = some r_ → Runs Try.prog 37 [(.agg [(.pv (.bool a)), (.pv (T_id_halves.pv a2))]), (.agg [(.pv (.bool b)), (.pv (T_id_halves.pv b2))])] [] [] (id_Covers_out a a2 b b2 r_)) (a : Bool) (a2 : T_id_halves) (b : Bool) (b2 : T_id_halves) (r_ : Bool) (h : id_Covers_b rec_id_Covers a a2 b b2 = some r_) : Runs Try.prog 37 [(.agg [(.pv (.bool a)), (.pv (T_id_halves.pv a2))]), (.agg [(.pv (.bool b)), (.pv (T_id_halves.pv b2))])] [] [] (id_Covers_out a a2 b b2 r_) := by
  unfold id_Covers_b at h
  obtain ⟨_, h1, h⟩ := bind_of h
  rcases cond_of h with ⟨h2, h⟩ | ⟨h2, h⟩
  · have h := some_of h
    subst h
    have e_ := id_Covers_p0 a a2 b b2
    have e_ := runs_of (objs := []) (Says.of e_ ⟨(id_ID_IsOne_runs a a2 _ h1), h2, rfl, trivial⟩)
    exact e_
  · obtain ⟨b3, h3, h⟩ := bind_of h
    rcases cond_of h with ⟨h4, h⟩ | ⟨h4, h⟩
    · have h := some_of h
      subst h
      have e_ := id_Covers_p1 a a2 b b2 b3
      have e_ := runs_of (objs := []) (Says.of e_ ⟨(id_ID_IsOne_runs a a2 _ h1), h2, (id_ID_IsZero_runs b b2 _ h3), h4, trivial⟩)
      exact e_
    · obtain ⟨b4, h5, h⟩ := bind_of h
      rcases cond_of h with ⟨h6, h⟩ | ⟨h6, h⟩
      · have h := some_of h
        subst h
        have e_ := id_Covers_p2 a a2 b b2 b3 b4
        have e_ := runs_of (objs := []) (Says.of e_ ⟨(id_ID_IsOne_runs a a2 _ h1), h2, (id_ID_IsZero_runs b b2 _ h3), h4, (id_ID_IsZero_runs a a2 _ h5), h6, rfl, trivial⟩)
        exact e_
      · obtain ⟨_, h7, h⟩ := bind_of h
        rcases cond_of h with ⟨h8, h⟩ | ⟨h8, h⟩
        · have h := some_of h
          subst h
          have e_ := id_Covers_p3 a a2 b b2 b3 b4
          have e_ := runs_of (objs := []) (Says.of e_ ⟨(id_ID_IsOne_runs a a2 _ h1), h2, (id_ID_IsZero_runs b b2 _ h3), h4, (id_ID_IsZero_runs a a2 _ h5), h6, (id_ID_IsOne_runs b b2 _ h7), h8, trivial⟩)
          exact e_
        · cases b2 with
          | nil =>
            cases h
          | mk b5 t b6 t2 =>
            cases a2 with
            | nil =>
              cases h
            | mk b7 t3 b8 t4 =>
              obtain ⟨b9, h9, h⟩ := bind_of h
              rcases cond_of h with ⟨h10, h⟩ | ⟨h10, h⟩
              · obtain ⟨b10, h11, h⟩ := bind_of h
                have h := some_of h
                subst h
                have e_ := id_Covers_p6 a b b3 b4 b5 t b6 t2 b7 t3 b8 t4 b9 b10
                have e_ := runs_of (objs := []) (Says.of2 e_ ⟨(id_ID_IsOne_runs a (T_id_halves.mk b7 t3 b8 t4) _ h1), h2, (id_ID_IsZero_runs b (T_id_halves.mk b5 t b6 t2) _ h3), h4, (id_ID_IsZero_runs a (T_id_halves.mk b7 t3 b8 t4) _ h5), h6, (id_ID_IsOne_runs b (T_id_halves.mk b5 t b6 t2) _ h7), h8, (hrec_id_Covers b7 t3 b5 t _ h9), h10, (hrec_id_Covers b8 t4 b6 t2 _ h11), trivial⟩)
                exact e_
              · have h := some_of h
                subst h
                have e_ := id_Covers_p7 a b b3 b4 b5 t b6 t2 b7 t3 b8 t4 b9
                have e_ := runs_of (objs := []) (Says.of2 e_ ⟨(id_ID_IsOne_runs a (T_id_halves.mk b7 t3 b8 t4) _ h1), h2, (id_ID_IsZero_runs b (T_id_halves.mk b5 t b6 t2) _ h3), h4, (id_ID_IsZero_runs a (T_id_halves.mk b7 t3 b8 t4) _ h5), h6, (id_ID_IsOne_runs b (T_id_halves.mk b5 t b6 t2) _ h7), h8, (hrec_id_Covers b7 t3 b5 t _ h9), h10, trivial⟩)
                exact e_
noncomputable def id_Covers : Nat → Bool → T_id_halves → Bool → T_id_halves → Option (Bool)
  | 0, _, _, _, _ => none
  | N + 1, a, a2, b, b2 => id_Covers_b (id_Covers N) a a2 b b2
theorem id_Covers_runs : ∀ (N : Nat) (a : Bool) (a2 : T_id_halves) (b : Bool) (b2 : T_id_halves) (r_ : Bool), id_Covers N a a2 b b2 = some r_ → Runs Try.prog 37 [(.agg [(.pv (.bool a)), (.pv (T_id_halves.pv a2))]), (.agg [(.pv (.bool b)), (.pv (T_id_halves.pv b2))])] [] [] (id_Covers_out a a2 b b2 r_)
  | 0, _, _, _, _, _, h => by cases h
  | N + 1, a, a2, b, b2, r_, h => id_Covers_b_runs (id_Covers N) (id_Covers_runs N) a a2 b b2 r_ h
/-! ### id_Same -/
theorem id_Same_p0 (a : Bool) (a2 : T_id_halves) (b : Bool) (b2 : T_id_halves) (b3 : Bool) (b4 : Bool) : evFn Try.prog cfg (Runs Try.prog) (LRuns Try.prog (lEnv Try.prog cfg 12 0).nt 0) 12 [(.agg [(.pv (.bool a)), (.pv (T_id_halves.pv a2))]), (.agg [(.pv (.bool b)), (.pv (T_id_halves.pv b2))])] [] []
    [.res ([(.one (.pv (.bool b3)))], [], []), .br true, .res ([(.one (.pv (.bool b4)))], [], [])] =
  some (([(.one (.pv (.bool b4)))], [], []), obs [
    Runs Try.prog 37 [(.agg [(.pv (.bool a)), (.pv (T_id_halves.pv a2))]), (.agg [(.pv (.bool b)), (.pv (T_id_halves.pv b2))])] [] [] ([(.one (.pv (.bool b3)))], [], []),
    b3 = true,
    Runs Try.prog 37 [(.agg [(.pv (.bool b)), (.pv (T_id_halves.pv b2))]), (.agg [(.pv (.bool a)), (.pv (T_id_halves.pv a2))])] [] [] ([(.one (.pv (.bool b4)))], [], [])]) := by kernel_rfl
theorem id_Same_p1 (a : Bool) (a2 : T_id_halves) (b : Bool) (b2 : T_id_halves) (b3 : Bool) : evFn Try.prog cfg (Runs Try.prog) (LRuns Try.prog (lEnv Try.prog cfg 12 0).nt 0) 12 [(.agg [(.pv (.bool a)), (.pv (T_id_halves.pv a2))]), (.agg [(.pv (.bool b)), (.pv (T_id_halves.pv b2))])] [] []
    [.res ([(.one (.pv (.bool b3)))], [], []), .br false] =
  some (([(.one (.pv (.bool false)))], [], []), obs [
    Runs Try.prog 37 [(.agg [(.pv (.bool a)), (.pv (T_id_halves.pv a2))]), (.agg [(.pv (.bool b)), (.pv (T_id_halves.pv b2))])] [] [] ([(.one (.pv (.bool b3)))], [], []),
    b3 = false]) := by kernel_rfl
noncomputable def id_Same (N : Nat) (a : Bool) (a2 : T_id_halves) (b : Bool) (b2 : T_id_halves) : Option (Bool) :=
  (id_Covers N a a2 b b2).bind fun b3 =>
  bif b3 then
    (id_Covers N b b2 a a2).bind fun b4 =>
    some b4
  else
    some false
theorem id_Same_runs (N : Nat) (a : Bool) (a2 : T_id_halves) (b : Bool) (b2 : T_id_halves) (r_ : Bool) (h : id_Same N a a2 b b2 = some r_) : Runs Try.prog 12 [(.agg [(.pv (.bool a)), (.pv (T_id_halves.pv a2))]), (.agg [(.pv (.bool b)), (.pv (T_id_halves.pv b2))])] [] [] (id_Same_out a a2 b b2 r_) := by
  unfold id_Same at h
  obtain ⟨b3, h1, h⟩ := bind_of h
  rcases cond_of h with ⟨h2, h⟩ | ⟨h2, h⟩
  · obtain ⟨b4, h3, h⟩ := bind_of h
    have h := some_of h
    subst h
    have e_ := id_Same_p0 a a2 b b2 b3 b4
    have e_ := runs_of (objs := []) (Says.of e_ ⟨(id_Covers_runs N a a2 b b2 _ h1), h2, (id_Covers_runs N b b2 a a2 _ h3), trivial⟩)
    exact e_
  · have h := some_of h
    subst h
    have e_ := id_Same_p1 a a2 b b2 b3
    have e_ := runs_of (objs := []) (Says.of e_ ⟨(id_Covers_runs N a a2 b b2 _ h1), h2, trivial⟩)
    exact e_
/-! ### event_Same_out -/
def event_Same_out (a : Int) (a2 : T_event_halves) (b : Int) (b2 : T_event_halves) : Bool → Res
  | r1 => ([(.one (.pv (.bool r1)))], [], [])
/-! ### event_Leq_out -/
def event_Leq_out (a : Int) (a2 : T_event_halves) (b : Int) (b2 : T_event_halves) : Bool → Res
  | r1 => ([(.one (.pv (.bool r1)))], [], [])
/-! ### event_Event_up_out -/
def event_Event_up_out (e : Int) (e2 : T_event_halves) (n : Int) : Int → Res
  | r1 => ([(.agg [(.pv (.int .u64 r1)), (.pv (T_event_halves.pv e2))])], [], [])
/-! ### event_Event_up -/
theorem event_Event_up_p0 (e : Int) (e2 : T_event_halves) (n : Int) : evFn Try.prog cfg (Runs Try.prog) (LRuns Try.prog (lEnv Try.prog cfg 71 0).nt 0) 71 [(.agg [(.pv (.int .u64 e)), (.pv (T_event_halves.pv e2))]), (.one (.pv (.int .u64 n)))] [] []
    [] =
  some (([(.agg [(.pv (.int .u64 (iadd .u64 e n))), (.pv (T_event_halves.pv e2))])], [], []), obs [
    ]) := by kernel_rfl
noncomputable def event_Event_up (e : Int) (e2 : T_event_halves) (n : Int) : Option (Int) :=
  some (iadd .u64 e n)
theorem event_Event_up_runs (e : Int) (e2 : T_event_halves) (n : Int) (r_ : Int) (h : event_Event_up e e2 n = some r_) : Runs Try.prog 71 [(.agg [(.pv (.int .u64 e)), (.pv (T_event_halves.pv e2))]), (.one (.pv (.int .u64 n)))] [] [] (event_Event_up_out e e2 n r_) := by
  unfold event_Event_up at h
  have h := some_of h
  subst h
  have e_ := event_Event_up_p0 e e2 n
  have e_ := runs_of (objs := []) (Says.of e_ trivial)
  exact e_
/-! ### event_Leq -/
theorem event_Leq_p0 (a : Int) (b : Int) (b2 : T_event_halves) : evFn Try.prog cfg (Runs Try.prog) (LRuns Try.prog (lEnv Try.prog cfg 38 0).nt 0) 38 [(.agg [(.pv (.int .u64 a)), (.pv (T_event_halves.pv T_event_halves.nil))]), (.agg [(.pv (.int .u64 b)), (.pv (T_event_halves.pv b2))])] [] []
    [.br true] =
  some (([(.one (.pv (.bool (decide ((a : Int) ≤ b)))))], [], []), obs [
    true = true]) := by kernel_rfl
theorem event_Leq_p1 (a : Int) (b : Int) (n : Int) (t : T_event_halves) (n2 : Int) (t2 : T_event_halves) : evFn Try.prog cfg (Runs Try.prog) (LRuns Try.prog (lEnv Try.prog cfg 38 0).nt 0) 38 [(.agg [(.pv (.int .u64 a)), (.pv (T_event_halves.pv (T_event_halves.mk n t n2 t2)))]), (.agg [(.pv (.int .u64 b)), (.pv (T_event_halves.pv T_event_halves.nil))])] [] []
    [.br false, .br true, .br true] =
  some (([(.one (.pv (.bool false)))], [], []), obs [
    false = false,
    (decide ((b : Int) < a)) = true,
    true = true]) := by kernel_rfl
theorem event_Leq_p2 (a : Int) (b : Int) (n : Int) (t : T_event_halves) (n2 : Int) (t2 : T_event_halves) (n3 : Int) (t3 : T_event_halves) (n4 : Int) (t4 : T_event_halves) (n5 : Int) (n6 : Int) (t5 : T_event_halves) (n7 : Int) (b3 : Bool) (n8 : Int) (n9 : Int) (t6 : T_event_halves) (n10 : Int) (b4 : Bool) : both (evFn Try.prog cfg (Runs Try.prog) (LRuns Try.prog (lEnv Try.prog cfg 38 0).nt 0) 38 [(.agg [(.pv (.int .u64 a)), (.pv (T_event_halves.pv (T_event_halves.mk n t n2 t2)))]), (.agg [(.pv (.int .u64 b)), (.pv (T_event_halves.pv (T_event_halves.mk n3 t3 n4 t4)))])] [] []
    [.br false, .br true, .br false, .res ([(.agg [(.pv (.int .u64 n5)), (.pv (T_event_halves.pv t))])], [], []), .res ([(.agg [(.pv (.int .u64 n5)), (.pv (T_event_halves.pv t))])], [], []), .res ([(.agg [(.pv (.int .u64 n5)), (.pv (T_event_halves.pv t))])], [], []), .res ([(.agg [(.pv (.int .u64 n5)), (.pv (T_event_halves.pv t))])], [], []), .res ([(.agg [(.pv (.int .u64 n6)), (.pv (T_event_halves.pv t5))])], [], []), .res ([(.agg [(.pv (.int .u64 n6)), (.pv (T_event_halves.pv t5))])], [], []), .res ([(.agg [(.pv (.int .u64 n7)), (.pv (T_event_halves.pv t5))])], [], []), .res ([(.one (.pv (.bool b3)))], [], []), .br true, .res ([(.agg [(.pv (.int .u64 n8)), (.pv (T_event_halves.pv t2))])], [], []), .res ([(.agg [(.pv (.int .u64 n8)), (.pv (T_event_halves.pv t2))])], [], []), .res ([(.agg [(.pv (.int .u64 n8)), (.pv (T_event_halves.pv t2))])], [], []), .res ([(.agg [(.pv (.int .u64 n8)), (.pv (T_event_halves.pv t2))])], [], []), .res ([(.agg [(.pv (.int .u64 n9)), (.pv (T_event_halves.pv t6))])], [], []), .res ([(.agg [(.pv (.int .u64 n9)), (.pv (T_event_halves.pv t6))])], [], []), .res ([(.agg [(.pv (.int .u64 n10)), (.pv (T_event_halves.pv t6))])], [], []), .res ([(.one (.pv (.bool b4)))], [], [])]) (([(.one (.pv (.bool b4)))], [], [])) [
    false = false,
    (decide ((b : Int) < a)) = true,
    false = false,
    Runs Try.prog 71 [(.agg [(.pv (.int .u64 n)), (.pv (T_event_halves.pv t))]), (.one (.pv (.int .u64 a)))] [] [] ([(.agg [(.pv (.int .u64 n5)), (.pv (T_event_halves.pv t))])], [], []),
    Runs Try.prog 71 [(.agg [(.pv (.int .u64 n)), (.pv (T_event_halves.pv t))]), (.one (.pv (.int .u64 a)))] [] [] ([(.agg [(.pv (.int .u64 n5)), (.pv (T_event_halves.pv t))])], [], []),
    Runs Try.prog 71 [(.agg [(.pv (.int .u64 n)), (.pv (T_event_halves.pv t))]), (.one (.pv (.int .u64 a)))] [] [] ([(.agg [(.pv (.int .u64 n5)), (.pv (T_event_halves.pv t))])], [], []),
    Runs Try.prog 71 [(.agg [(.pv (.int .u64 n)), (.pv (T_event_halves.pv t))]), (.one (.pv (.int .u64 a)))] [] [] ([(.agg [(.pv (.int .u64 n5)), (.pv (T_event_halves.pv t))])], [], []),
    Runs Try.prog 39 [(.agg [(.pv (.int .u64 b)), (.pv (T_event_halves.pv (T_event_halves.mk n3 t3 n4 t4)))])] [] [] ([(.agg [(.pv (.int .u64 n6)), (.pv (T_event_halves.pv t5))])], [], []),
    Runs Try.prog 39 [(.agg [(.pv (.int .u64 b)), (.pv (T_event_halves.pv (T_event_halves.mk n3 t3 n4 t4)))])] [] [] ([(.agg [(.pv (.int .u64 n6)), (.pv (T_event_halves.pv t5))])], [], []),
    Runs Try.prog 71 [(.agg [(.pv (.int .u64 n6)), (.pv (T_event_halves.pv t5))]), (.one (.pv (.int .u64 b)))] [] [] ([(.agg [(.pv (.int .u64 n7)), (.pv (T_event_halves.pv t5))])], [], []),
    Runs Try.prog 38 [(.agg [(.pv (.int .u64 n5)), (.pv (T_event_halves.pv t))]), (.agg [(.pv (.int .u64 n7)), (.pv (T_event_halves.pv t5))])] [] [] ([(.one (.pv (.bool b3)))], [], []),
    b3 = true,
    Runs Try.prog 71 [(.agg [(.pv (.int .u64 n2)), (.pv (T_event_halves.pv t2))]), (.one (.pv (.int .u64 a)))] [] [] ([(.agg [(.pv (.int .u64 n8)), (.pv (T_event_halves.pv t2))])], [], []),
    Runs Try.prog 71 [(.agg [(.pv (.int .u64 n2)), (.pv (T_event_halves.pv t2))]), (.one (.pv (.int .u64 a)))] [] [] ([(.agg [(.pv (.int .u64 n8)), (.pv (T_event_halves.pv t2))])], [], []),
    Runs Try.prog 71 [(.agg [(.pv (.int .u64 n2)), (.pv (T_event_halves.pv t2))]), (.one (.pv (.int .u64 a)))] [] [] ([(.agg [(.pv (.int .u64 n8)), (.pv (T_event_halves.pv t2))])], [], []),
    Runs Try.prog 71 [(.agg [(.pv (.int .u64 n2)), (.pv (T_event_halves.pv t2))]), (.one (.pv (.int .u64 a)))] [] [] ([(.agg [(.pv (.int .u64 n8)), (.pv (T_event_halves.pv t2))])], [], []),
    Runs Try.prog 40 [(.agg [(.pv (.int .u64 b)), (.pv (T_event_halves.pv (T_event_halves.mk n3 t3 n4 t4)))])] [] [] ([(.agg [(.pv (.int .u64 n9)), (.pv (T_event_halves.pv t6))])], [], []),
    Runs Try.prog 40 [(.agg [(.pv (.int .u64 b)), (.pv (T_event_halves.pv (T_event_halves.mk n3 t3 n4 t4)))])] [] [] ([(.agg [(.pv (.int .u64 n9)), (.pv (T_event_halves.pv t6))])], [], []),
    Runs Try.prog 71 [(.agg [(.pv (.int .u64 n9)), (.pv (T_event_halves.pv t6))]), (.one (.pv (.int .u64 b)))] [] [] ([(.agg [(.pv (.int .u64 n10)), (.pv (T_event_halves.pv t6))])], [], []),
    Runs Try.prog 38 [(.agg [(.pv (.int .u64 n8)), (.pv (T_event_halves.pv t2))]), (.agg [(.pv (.int .u64 n10)), (.pv (T_event_halves.pv t6))])] [] [] ([(.one (.pv (.bool b4)))], [], [])] := ⟨by kernel_rfl, by kernel_rfl⟩
theorem event_Leq_p3 (a : Int) (b : Int) (n : Int) (t : T_event_halves) (n2 : Int) (t2 : T_event_halves) (n3 : Int) (t3 : T_event_halves) (n4 : Int) (t4 : T_event_halves) (n5 : Int) (n6 : Int) (t5 : T_event_halves) (n7 : Int) (b3 : Bool) : both (evFn Try.prog cfg (Runs Try.prog) (LRuns Try.prog (lEnv Try.prog cfg 38 0).nt 0) 38 [(.agg [(.pv (.int .u64 a)), (.pv (T_event_halves.pv (T_event_halves.mk n t n2 t2)))]), (.agg [(.pv (.int .u64 b)), (.pv (T_event_halves.pv (T_event_halves.mk n3 t3 n4 t4)))])] [] []
    [.br false, .br true, .br false, .res ([(.agg [(.pv (.int .u64 n5)), (.pv (T_event_halves.pv t))])], [], []), .res ([(.agg [(.pv (.int .u64 n5)), (.pv (T_event_halves.pv t))])], [], []), .res ([(.agg [(.pv (.int .u64 n5)), (.pv (T_event_halves.pv t))])], [], []), .res ([(.agg [(.pv (.int .u64 n5)), (.pv (T_event_halves.pv t))])], [], []), .res ([(.agg [(.pv (.int .u64 n6)), (.pv (T_event_halves.pv t5))])], [], []), .res ([(.agg [(.pv (.int .u64 n6)), (.pv (T_event_halves.pv t5))])], [], []), .res ([(.agg [(.pv (.int .u64 n7)), (.pv (T_event_halves.pv t5))])], [], []), .res ([(.one (.pv (.bool b3)))], [], []), .br false]) (([(.one (.pv (.bool false)))], [], [])) [
    false = false,
    (decide ((b : Int) < a)) = true,
    false = false,
    Runs Try.prog 71 [(.agg [(.pv (.int .u64 n)), (.pv (T_event_halves.pv t))]), (.one (.pv (.int .u64 a)))] [] [] ([(.agg [(.pv (.int .u64 n5)), (.pv (T_event_halves.pv t))])], [], []),
    Runs Try.prog 71 [(.agg [(.pv (.int .u64 n)), (.pv (T_event_halves.pv t))]), (.one (.pv (.int .u64 a)))] [] [] ([(.agg [(.pv (.int .u64 n5)), (.pv (T_event_halves.pv t))])], [], []),
    Runs Try.prog 71 [(.agg [(.pv (.int .u64 n)), (.pv (T_event_halves.pv t))]), (.one (.pv (.int .u64 a)))] [] [] ([(.agg [(.pv (.int .u64 n5)), (.pv (T_event_halves.pv t))])], [], []),
    Runs Try.prog 71 [(.agg [(.pv (.int .u64 n)), (.pv (T_event_halves.pv t))]), (.one (.pv (.int .u64 a)))] [] [] ([(.agg [(.pv (.int .u64 n5)), (.pv (T_event_halves.pv t))])], [], []),
    Runs Try.prog 39 [(.agg [(.pv (.int .u64 b)), (.pv (T_event_halves.pv (T_event_halves.mk n3 t3 n4 t4)))])] [] [] ([(.agg [(.pv (.int .u64 n6)), (.pv (T_event_halves.pv t5))])], [], []),
    Runs Try.prog 39 [(.agg [(.pv (.int .u64 b)), (.pv (T_event_halves.pv (T_event_halves.mk n3 t3 n4 t4)))])] [] [] ([(.agg [(.pv (.int .u64 n6)), (.pv (T_event_halves.pv t5))])], [], []),
    Runs Try.prog 71 [(.agg [(.pv (.int .u64 n6)), (.pv (T_event_halves.pv t5))]), (.one (.pv (.int .u64 b)))] [] [] ([(.agg [(.pv (.int .u64 n7)), (.pv (T_event_halves.pv t5))])], [], []),
    Runs Try.prog 38 [(.agg [(.pv (.int .u64 n5)), (.pv (T_event_halves.pv t))]), (.agg [(.pv (.int .u64 n7)), (.pv (T_event_halves.pv t5))])] [] [] ([(.one (.pv (.bool b3)))], [], []),
    b3 = false] := ⟨by kernel_rfl, by kernel_rfl⟩
theorem event_Leq_p4 (a : Int) (b : Int) (b2 : T_event_halves) (n : Int) (t : T_event_halves) (n2 : Int) (t2 : T_event_halves) (n3 : Int) (n4 : Int) (t3 : T_event_halves) (n5 : Int) (b3 : Bool) (n6 : Int) (n7 : Int) (t4 : T_event_halves) (n8 : Int) (b4 : Bool) : both (evFn Try.prog cfg (Runs Try.prog) (LRuns Try.prog (lEnv Try.prog cfg 38 0).nt 0) 38 [(.agg [(.pv (.int .u64 a)), (.pv (T_event_halves.pv (T_event_halves.mk n t n2 t2)))]), (.agg [(.pv (.int .u64 b)), (.pv (T_event_halves.pv b2))])] [] []
    [.br false, .br false, .br false, .res ([(.agg [(.pv (.int .u64 n3)), (.pv (T_event_halves.pv t))])], [], []), .res ([(.agg [(.pv (.int .u64 n3)), (.pv (T_event_halves.pv t))])], [], []), .res ([(.agg [(.pv (.int .u64 n3)), (.pv (T_event_halves.pv t))])], [], []), .res ([(.agg [(.pv (.int .u64 n3)), (.pv (T_event_halves.pv t))])], [], []), .res ([(.agg [(.pv (.int .u64 n4)), (.pv (T_event_halves.pv t3))])], [], []), .res ([(.agg [(.pv (.int .u64 n4)), (.pv (T_event_halves.pv t3))])], [], []), .res ([(.agg [(.pv (.int .u64 n5)), (.pv (T_event_halves.pv t3))])], [], []), .res ([(.one (.pv (.bool b3)))], [], []), .br true, .res ([(.agg [(.pv (.int .u64 n6)), (.pv (T_event_halves.pv t2))])], [], []), .res ([(.agg [(.pv (.int .u64 n6)), (.pv (T_event_halves.pv t2))])], [], []), .res ([(.agg [(.pv (.int .u64 n6)), (.pv (T_event_halves.pv t2))])], [], []), .res ([(.agg [(.pv (.int .u64 n6)), (.pv (T_event_halves.pv t2))])], [], []), .res ([(.agg [(.pv (.int .u64 n7)), (.pv (T_event_halves.pv t4))])], [], []), .res ([(.agg [(.pv (.int .u64 n7)), (.pv (T_event_halves.pv t4))])], [], []), .res ([(.agg [(.pv (.int .u64 n8)), (.pv (T_event_halves.pv t4))])], [], []), .res ([(.one (.pv (.bool b4)))], [], [])]) (([(.one (.pv (.bool b4)))], [], [])) [
    false = false,
    (decide ((b : Int) < a)) = false,
    false = false,
    Runs Try.prog 71 [(.agg [(.pv (.int .u64 n)), (.pv (T_event_halves.pv t))]), (.one (.pv (.int .u64 a)))] [] [] ([(.agg [(.pv (.int .u64 n3)), (.pv (T_event_halves.pv t))])], [], []),
    Runs Try.prog 71 [(.agg [(.pv (.int .u64 n)), (.pv (T_event_halves.pv t))]), (.one (.pv (.int .u64 a)))] [] [] ([(.agg [(.pv (.int .u64 n3)), (.pv (T_event_halves.pv t))])], [], []),
    Runs Try.prog 71 [(.agg [(.pv (.int .u64 n)), (.pv (T_event_halves.pv t))]), (.one (.pv (.int .u64 a)))] [] [] ([(.agg [(.pv (.int .u64 n3)), (.pv (T_event_halves.pv t))])], [], []),
    Runs Try.prog 71 [(.agg [(.pv (.int .u64 n)), (.pv (T_event_halves.pv t))]), (.one (.pv (.int .u64 a)))] [] [] ([(.agg [(.pv (.int .u64 n3)), (.pv (T_event_halves.pv t))])], [], []),
    Runs Try.prog 39 [(.agg [(.pv (.int .u64 b)), (.pv (T_event_halves.pv b2))])] [] [] ([(.agg [(.pv (.int .u64 n4)), (.pv (T_event_halves.pv t3))])], [], []),
    Runs Try.prog 39 [(.agg [(.pv (.int .u64 b)), (.pv (T_event_halves.pv b2))])] [] [] ([(.agg [(.pv (.int .u64 n4)), (.pv (T_event_halves.pv t3))])], [], []),
    Runs Try.prog 71 [(.agg [(.pv (.int .u64 n4)), (.pv (T_event_halves.pv t3))]), (.one (.pv (.int .u64 b)))] [] [] ([(.agg [(.pv (.int .u64 n5)), (.pv (T_event_halves.pv t3))])], [], []),
    Runs Try.prog 38 [(.agg [(.pv (.int .u64 n3)), (.pv (T_event_halves.pv t))]), (.agg [(.pv (.int .u64 n5)), (.pv (T_event_halves.pv t3))])] [] [] ([(.one (.pv (.bool b3)))], [], []),
    b3 = true,
    Runs Try.prog 71 [(.agg [(.pv (.int .u64 n2)), (.pv (T_event_halves.pv t2))]), (.one (.pv (.int .u64 a)))] [] [] ([(.agg [(.pv (.int .u64 n6)), (.pv (T_event_halves.pv t2))])], [], []),
    Runs Try.prog 71 [(.agg [(.pv (.int .u64 n2)), (.pv (T_event_halves.pv t2))]), (.one (.pv (.int .u64 a)))] [] [] ([(.agg [(.pv (.int .u64 n6)), (.pv (T_event_halves.pv t2))])], [], []),
    Runs Try.prog 71 [(.agg [(.pv (.int .u64 n2)), (.pv (T_event_halves.pv t2))]), (.one (.pv (.int .u64 a)))] [] [] ([(.agg [(.pv (.int .u64 n6)), (.pv (T_event_halves.pv t2))])], [], []),
    Runs Try.prog 71 [(.agg [(.pv (.int .u64 n2)), (.pv (T_event_halves.pv t2))]), (.one (.pv (.int .u64 a)))] [] [] ([(.agg [(.pv (.int .u64 n6)), (.pv (T_event_halves.pv t2))])], [], []),
    Runs Try.prog 40 [(.agg [(.pv (.int .u64 b)), (.pv (T_event_halves.pv b2))])] [] [] ([(.agg [(.pv (.int .u64 n7)), (.pv (T_event_halves.pv t4))])], [], []),
    Runs Try.prog 40 [(.agg [(.pv (.int .u64 b)), (.pv (T_event_halves.pv b2))])] [] [] ([(.agg [(.pv (.int .u64 n7)), (.pv (T_event_halves.pv t4))])], [], []),
    Runs Try.prog 71 [(.agg [(.pv (.int .u64 n7)), (.pv (T_event_halves.pv t4))]), (.one (.pv (.int .u64 b)))] [] [] ([(.agg [(.pv (.int .u64 n8)), (.pv (T_event_halves.pv t4))])], [], []),
    Runs Try.prog 38 [(.agg [(.pv (.int .u64 n6)), (.pv (T_event_halves.pv t2))]), (.agg [(.pv (.int .u64 n8)), (.pv (T_event_halves.pv t4))])] [] [] ([(.one (.pv (.bool b4)))], [], [])] := ⟨by kernel_rfl, by kernel_rfl⟩
theorem event_Leq_p5 (a : Int) (b : Int) (b2 : T_event_halves) (n : Int) (t : T_event_halves) (n2 : Int) (t2 : T_event_halves) (n3 : Int) (n4 : Int) (t3 : T_event_halves) (n5 : Int) (b3 : Bool) : both (evFn Try.prog cfg (Runs Try.prog) (LRuns Try.prog (lEnv Try.prog cfg 38 0).nt 0) 38 [(.agg [(.pv (.int .u64 a)), (.pv (T_event_halves.pv (T_event_halves.mk n t n2 t2)))]), (.agg [(.pv (.int .u64 b)), (.pv (T_event_halves.pv b2))])] [] []
    [.br false, .br false, .br false, .res ([(.agg [(.pv (.int .u64 n3)), (.pv (T_event_halves.pv t))])], [], []), .res ([(.agg [(.pv (.int .u64 n3)), (.pv (T_event_halves.pv t))])], [], []), .res ([(.agg [(.pv (.int .u64 n3)), (.pv (T_event_halves.pv t))])], [], []), .res ([(.agg [(.pv (.int .u64 n3)), (.pv (T_event_halves.pv t))])], [], []), .res ([(.agg [(.pv (.int .u64 n4)), (.pv (T_event_halves.pv t3))])], [], []), .res ([(.agg [(.pv (.int .u64 n4)), (.pv (T_event_halves.pv t3))])], [], []), .res ([(.agg [(.pv (.int .u64 n5)), (.pv (T_event_halves.pv t3))])], [], []), .res ([(.one (.pv (.bool b3)))], [], []), .br false]) (([(.one (.pv (.bool false)))], [], [])) [
    false = false,
    (decide ((b : Int) < a)) = false,
    false = false,
    Runs Try.prog 71 [(.agg [(.pv (.int .u64 n)), (.pv (T_event_halves.pv t))]), (.one (.pv (.int .u64 a)))] [] [] ([(.agg [(.pv (.int .u64 n3)), (.pv (T_event_halves.pv t))])], [], []),
    Runs Try.prog 71 [(.agg [(.pv (.int .u64 n)), (.pv (T_event_halves.pv t))]), (.one (.pv (.int .u64 a)))] [] [] ([(.agg [(.pv (.int .u64 n3)), (.pv (T_event_halves.pv t))])], [], []),
    Runs Try.prog 71 [(.agg [(.pv (.int .u64 n)), (.pv (T_event_halves.pv t))]), (.one (.pv (.int .u64 a)))] [] [] ([(.agg [(.pv (.int .u64 n3)), (.pv (T_event_halves.pv t))])], [], []),
    Runs Try.prog 71 [(.agg [(.pv (.int .u64 n)), (.pv (T_event_halves.pv t))]), (.one (.pv (.int .u64 a)))] [] [] ([(.agg [(.pv (.int .u64 n3)), (.pv (T_event_halves.pv t))])], [], []),
    Runs Try.prog 39 [(.agg [(.pv (.int .u64 b)), (.pv (T_event_halves.pv b2))])] [] [] ([(.agg [(.pv (.int .u64 n4)), (.pv (T_event_halves.pv t3))])], [], []),
    Runs Try.prog 39 [(.agg [(.pv (.int .u64 b)), (.pv (T_event_halves.pv b2))])] [] [] ([(.agg [(.pv (.int .u64 n4)), (.pv (T_event_halves.pv t3))])], [], []),
    Runs Try.prog 71 [(.agg [(.pv (.int .u64 n4)), (.pv (T_event_halves.pv t3))]), (.one (.pv (.int .u64 b)))] [] [] ([(.agg [(.pv (.int .u64 n5)), (.pv (T_event_halves.pv t3))])], [], []),
    Runs Try.prog 38 [(.agg [(.pv (.int .u64 n3)), (.pv (T_event_halves.pv t))]), (.agg [(.pv (.int .u64 n5)), (.pv (T_event_halves.pv t3))])] [] [] ([(.one (.pv (.bool b3)))], [], []),
    b3 = false] := ⟨by kernel_rfl, by kernel_rfl⟩
noncomputable def event_Leq_b (rec_event_Leq : Int → T_event_halves → Int → T_event_halves → Option (Bool)) (a : Int) (a2 : T_event_halves) (b : Int) (b2 : T_event_halves) : Option (Bool) :=
  match a2 with
  | .nil =>
    some (decide ((a : Int) ≤ b))
  | .mk n t n2 t2 =>
    bif (decide ((b : Int) < a)) then
      match b2 with
      | .nil =>
        some false
      | .mk n3 t3 n4 t4 =>
        (event_Event_up n t a).bind fun n5 =>
        (event_Event_Left b b2).bind fun (n6, t5) =>
        (event_Event_up n6 t5 b).bind fun n7 =>
        (rec_event_Leq n5 t n7 t5).bind fun b3 =>
        bif b3 then
          (event_Event_up n2 t2 a).bind fun n8 =>
          (event_Event_Right b b2).bind fun (n9, t6) =>
          (event_Event_up n9 t6 b).bind fun n10 =>
          (rec_event_Leq n8 t2 n10 t6).bind fun b4 =>
          some b4
        else
          some false
    else
      (event_Event_up n t a).bind fun n3 =>
      (event_Event_Left b b2).bind fun (n4, t3) =>
      (event_Event_up n4 t3 b).bind fun n5 =>
      (rec_event_Leq n3 t n5 t3).bind fun b3 =>
      bif b3 then
        (event_Event_up n2 t2 a).bind fun n6 =>
        (event_Event_Right b b2).bind fun (n7, t4) =>
        (event_Event_up n7 t4 b).bind fun n8 =>
        (rec_event_Leq n6 t2 n8 t4).bind fun b4 =>
        some b4
      else
        some false
theorem event_Leq_b_runs (rec_event_Leq : Int → T_event_halves → Int → T_event_halves → Option (Bool)) (hrec_event_Leq : ∀ a a2 b b2 r_, rec_event_Leq a a2 b b2 = some r_ → Runs Try.prog 38 [(.agg [(.pv (.int .u64 a)), (.pv (T_event_halves.pv a2))]), (.agg [(.pv (.int .u64 b)), (.pv (T_event_halves.pv b2))])] [] [] (event_Leq_out a a2 b b2 r_)) (a : Int) (a2 : T_event_halves) (b : Int) (b2 : T_event_halves) (r_ : Bool) (h : event_Leq_b rec_event_Leq a a2 b b2 = some r_) : Runs Try.prog 38 [(.agg [(.pv (.int .u64 a)), (.pv (T_event_halves.pv a2))]), (.agg [(.pv (.int .u64 b)), (.pv (T_event_halves.pv b2))])] [] [] (event_Leq_out a a2 b b2 r_) := by
  unfold event_Leq_b at h
  cases a2 with
  | nil =>
    have h := some_of h
    subst h
    have e_ := event_Leq_p0 a b b2
    have e_ := runs_of (objs := []) (Says.of e_ ⟨rfl, trivial⟩)
    exact e_
  | mk n t n2 t2 =>
    rcases cond_of h with ⟨h1, h⟩ | ⟨h1, h⟩
    · cases b2 with
      | nil =>
        have h := some_of h
        subst h
        have e_ := event_Leq_p1 a b n t n2 t2
        have e_ := runs_of (objs := []) (Says.of e_ ⟨rfl, h1, rfl, trivial⟩)
        exact e_
      | mk n3 t3 n4 t4 =>
        obtain ⟨n5, h2, h⟩ := bind_of h
        obtain ⟨⟨n6, t5⟩, h3, h⟩ := bind_of h
        obtain ⟨n7, h4, h⟩ := bind_of h
        obtain ⟨b3, h5, h⟩ := bind_of h
        rcases cond_of h with ⟨h6, h⟩ | ⟨h6, h⟩
        · obtain ⟨n8, h7, h⟩ := bind_of h
          obtain ⟨⟨n9, t6⟩, h8, h⟩ := bind_of h
          obtain ⟨n10, h9, h⟩ := bind_of h
          obtain ⟨b4, h10, h⟩ := bind_of h
          have h := some_of h
          subst h
          have e_ := event_Leq_p2 a b n t n2 t2 n3 t3 n4 t4 n5 n6 t5 n7 b3 n8 n9 t6 n10 b4
          have e_ := runs_of (objs := []) (Says.of2 e_ ⟨rfl, h1, rfl, (event_Event_up_runs n t a _ h2), (event_Event_up_runs n t a _ h2), (event_Event_up_runs n t a _ h2), (event_Event_up_runs n t a _ h2), (event_Event_Left_runs b (T_event_halves.mk n3 t3 n4 t4) _ h3), (event_Event_Left_runs b (T_event_halves.mk n3 t3 n4 t4) _ h3), (event_Event_up_runs n6 t5 b _ h4), (hrec_event_Leq n5 t n7 t5 _ h5), h6, (event_Event_up_runs n2 t2 a _ h7), (event_Event_up_runs n2 t2 a _ h7), (event_Event_up_runs n2 t2 a _ h7), (event_Event_up_runs n2 t2 a _ h7), (event_Event_Right_runs b (T_event_halves.mk n3 t3 n4 t4) _ h8), (event_Event_Right_runs b (T_event_halves.mk n3 t3 n4 t4) _ h8), (event_Event_up_runs n9 t6 b _ h9), (hrec_event_Leq n8 t2 n10 t6 _ h10), trivial⟩)
          exact e_
        · have h := some_of h
          subst h
          have e_ := event_Leq_p3 a b n t n2 t2 n3 t3 n4 t4 n5 n6 t5 n7 b3
          have e_ := runs_of (objs := []) (Says.of2 e_ ⟨rfl, h1, rfl, (event_Event_up_runs n t a _ h2), (event_Event_up_runs n t a _ h2), (event_Event_up_runs n t a _ h2), (event_Event_up_runs n t a _ h2), (event_Event_Left_runs b (T_event_halves.mk n3 t3 n4 t4) _ h3), (event_Event_Left_runs b (T_event_halves.mk n3 t3 n4 t4) _ h3), (event_Event_up_runs n6 t5 b _ h4), (hrec_event_Leq n5 t n7 t5 _ h5), h6, trivial⟩)
          exact e_
    · obtain ⟨n3, h2, h⟩ := bind_of h
      obtain ⟨⟨n4, t3⟩, h3, h⟩ := bind_of h
      obtain ⟨n5, h4, h⟩ := bind_of h
      obtain ⟨b3, h5, h⟩ := bind_of h
      rcases cond_of h with ⟨h6, h⟩ | ⟨h6, h⟩
      · obtain ⟨n6, h7, h⟩ := bind_of h
        obtain ⟨⟨n7, t4⟩, h8, h⟩ := bind_of h
        obtain ⟨n8, h9, h⟩ := bind_of h
        obtain ⟨b4, h10, h⟩ := bind_of h
        have h := some_of h
        subst h
        have e_ := event_Leq_p4 a b b2 n t n2 t2 n3 n4 t3 n5 b3 n6 n7 t4 n8 b4
        have e_ := runs_of (objs := []) (Says.of2 e_ ⟨rfl, h1, rfl, (event_Event_up_runs n t a _ h2), (event_Event_up_runs n t a _ h2), (event_Event_up_runs n t a _ h2), (event_Event_up_runs n t a _ h2), (event_Event_Left_runs b b2 _ h3), (event_Event_Left_runs b b2 _ h3), (event_Event_up_runs n4 t3 b _ h4), (hrec_event_Leq n3 t n5 t3 _ h5), h6, (event_Event_up_runs n2 t2 a _ h7), (event_Event_up_runs n2 t2 a _ h7), (event_Event_up_runs n2 t2 a _ h7), (event_Event_up_runs n2 t2 a _ h7), (event_Event_Right_runs b b2 _ h8), (event_Event_Right_runs b b2 _ h8), (event_Event_up_runs n7 t4 b _ h9), (hrec_event_Leq n6 t2 n8 t4 _ h10), trivial⟩)
        exact e_
      · have h := some_of h
        subst h
        have e_ := event_Leq_p5 a b b2 n t n2 t2 n3 n4 t3 n5 b3
        have e_ := runs_of (objs := []) (Says.of2 e_ ⟨rfl, h1, rfl, (event_Event_up_runs n t a _ h2), (event_Event_up_runs n t a _ h2), (event_Event_up_runs n t a _ h2), (event_Event_up_runs n t a _ h2), (event_Event_Left_runs b b2 _ h3), (event_Event_Left_runs b b2 _ h3), (event_Event_up_runs n4 t3 b _ h4), (hrec_event_Leq n3 t n5 t3 _ h5), h6, trivial⟩)
        exact e_
noncomputable def event_Leq : Nat → Int → T_event_halves → Int → T_event_halves → Option (Bool)
  | 0, _, _, _, _ => none
  | N + 1, a, a2, b, b2 => event_Leq_b (event_Leq N) a a2 b b2
theorem event_Leq_runs : ∀ (N : Nat) (a : Int) (a2 : T_event_halves) (b : Int) (b2 : T_event_halves) (r_ : Bool), event_Leq N a a2 b b2 = some r_ → Runs Try.prog 38 [(.agg [(.pv (.int .u64 a)), (.pv (T_event_halves.pv a2))]), (.agg [(.pv (.int .u64 b)), (.pv (T_event_halves.pv b2))])] [] [] (event_Leq_out a a2 b b2 r_)
  | 0, _, _, _, _, _, h => by cases h
  | N + 1, a, a2, b, b2, r_, h => event_Leq_b_runs (event_Leq N) (event_Leq_runs N) a a2 b b2 r_ h
/-! ### event_Same -/
theorem event_Same_p0 (a : Int) (a2 : T_event_halves) (b : Int) (b2 : T_event_halves) (b3 : Bool) (b4 : Bool) : evFn Try.prog cfg (Runs Try.prog) (LRuns Try.prog (lEnv Try.prog cfg 14 0).nt 0) 14 [(.agg [(.pv (.int .u64 a)), (.pv (T_event_halves.pv a2))]), (.agg [(.pv (.int .u64 b)), (.pv (T_event_halves.pv b2))])] [] []
    [.res ([(.one (.pv (.bool b3)))], [], []), .br true, .res ([(.one (.pv (.bool b4)))], [], [])] =
  some (([(.one (.pv (.bool b4)))], [], []), obs [
    Runs Try.prog 38 [(.agg [(.pv (.int .u64 a)), (.pv (T_event_halves.pv a2))]), (.agg [(.pv (.int .u64 b)), (.pv (T_event_halves.pv b2))])] [] [] ([(.one (.pv (.bool b3)))], [], []),
    b3 = true,
    Runs Try.prog 38 [(.agg [(.pv (.int .u64 b)), (.pv (T_event_halves.pv b2))]), (.agg [(.pv (.int .u64 a)), (.pv (T_event_halves.pv a2))])] [] [] ([(.one (.pv (.bool b4)))], [], [])]) := by kernel_rfl
theorem event_Same_p1 (a : Int) (a2 : T_event_halves) (b : Int) (b2 : T_event_halves) (b3 : Bool) : evFn Try.prog cfg (Runs Try.prog) (LRuns Try.prog (lEnv Try.prog cfg 14 0).nt 0) 14 [(.agg [(.pv (.int .u64 a)), (.pv (T_event_halves.pv a2))]), (.agg [(.pv (.int .u64 b)), (.pv (T_event_halves.pv b2))])] [] []
    [.res ([(.one (.pv (.bool b3)))], [], []), .br false] =
  some (([(.one (.pv (.bool false)))], [], []), obs [
    Runs Try.prog 38 [(.agg [(.pv (.int .u64 a)), (.pv (T_event_halves.pv a2))]), (.agg [(.pv (.int .u64 b)), (.pv (T_event_halves.pv b2))])] [] [] ([(.one (.pv (.bool b3)))], [], []),
    b3 = false]) := by kernel_rfl
noncomputable def event_Same (N : Nat) (a : Int) (a2 : T_event_halves) (b : Int) (b2 : T_event_halves) : Option (Bool) :=
  (event_Leq N a a2 b b2).bind fun b3 =>
  bif b3 then
    (event_Leq N b b2 a a2).bind fun b4 =>
    some b4
  else
    some false
theorem event_Same_runs (N : Nat) (a : Int) (a2 : T_event_halves) (b : Int) (b2 : T_event_halves) (r_ : Bool) (h : event_Same N a a2 b b2 = some r_) : Runs Try.prog 14 [(.agg [(.pv (.int .u64 a)), (.pv (T_event_halves.pv a2))]), (.agg [(.pv (.int .u64 b)), (.pv (T_event_halves.pv b2))])] [] [] (event_Same_out a a2 b b2 r_) := by
  unfold event_Same at h
  obtain ⟨b3, h1, h⟩ := bind_of h
  rcases cond_of h with ⟨h2, h⟩ | ⟨h2, h⟩
  · obtain ⟨b4, h3, h⟩ := bind_of h
    have h := some_of h
    subst h
    have e_ := event_Same_p0 a a2 b b2 b3 b4
    have e_ := runs_of (objs := []) (Says.of e_ ⟨(event_Leq_runs N a a2 b b2 _ h1), h2, (event_Leq_runs N b b2 a a2 _ h3), trivial⟩)
    exact e_
  · have h := some_of h
    subst h
    have e_ := event_Same_p1 a a2 b b2 b3
    have e_ := runs_of (objs := []) (Says.of e_ ⟨(event_Leq_runs N a a2 b b2 _ h1), h2, trivial⟩)
    exact e_
/-! ### stamp_Same -/
theorem stamp_Same_p0 (a : Bool) (a2 : T_id_halves) (a3 : Int) (a4 : T_event_halves) (b : Bool) (b2 : T_id_halves) (b3 : Int) (b4 : T_event_halves) (b5 : Bool) (b6 : Bool) : evFn Try.prog cfg (Runs Try.prog) (LRuns Try.prog (lEnv Try.prog cfg 10 0).nt 0) 10 [(.agg [(.pv (.bool a)), (.pv (T_id_halves.pv a2)), (.pv (.int .u64 a3)), (.pv (T_event_halves.pv a4))]), (.agg [(.pv (.bool b)), (.pv (T_id_halves.pv b2)), (.pv (.int .u64 b3)), (.pv (T_event_halves.pv b4))])] [] []
    [.res ([(.one (.pv (.bool b5)))], [], []), .br true, .res ([(.one (.pv (.bool b6)))], [], [])] =
  some (([(.one (.pv (.bool b6)))], [], []), obs [
    Runs Try.prog 12 [(.agg [(.pv (.bool a)), (.pv (T_id_halves.pv a2))]), (.agg [(.pv (.bool b)), (.pv (T_id_halves.pv b2))])] [] [] ([(.one (.pv (.bool b5)))], [], []),
    b5 = true,
    Runs Try.prog 14 [(.agg [(.pv (.int .u64 a3)), (.pv (T_event_halves.pv a4))]), (.agg [(.pv (.int .u64 b3)), (.pv (T_event_halves.pv b4))])] [] [] ([(.one (.pv (.bool b6)))], [], [])]) := by kernel_rfl
theorem stamp_Same_p1 (a : Bool) (a2 : T_id_halves) (a3 : Int) (a4 : T_event_halves) (b : Bool) (b2 : T_id_halves) (b3 : Int) (b4 : T_event_halves) (b5 : Bool) : evFn Try.prog cfg (Runs Try.prog) (LRuns Try.prog (lEnv Try.prog cfg 10 0).nt 0) 10 [(.agg [(.pv (.bool a)), (.pv (T_id_halves.pv a2)), (.pv (.int .u64 a3)), (.pv (T_event_halves.pv a4))]), (.agg [(.pv (.bool b)), (.pv (T_id_halves.pv b2)), (.pv (.int .u64 b3)), (.pv (T_event_halves.pv b4))])] [] []
    [.res ([(.one (.pv (.bool b5)))], [], []), .br false] =
  some (([(.one (.pv (.bool false)))], [], []), obs [
    Runs Try.prog 12 [(.agg [(.pv (.bool a)), (.pv (T_id_halves.pv a2))]), (.agg [(.pv (.bool b)), (.pv (T_id_halves.pv b2))])] [] [] ([(.one (.pv (.bool b5)))], [], []),
    b5 = false]) := by kernel_rfl
noncomputable def stamp_Same (N : Nat) (a : Bool) (a2 : T_id_halves) (a3 : Int) (a4 : T_event_halves) (b : Bool) (b2 : T_id_halves) (b3 : Int) (b4 : T_event_halves) : Option (Bool) :=
  (id_Same N a a2 b b2).bind fun b5 =>
  bif b5 then
    (event_Same N a3 a4 b3 b4).bind fun b6 =>
    some b6
  else
    some false
theorem stamp_Same_runs (N : Nat) (a : Bool) (a2 : T_id_halves) (a3 : Int) (a4 : T_event_halves) (b : Bool) (b2 : T_id_halves) (b3 : Int) (b4 : T_event_halves) (r_ : Bool) (h : stamp_Same N a a2 a3 a4 b b2 b3 b4 = some r_) : Runs Try.prog 10 [(.agg [(.pv (.bool a)), (.pv (T_id_halves.pv a2)), (.pv (.int .u64 a3)), (.pv (T_event_halves.pv a4))]), (.agg [(.pv (.bool b)), (.pv (T_id_halves.pv b2)), (.pv (.int .u64 b3)), (.pv (T_event_halves.pv b4))])] [] [] (stamp_Same_out a a2 a3 a4 b b2 b3 b4 r_) := by
  unfold stamp_Same at h
  obtain ⟨b5, h1, h⟩ := bind_of h
  rcases cond_of h with ⟨h2, h⟩ | ⟨h2, h⟩
  · obtain ⟨b6, h3, h⟩ := bind_of h
    have h := some_of h
    subst h
    have e_ := stamp_Same_p0 a a2 a3 a4 b b2 b3 b4 b5 b6
    have e_ := runs_of (objs := []) (Says.of e_ ⟨(id_Same_runs N a a2 b b2 _ h1), h2, (event_Same_runs N a3 a4 b3 b4 _ h3), trivial⟩)
    exact e_
  · have h := some_of h
    subst h
    have e_ := stamp_Same_p1 a a2 a3 a4 b b2 b3 b4 b5
    have e_ := runs_of (objs := []) (Says.of e_ ⟨(id_Same_runs N a a2 b b2 _ h1), h2, trivial⟩)
    exact e_
/-! ### code_ID_out -/
def code_ID_out (i : Bool) (i2 : T_id_halves) : List Int → Res
  | r1 => ([(.one (.pv (.ints .u8 r1 false)))], [], [])
/-! ### code_ID -/
theorem code_ID_p0 (i : Bool) (i2 : T_id_halves) (n : Int) (l_ : List Int) : evFn Try.prog cfg (Runs Try.prog) (LRuns Try.prog (lEnv Try.prog cfg 11 0).nt 0) 11 [(.agg [(.pv (.bool i)), (.pv (T_id_halves.pv i2))])] [] []
    [.res ([(.one (.ref 0 0))], [[(.pv .nils), (.pv (.int .i64 0))]], []), .res ([], [[(.own 0 0 (l_).length false), (.pv (.int .i64 n))]], [(.ints .u8 l_)]), .res ([(.one (.pv (.ints .u8 l_ false)))], [[(.pv (.ints .u8 l_ false)), (.pv (.int .i64 n))]], [])] =
  some (([(.one (.pv (.ints .u8 l_ false)))], [], []), obs [
    Runs Try.prog 15 [] [] [] ([(.one (.ref 0 0))], [[(.pv .nils), (.pv (.int .i64 0))]], []),
    Runs Try.prog 17 [(.one (.ref 0 0)), (.agg [(.pv (.bool i)), (.pv (T_id_halves.pv i2))])] [[(.pv .nils), (.pv (.int .i64 0))]] [] ([], [[(.own 0 0 (l_).length false), (.pv (.int .i64 n))]], [(.ints .u8 l_)]),
    Runs Try.prog 20 [(.one (.ref 0 0))] [[(.own 0 0 (l_).length false), (.pv (.int .i64 n))]] [(.ints .u8 l_)] ([(.one (.pv (.ints .u8 l_ false)))], [[(.pv (.ints .u8 l_ false)), (.pv (.int .i64 n))]], [])]) := by kernel_rfl
noncomputable def code_ID (N : Nat) (i : Bool) (i2 : T_id_halves) : Option (List Int) :=
  (bits_NewWriter).bind fun _ =>
  (code_PutID N i i2 0).bind fun (n, l_) =>
  (bits_Writer_Bytes n l_).bind fun _ =>
  some l_
theorem code_ID_runs (N : Nat) (i : Bool) (i2 : T_id_halves) (r_ : List Int) (h : code_ID N i i2 = some r_) : Runs Try.prog 11 [(.agg [(.pv (.bool i)), (.pv (T_id_halves.pv i2))])] [] [] (code_ID_out i i2 r_) := by
  unfold code_ID at h
  obtain ⟨_, h1, h⟩ := bind_of h
  obtain ⟨⟨n, l_⟩, h2, h⟩ := bind_of h
  obtain ⟨_, h3, h⟩ := bind_of h
  have h := some_of h
  subst h
  have e_ := code_ID_p0 i i2 n l_
  have e_ := runs_of (objs := []) (Says.of e_ ⟨(bits_NewWriter_runs _ h1), (code_PutID_runs N i i2 0 _ h2), (bits_Writer_Bytes_runs n l_ _ h3), trivial⟩)
  exact e_
/-! ### code_Event_out -/
def code_Event_out (e : Int) (e2 : T_event_halves) : List Int → Res
  | r1 => ([(.one (.pv (.ints .u8 r1 false)))], [], [])
/-! ### code_PutEvent_2_out -/
def code_PutEvent_2_out (e : Int) (e2 : T_event_halves) (n : Int) : Int × List Int → Res
  | (r1, r2) => ([], [[(.own 0 0 (r2).length false), (.pv (.int .i64 r1))]], [(.ints .u8 r2)])

end Go.Proofs.Ytjjakdmcnkldoaa
