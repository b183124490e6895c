/- What functions compute, and that they do. -/
import Derived.Test.YtjjakdmcnkldoaaA6
set_option linter.unusedVariables false
set_option linter.unusedSimpArgs false
namespace Go.Proofs.Ytjjakdmcnkldoaa
open Go.Ev

/-! ### kinfolklaw07_CodeOnce -/
theorem kinfolklaw07_CodeOnce_p0 (p : List Int) (q : List Int) (r : List Int) (s : List Int) (same : Bool) (b : Bool) (b2 : Bool) (t : T_id_halves) (n : Int) (t2 : T_event_halves) (t3 : T_kinfolkref01_ID) (t4 : T_kinfolkref02_Event) (b3 : Bool) (t5 : T_id_halves) (n2 : Int) (t6 : T_event_halves) (t7 : T_kinfolkref01_ID) (t8 : T_kinfolkref02_Event) (l_ : List Int) (b4 : Bool) (b5 : Bool) (l_2 : List Int) (b6 : Bool) (b7 : Bool) (l_3 : List Int) (b8 : Bool) (b9 : Bool) : both (evFn Try.prog cfg (Runs Try.prog) (LRuns Try.prog (lEnv Try.prog cfg 3 0).nt 0) 3 [(.one (.pv (.ints .u8 p false))), (.one (.pv (.ints .u8 q false))), (.one (.pv (.ints .u8 r false))), (.one (.pv (.ints .u8 s false))), (.one (.pv (.bool same)))] [] []
    [.res ([(.one (.pv (.bool b)))], [], []), .br false, .res ([(.agg [(.pv (.bool b2)), (.pv (T_id_halves.pv t)), (.pv (.int .u64 n)), (.pv (T_event_halves.pv t2))]), (.agg [(.pv (T_kinfolkref01_ID.pv t3)), (.pv (T_kinfolkref02_Event.pv t4))])], [], []), .res ([(.agg [(.pv (.bool b3)), (.pv (T_id_halves.pv t5)), (.pv (.int .u64 n2)), (.pv (T_event_halves.pv t6))]), (.agg [(.pv (T_kinfolkref01_ID.pv t7)), (.pv (T_kinfolkref02_Event.pv t8))])], [], []), .br true, .res ([(.one (.pv (.ints .u8 l_ false)))], [], []), .res ([(.one (.pv (.ints .u8 l_ false)))], [], []), .res ([(.one (.pv (.ints .u8 l_ false)))], [], []), .res ([(.one (.pv (.ints .u8 l_ false)))], [], []), .res ([(.one (.pv (.ints .u8 l_ false)))], [], []), .res ([(.one (.pv (.ints .u8 l_ false)))], [], []), .res ([(.one (.pv (.ints .u8 l_ false)))], [], []), .res ([(.one (.pv (.ints .u8 l_ false)))], [], []), .res ([(.one (.pv (.bool b4)))], [], []), .res ([(.one (.pv (.ints .u8 l_ false)))], [], []), .res ([(.one (.pv (.ints .u8 l_ false)))], [], []), .res ([(.one (.pv (.ints .u8 l_ false)))], [], []), .res ([(.one (.pv (.ints .u8 l_ false)))], [], []), .res ([(.one (.pv (.bool b4)))], [], []), .res ([(.one (.pv (.bool b4)))], [], []), .res ([(.one (.pv (.bool b4)))], [], []), .res ([(.one (.pv (.bool b5)))], [], []), .br true, .res ([(.one (.pv (.ints .u8 l_2 false)))], [], []), .res ([(.one (.pv (.ints .u8 l_2 false)))], [], []), .res ([(.one (.pv (.ints .u8 l_2 false)))], [], []), .res ([(.one (.pv (.ints .u8 l_2 false)))], [], []), .res ([(.one (.pv (.ints .u8 l_2 false)))], [], []), .res ([(.one (.pv (.ints .u8 l_2 false)))], [], []), .res ([(.one (.pv (.ints .u8 l_2 false)))], [], []), .res ([(.one (.pv (.ints .u8 l_2 false)))], [], []), .res ([(.one (.pv (.bool b6)))], [], []), .res ([(.one (.pv (.ints .u8 l_2 false)))], [], []), .res ([(.one (.pv (.ints .u8 l_2 false)))], [], []), .res ([(.one (.pv (.ints .u8 l_2 false)))], [], []), .res ([(.one (.pv (.ints .u8 l_2 false)))], [], []), .res ([(.one (.pv (.bool b6)))], [], []), .res ([(.one (.pv (.bool b6)))], [], []), .res ([(.one (.pv (.bool b6)))], [], []), .res ([(.one (.pv (.bool b7)))], [], []), .br true, .res ([(.one (.pv (.ints .u8 l_3 false)))], [], []), .res ([(.one (.pv (.ints .u8 l_3 false)))], [], []), .res ([(.one (.pv (.ints .u8 l_3 false)))], [], []), .res ([(.one (.pv (.ints .u8 l_3 false)))], [], []), .res ([(.one (.pv (.ints .u8 l_3 false)))], [], []), .res ([(.one (.pv (.ints .u8 l_3 false)))], [], []), .res ([(.one (.pv (.ints .u8 l_3 false)))], [], []), .res ([(.one (.pv (.ints .u8 l_3 false)))], [], []), .res ([(.one (.pv (.bool b8)))], [], []), .res ([(.one (.pv (.ints .u8 l_3 false)))], [], []), .res ([(.one (.pv (.ints .u8 l_3 false)))], [], []), .res ([(.one (.pv (.ints .u8 l_3 false)))], [], []), .res ([(.one (.pv (.ints .u8 l_3 false)))], [], []), .res ([(.one (.pv (.bool b8)))], [], []), .res ([(.one (.pv (.bool b8)))], [], []), .res ([(.one (.pv (.bool b8)))], [], []), .res ([(.one (.pv (.bool b9)))], [], [])]) (([(.one (.pv (.bool (b8 == b9))))], [], [])) [
    Runs Try.prog 6 [] [] [] ([(.one (.pv (.bool b)))], [], []),
    (!b) = false,
    Runs Try.prog 7 [(.one (.pv (.ints .u8 p false))), (.one (.pv (.ints .u8 q false)))] [] [] ([(.agg [(.pv (.bool b2)), (.pv (T_id_halves.pv t)), (.pv (.int .u64 n)), (.pv (T_event_halves.pv t2))]), (.agg [(.pv (T_kinfolkref01_ID.pv t3)), (.pv (T_kinfolkref02_Event.pv t4))])], [], []),
    Runs Try.prog 7 [(.one (.pv (.ints .u8 r false))), (.one (.pv (.ints .u8 s false)))] [] [] ([(.agg [(.pv (.bool b3)), (.pv (T_id_halves.pv t5)), (.pv (.int .u64 n2)), (.pv (T_event_halves.pv t6))]), (.agg [(.pv (T_kinfolkref01_ID.pv t7)), (.pv (T_kinfolkref02_Event.pv t8))])], [], []),
    same = true,
    Runs Try.prog 9 [(.agg [(.pv (.bool b2)), (.pv (T_id_halves.pv t)), (.pv (.int .u64 n)), (.pv (T_event_halves.pv t2))])] [] [] ([(.one (.pv (.ints .u8 l_ false)))], [], []),
    Runs Try.prog 9 [(.agg [(.pv (.bool b2)), (.pv (T_id_halves.pv t)), (.pv (.int .u64 n)), (.pv (T_event_halves.pv t2))])] [] [] ([(.one (.pv (.ints .u8 l_ false)))], [], []),
    Runs Try.prog 9 [(.agg [(.pv (.bool b2)), (.pv (T_id_halves.pv t)), (.pv (.int .u64 n)), (.pv (T_event_halves.pv t2))])] [] [] ([(.one (.pv (.ints .u8 l_ false)))], [], []),
    Runs Try.prog 9 [(.agg [(.pv (.bool b2)), (.pv (T_id_halves.pv t)), (.pv (.int .u64 n)), (.pv (T_event_halves.pv t2))])] [] [] ([(.one (.pv (.ints .u8 l_ false)))], [], []),
    Runs Try.prog 9 [(.agg [(.pv (.bool b2)), (.pv (T_id_halves.pv t)), (.pv (.int .u64 n)), (.pv (T_event_halves.pv t2))])] [] [] ([(.one (.pv (.ints .u8 l_ false)))], [], []),
    Runs Try.prog 9 [(.agg [(.pv (.bool b2)), (.pv (T_id_halves.pv t)), (.pv (.int .u64 n)), (.pv (T_event_halves.pv t2))])] [] [] ([(.one (.pv (.ints .u8 l_ false)))], [], []),
    Runs Try.prog 9 [(.agg [(.pv (.bool b2)), (.pv (T_id_halves.pv t)), (.pv (.int .u64 n)), (.pv (T_event_halves.pv t2))])] [] [] ([(.one (.pv (.ints .u8 l_ false)))], [], []),
    Runs Try.prog 9 [(.agg [(.pv (.bool b2)), (.pv (T_id_halves.pv t)), (.pv (.int .u64 n)), (.pv (T_event_halves.pv t2))])] [] [] ([(.one (.pv (.ints .u8 l_ false)))], [], []),
    Runs Try.prog 8 [(.one (.pv (.ints .u8 l_ false))), (.one (.pv (.ints .u8 l_ false)))] [] [] ([(.one (.pv (.bool b4)))], [], []),
    Runs Try.prog 9 [(.agg [(.pv (.bool b2)), (.pv (T_id_halves.pv t)), (.pv (.int .u64 n)), (.pv (T_event_halves.pv t2))])] [] [] ([(.one (.pv (.ints .u8 l_ false)))], [], []),
    Runs Try.prog 9 [(.agg [(.pv (.bool b2)), (.pv (T_id_halves.pv t)), (.pv (.int .u64 n)), (.pv (T_event_halves.pv t2))])] [] [] ([(.one (.pv (.ints .u8 l_ false)))], [], []),
    Runs Try.prog 9 [(.agg [(.pv (.bool b2)), (.pv (T_id_halves.pv t)), (.pv (.int .u64 n)), (.pv (T_event_halves.pv t2))])] [] [] ([(.one (.pv (.ints .u8 l_ false)))], [], []),
    Runs Try.prog 9 [(.agg [(.pv (.bool b2)), (.pv (T_id_halves.pv t)), (.pv (.int .u64 n)), (.pv (T_event_halves.pv t2))])] [] [] ([(.one (.pv (.ints .u8 l_ false)))], [], []),
    Runs Try.prog 8 [(.one (.pv (.ints .u8 l_ false))), (.one (.pv (.ints .u8 l_ false)))] [] [] ([(.one (.pv (.bool b4)))], [], []),
    Runs Try.prog 8 [(.one (.pv (.ints .u8 l_ false))), (.one (.pv (.ints .u8 l_ false)))] [] [] ([(.one (.pv (.bool b4)))], [], []),
    Runs Try.prog 8 [(.one (.pv (.ints .u8 l_ false))), (.one (.pv (.ints .u8 l_ false)))] [] [] ([(.one (.pv (.bool b4)))], [], []),
    Runs Try.prog 10 [(.agg [(.pv (.bool b2)), (.pv (T_id_halves.pv t)), (.pv (.int .u64 n)), (.pv (T_event_halves.pv t2))]), (.agg [(.pv (.bool b2)), (.pv (T_id_halves.pv t)), (.pv (.int .u64 n)), (.pv (T_event_halves.pv t2))])] [] [] ([(.one (.pv (.bool b5)))], [], []),
    (b4 == b5) = true,
    Runs Try.prog 11 [(.agg [(.pv (.bool b2)), (.pv (T_id_halves.pv t))])] [] [] ([(.one (.pv (.ints .u8 l_2 false)))], [], []),
    Runs Try.prog 11 [(.agg [(.pv (.bool b2)), (.pv (T_id_halves.pv t))])] [] [] ([(.one (.pv (.ints .u8 l_2 false)))], [], []),
    Runs Try.prog 11 [(.agg [(.pv (.bool b2)), (.pv (T_id_halves.pv t))])] [] [] ([(.one (.pv (.ints .u8 l_2 false)))], [], []),
    Runs Try.prog 11 [(.agg [(.pv (.bool b2)), (.pv (T_id_halves.pv t))])] [] [] ([(.one (.pv (.ints .u8 l_2 false)))], [], []),
    Runs Try.prog 11 [(.agg [(.pv (.bool b2)), (.pv (T_id_halves.pv t))])] [] [] ([(.one (.pv (.ints .u8 l_2 false)))], [], []),
    Runs Try.prog 11 [(.agg [(.pv (.bool b2)), (.pv (T_id_halves.pv t))])] [] [] ([(.one (.pv (.ints .u8 l_2 false)))], [], []),
    Runs Try.prog 11 [(.agg [(.pv (.bool b2)), (.pv (T_id_halves.pv t))])] [] [] ([(.one (.pv (.ints .u8 l_2 false)))], [], []),
    Runs Try.prog 11 [(.agg [(.pv (.bool b2)), (.pv (T_id_halves.pv t))])] [] [] ([(.one (.pv (.ints .u8 l_2 false)))], [], []),
    Runs Try.prog 8 [(.one (.pv (.ints .u8 l_2 false))), (.one (.pv (.ints .u8 l_2 false)))] [] [] ([(.one (.pv (.bool b6)))], [], []),
    Runs Try.prog 11 [(.agg [(.pv (.bool b2)), (.pv (T_id_halves.pv t))])] [] [] ([(.one (.pv (.ints .u8 l_2 false)))], [], []),
    Runs Try.prog 11 [(.agg [(.pv (.bool b2)), (.pv (T_id_halves.pv t))])] [] [] ([(.one (.pv (.ints .u8 l_2 false)))], [], []),
    Runs Try.prog 11 [(.agg [(.pv (.bool b2)), (.pv (T_id_halves.pv t))])] [] [] ([(.one (.pv (.ints .u8 l_2 false)))], [], []),
    Runs Try.prog 11 [(.agg [(.pv (.bool b2)), (.pv (T_id_halves.pv t))])] [] [] ([(.one (.pv (.ints .u8 l_2 false)))], [], []),
    Runs Try.prog 8 [(.one (.pv (.ints .u8 l_2 false))), (.one (.pv (.ints .u8 l_2 false)))] [] [] ([(.one (.pv (.bool b6)))], [], []),
    Runs Try.prog 8 [(.one (.pv (.ints .u8 l_2 false))), (.one (.pv (.ints .u8 l_2 false)))] [] [] ([(.one (.pv (.bool b6)))], [], []),
    Runs Try.prog 8 [(.one (.pv (.ints .u8 l_2 false))), (.one (.pv (.ints .u8 l_2 false)))] [] [] ([(.one (.pv (.bool b6)))], [], []),
    Runs Try.prog 12 [(.agg [(.pv (.bool b2)), (.pv (T_id_halves.pv t))]), (.agg [(.pv (.bool b2)), (.pv (T_id_halves.pv t))])] [] [] ([(.one (.pv (.bool b7)))], [], []),
    (b6 == b7) = true,
    Runs Try.prog 13 [(.agg [(.pv (.int .u64 n)), (.pv (T_event_halves.pv t2))])] [] [] ([(.one (.pv (.ints .u8 l_3 false)))], [], []),
    Runs Try.prog 13 [(.agg [(.pv (.int .u64 n)), (.pv (T_event_halves.pv t2))])] [] [] ([(.one (.pv (.ints .u8 l_3 false)))], [], []),
    Runs Try.prog 13 [(.agg [(.pv (.int .u64 n)), (.pv (T_event_halves.pv t2))])] [] [] ([(.one (.pv (.ints .u8 l_3 false)))], [], []),
    Runs Try.prog 13 [(.agg [(.pv (.int .u64 n)), (.pv (T_event_halves.pv t2))])] [] [] ([(.one (.pv (.ints .u8 l_3 false)))], [], []),
    Runs Try.prog 13 [(.agg [(.pv (.int .u64 n)), (.pv (T_event_halves.pv t2))])] [] [] ([(.one (.pv (.ints .u8 l_3 false)))], [], []),
    Runs Try.prog 13 [(.agg [(.pv (.int .u64 n)), (.pv (T_event_halves.pv t2))])] [] [] ([(.one (.pv (.ints .u8 l_3 false)))], [], []),
    Runs Try.prog 13 [(.agg [(.pv (.int .u64 n)), (.pv (T_event_halves.pv t2))])] [] [] ([(.one (.pv (.ints .u8 l_3 false)))], [], []),
    Runs Try.prog 13 [(.agg [(.pv (.int .u64 n)), (.pv (T_event_halves.pv t2))])] [] [] ([(.one (.pv (.ints .u8 l_3 false)))], [], []),
    Runs Try.prog 8 [(.one (.pv (.ints .u8 l_3 false))), (.one (.pv (.ints .u8 l_3 false)))] [] [] ([(.one (.pv (.bool b8)))], [], []),
    Runs Try.prog 13 [(.agg [(.pv (.int .u64 n)), (.pv (T_event_halves.pv t2))])] [] [] ([(.one (.pv (.ints .u8 l_3 false)))], [], []),
    Runs Try.prog 13 [(.agg [(.pv (.int .u64 n)), (.pv (T_event_halves.pv t2))])] [] [] ([(.one (.pv (.ints .u8 l_3 false)))], [], []),
    Runs Try.prog 13 [(.agg [(.pv (.int .u64 n)), (.pv (T_event_halves.pv t2))])] [] [] ([(.one (.pv (.ints .u8 l_3 false)))], [], []),
    Runs Try.prog 13 [(.agg [(.pv (.int .u64 n)), (.pv (T_event_halves.pv t2))])] [] [] ([(.one (.pv (.ints .u8 l_3 false)))], [], []),
    Runs Try.prog 8 [(.one (.pv (.ints .u8 l_3 false))), (.one (.pv (.ints .u8 l_3 false)))] [] [] ([(.one (.pv (.bool b8)))], [], []),
    Runs Try.prog 8 [(.one (.pv (.ints .u8 l_3 false))), (.one (.pv (.ints .u8 l_3 false)))] [] [] ([(.one (.pv (.bool b8)))], [], []),
    Runs Try.prog 8 [(.one (.pv (.ints .u8 l_3 false))), (.one (.pv (.ints .u8 l_3 false)))] [] [] ([(.one (.pv (.bool b8)))], [], []),
    Runs Try.prog 14 [(.agg [(.pv (.int .u64 n)), (.pv (T_event_halves.pv t2))]), (.agg [(.pv (.int .u64 n)), (.pv (T_event_halves.pv t2))])] [] [] ([(.one (.pv (.bool b9)))], [], [])] := ⟨by kernel_rfl, by kernel_rfl⟩
theorem kinfolklaw07_CodeOnce_p1 (p : List Int) (q : List Int) (r : List Int) (s : List Int) (same : Bool) (b : Bool) (b2 : Bool) (t : T_id_halves) (n : Int) (t2 : T_event_halves) (t3 : T_kinfolkref01_ID) (t4 : T_kinfolkref02_Event) (b3 : Bool) (t5 : T_id_halves) (n2 : Int) (t6 : T_event_halves) (t7 : T_kinfolkref01_ID) (t8 : T_kinfolkref02_Event) (l_ : List Int) (b4 : Bool) (b5 : Bool) (l_2 : List Int) (b6 : Bool) (b7 : Bool) : both (evFn Try.prog cfg (Runs Try.prog) (LRuns Try.prog (lEnv Try.prog cfg 3 0).nt 0) 3 [(.one (.pv (.ints .u8 p false))), (.one (.pv (.ints .u8 q false))), (.one (.pv (.ints .u8 r false))), (.one (.pv (.ints .u8 s false))), (.one (.pv (.bool same)))] [] []
    [.res ([(.one (.pv (.bool b)))], [], []), .br false, .res ([(.agg [(.pv (.bool b2)), (.pv (T_id_halves.pv t)), (.pv (.int .u64 n)), (.pv (T_event_halves.pv t2))]), (.agg [(.pv (T_kinfolkref01_ID.pv t3)), (.pv (T_kinfolkref02_Event.pv t4))])], [], []), .res ([(.agg [(.pv (.bool b3)), (.pv (T_id_halves.pv t5)), (.pv (.int .u64 n2)), (.pv (T_event_halves.pv t6))]), (.agg [(.pv (T_kinfolkref01_ID.pv t7)), (.pv (T_kinfolkref02_Event.pv t8))])], [], []), .br true, .res ([(.one (.pv (.ints .u8 l_ false)))], [], []), .res ([(.one (.pv (.ints .u8 l_ false)))], [], []), .res ([(.one (.pv (.ints .u8 l_ false)))], [], []), .res ([(.one (.pv (.ints .u8 l_ false)))], [], []), .res ([(.one (.pv (.ints .u8 l_ false)))], [], []), .res ([(.one (.pv (.ints .u8 l_ false)))], [], []), .res ([(.one (.pv (.ints .u8 l_ false)))], [], []), .res ([(.one (.pv (.ints .u8 l_ false)))], [], []), .res ([(.one (.pv (.bool b4)))], [], []), .res ([(.one (.pv (.ints .u8 l_ false)))], [], []), .res ([(.one (.pv (.ints .u8 l_ false)))], [], []), .res ([(.one (.pv (.ints .u8 l_ false)))], [], []), .res ([(.one (.pv (.ints .u8 l_ false)))], [], []), .res ([(.one (.pv (.bool b4)))], [], []), .res ([(.one (.pv (.bool b4)))], [], []), .res ([(.one (.pv (.bool b4)))], [], []), .res ([(.one (.pv (.bool b5)))], [], []), .br true, .res ([(.one (.pv (.ints .u8 l_2 false)))], [], []), .res ([(.one (.pv (.ints .u8 l_2 false)))], [], []), .res ([(.one (.pv (.ints .u8 l_2 false)))], [], []), .res ([(.one (.pv (.ints .u8 l_2 false)))], [], []), .res ([(.one (.pv (.ints .u8 l_2 false)))], [], []), .res ([(.one (.pv (.ints .u8 l_2 false)))], [], []), .res ([(.one (.pv (.ints .u8 l_2 false)))], [], []), .res ([(.one (.pv (.ints .u8 l_2 false)))], [], []), .res ([(.one (.pv (.bool b6)))], [], []), .res ([(.one (.pv (.ints .u8 l_2 false)))], [], []), .res ([(.one (.pv (.ints .u8 l_2 false)))], [], []), .res ([(.one (.pv (.ints .u8 l_2 false)))], [], []), .res ([(.one (.pv (.ints .u8 l_2 false)))], [], []), .res ([(.one (.pv (.bool b6)))], [], []), .res ([(.one (.pv (.bool b6)))], [], []), .res ([(.one (.pv (.bool b6)))], [], []), .res ([(.one (.pv (.bool b7)))], [], []), .br false]) (([(.one (.pv (.bool false)))], [], [])) [
    Runs Try.prog 6 [] [] [] ([(.one (.pv (.bool b)))], [], []),
    (!b) = false,
    Runs Try.prog 7 [(.one (.pv (.ints .u8 p false))), (.one (.pv (.ints .u8 q false)))] [] [] ([(.agg [(.pv (.bool b2)), (.pv (T_id_halves.pv t)), (.pv (.int .u64 n)), (.pv (T_event_halves.pv t2))]), (.agg [(.pv (T_kinfolkref01_ID.pv t3)), (.pv (T_kinfolkref02_Event.pv t4))])], [], []),
    Runs Try.prog 7 [(.one (.pv (.ints .u8 r false))), (.one (.pv (.ints .u8 s false)))] [] [] ([(.agg [(.pv (.bool b3)), (.pv (T_id_halves.pv t5)), (.pv (.int .u64 n2)), (.pv (T_event_halves.pv t6))]), (.agg [(.pv (T_kinfolkref01_ID.pv t7)), (.pv (T_kinfolkref02_Event.pv t8))])], [], []),
    same = true,
    Runs Try.prog 9 [(.agg [(.pv (.bool b2)), (.pv (T_id_halves.pv t)), (.pv (.int .u64 n)), (.pv (T_event_halves.pv t2))])] [] [] ([(.one (.pv (.ints .u8 l_ false)))], [], []),
    Runs Try.prog 9 [(.agg [(.pv (.bool b2)), (.pv (T_id_halves.pv t)), (.pv (.int .u64 n)), (.pv (T_event_halves.pv t2))])] [] [] ([(.one (.pv (.ints .u8 l_ false)))], [], []),
    Runs Try.prog 9 [(.agg [(.pv (.bool b2)), (.pv (T_id_halves.pv t)), (.pv (.int .u64 n)), (.pv (T_event_halves.pv t2))])] [] [] ([(.one (.pv (.ints .u8 l_ false)))], [], []),
    Runs Try.prog 9 [(.agg [(.pv (.bool b2)), (.pv (T_id_halves.pv t)), (.pv (.int .u64 n)), (.pv (T_event_halves.pv t2))])] [] [] ([(.one (.pv (.ints .u8 l_ false)))], [], []),
    Runs Try.prog 9 [(.agg [(.pv (.bool b2)), (.pv (T_id_halves.pv t)), (.pv (.int .u64 n)), (.pv (T_event_halves.pv t2))])] [] [] ([(.one (.pv (.ints .u8 l_ false)))], [], []),
    Runs Try.prog 9 [(.agg [(.pv (.bool b2)), (.pv (T_id_halves.pv t)), (.pv (.int .u64 n)), (.pv (T_event_halves.pv t2))])] [] [] ([(.one (.pv (.ints .u8 l_ false)))], [], []),
    Runs Try.prog 9 [(.agg [(.pv (.bool b2)), (.pv (T_id_halves.pv t)), (.pv (.int .u64 n)), (.pv (T_event_halves.pv t2))])] [] [] ([(.one (.pv (.ints .u8 l_ false)))], [], []),
    Runs Try.prog 9 [(.agg [(.pv (.bool b2)), (.pv (T_id_halves.pv t)), (.pv (.int .u64 n)), (.pv (T_event_halves.pv t2))])] [] [] ([(.one (.pv (.ints .u8 l_ false)))], [], []),
    Runs Try.prog 8 [(.one (.pv (.ints .u8 l_ false))), (.one (.pv (.ints .u8 l_ false)))] [] [] ([(.one (.pv (.bool b4)))], [], []),
    Runs Try.prog 9 [(.agg [(.pv (.bool b2)), (.pv (T_id_halves.pv t)), (.pv (.int .u64 n)), (.pv (T_event_halves.pv t2))])] [] [] ([(.one (.pv (.ints .u8 l_ false)))], [], []),
    Runs Try.prog 9 [(.agg [(.pv (.bool b2)), (.pv (T_id_halves.pv t)), (.pv (.int .u64 n)), (.pv (T_event_halves.pv t2))])] [] [] ([(.one (.pv (.ints .u8 l_ false)))], [], []),
    Runs Try.prog 9 [(.agg [(.pv (.bool b2)), (.pv (T_id_halves.pv t)), (.pv (.int .u64 n)), (.pv (T_event_halves.pv t2))])] [] [] ([(.one (.pv (.ints .u8 l_ false)))], [], []),
    Runs Try.prog 9 [(.agg [(.pv (.bool b2)), (.pv (T_id_halves.pv t)), (.pv (.int .u64 n)), (.pv (T_event_halves.pv t2))])] [] [] ([(.one (.pv (.ints .u8 l_ false)))], [], []),
    Runs Try.prog 8 [(.one (.pv (.ints .u8 l_ false))), (.one (.pv (.ints .u8 l_ false)))] [] [] ([(.one (.pv (.bool b4)))], [], []),
    Runs Try.prog 8 [(.one (.pv (.ints .u8 l_ false))), (.one (.pv (.ints .u8 l_ false)))] [] [] ([(.one (.pv (.bool b4)))], [], []),
    Runs Try.prog 8 [(.one (.pv (.ints .u8 l_ false))), (.one (.pv (.ints .u8 l_ false)))] [] [] ([(.one (.pv (.bool b4)))], [], []),
    Runs Try.prog 10 [(.agg [(.pv (.bool b2)), (.pv (T_id_halves.pv t)), (.pv (.int .u64 n)), (.pv (T_event_halves.pv t2))]), (.agg [(.pv (.bool b2)), (.pv (T_id_halves.pv t)), (.pv (.int .u64 n)), (.pv (T_event_halves.pv t2))])] [] [] ([(.one (.pv (.bool b5)))], [], []),
    (b4 == b5) = true,
    Runs Try.prog 11 [(.agg [(.pv (.bool b2)), (.pv (T_id_halves.pv t))])] [] [] ([(.one (.pv (.ints .u8 l_2 false)))], [], []),
    Runs Try.prog 11 [(.agg [(.pv (.bool b2)), (.pv (T_id_halves.pv t))])] [] [] ([(.one (.pv (.ints .u8 l_2 false)))], [], []),
    Runs Try.prog 11 [(.agg [(.pv (.bool b2)), (.pv (T_id_halves.pv t))])] [] [] ([(.one (.pv (.ints .u8 l_2 false)))], [], []),
    Runs Try.prog 11 [(.agg [(.pv (.bool b2)), (.pv (T_id_halves.pv t))])] [] [] ([(.one (.pv (.ints .u8 l_2 false)))], [], []),
    Runs Try.prog 11 [(.agg [(.pv (.bool b2)), (.pv (T_id_halves.pv t))])] [] [] ([(.one (.pv (.ints .u8 l_2 false)))], [], []),
    Runs Try.prog 11 [(.agg [(.pv (.bool b2)), (.pv (T_id_halves.pv t))])] [] [] ([(.one (.pv (.ints .u8 l_2 false)))], [], []),
    Runs Try.prog 11 [(.agg [(.pv (.bool b2)), (.pv (T_id_halves.pv t))])] [] [] ([(.one (.pv (.ints .u8 l_2 false)))], [], []),
    Runs Try.prog 11 [(.agg [(.pv (.bool b2)), (.pv (T_id_halves.pv t))])] [] [] ([(.one (.pv (.ints .u8 l_2 false)))], [], []),
    Runs Try.prog 8 [(.one (.pv (.ints .u8 l_2 false))), (.one (.pv (.ints .u8 l_2 false)))] [] [] ([(.one (.pv (.bool b6)))], [], []),
    Runs Try.prog 11 [(.agg [(.pv (.bool b2)), (.pv (T_id_halves.pv t))])] [] [] ([(.one (.pv (.ints .u8 l_2 false)))], [], []),
    Runs Try.prog 11 [(.agg [(.pv (.bool b2)), (.pv (T_id_halves.pv t))])] [] [] ([(.one (.pv (.ints .u8 l_2 false)))], [], []),
    Runs Try.prog 11 [(.agg [(.pv (.bool b2)), (.pv (T_id_halves.pv t))])] [] [] ([(.one (.pv (.ints .u8 l_2 false)))], [], []),
    Runs Try.prog 11 [(.agg [(.pv (.bool b2)), (.pv (T_id_halves.pv t))])] [] [] ([(.one (.pv (.ints .u8 l_2 false)))], [], []),
    Runs Try.prog 8 [(.one (.pv (.ints .u8 l_2 false))), (.one (.pv (.ints .u8 l_2 false)))] [] [] ([(.one (.pv (.bool b6)))], [], []),
    Runs Try.prog 8 [(.one (.pv (.ints .u8 l_2 false))), (.one (.pv (.ints .u8 l_2 false)))] [] [] ([(.one (.pv (.bool b6)))], [], []),
    Runs Try.prog 8 [(.one (.pv (.ints .u8 l_2 false))), (.one (.pv (.ints .u8 l_2 false)))] [] [] ([(.one (.pv (.bool b6)))], [], []),
    Runs Try.prog 12 [(.agg [(.pv (.bool b2)), (.pv (T_id_halves.pv t))]), (.agg [(.pv (.bool b2)), (.pv (T_id_halves.pv t))])] [] [] ([(.one (.pv (.bool b7)))], [], []),
    (b6 == b7) = false] := ⟨by kernel_rfl, by kernel_rfl⟩
theorem kinfolklaw07_CodeOnce_p2 (p : List Int) (q : List Int) (r : List Int) (s : List Int) (same : Bool) (b : Bool) (b2 : Bool) (t : T_id_halves) (n : Int) (t2 : T_event_halves) (t3 : T_kinfolkref01_ID) (t4 : T_kinfolkref02_Event) (b3 : Bool) (t5 : T_id_halves) (n2 : Int) (t6 : T_event_halves) (t7 : T_kinfolkref01_ID) (t8 : T_kinfolkref02_Event) (l_ : List Int) (b4 : Bool) (b5 : Bool) : both (evFn Try.prog cfg (Runs Try.prog) (LRuns Try.prog (lEnv Try.prog cfg 3 0).nt 0) 3 [(.one (.pv (.ints .u8 p false))), (.one (.pv (.ints .u8 q false))), (.one (.pv (.ints .u8 r false))), (.one (.pv (.ints .u8 s false))), (.one (.pv (.bool same)))] [] []
    [.res ([(.one (.pv (.bool b)))], [], []), .br false, .res ([(.agg [(.pv (.bool b2)), (.pv (T_id_halves.pv t)), (.pv (.int .u64 n)), (.pv (T_event_halves.pv t2))]), (.agg [(.pv (T_kinfolkref01_ID.pv t3)), (.pv (T_kinfolkref02_Event.pv t4))])], [], []), .res ([(.agg [(.pv (.bool b3)), (.pv (T_id_halves.pv t5)), (.pv (.int .u64 n2)), (.pv (T_event_halves.pv t6))]), (.agg [(.pv (T_kinfolkref01_ID.pv t7)), (.pv (T_kinfolkref02_Event.pv t8))])], [], []), .br true, .res ([(.one (.pv (.ints .u8 l_ false)))], [], []), .res ([(.one (.pv (.ints .u8 l_ false)))], [], []), .res ([(.one (.pv (.ints .u8 l_ false)))], [], []), .res ([(.one (.pv (.ints .u8 l_ false)))], [], []), .res ([(.one (.pv (.ints .u8 l_ false)))], [], []), .res ([(.one (.pv (.ints .u8 l_ false)))], [], []), .res ([(.one (.pv (.ints .u8 l_ false)))], [], []), .res ([(.one (.pv (.ints .u8 l_ false)))], [], []), .res ([(.one (.pv (.bool b4)))], [], []), .res ([(.one (.pv (.ints .u8 l_ false)))], [], []), .res ([(.one (.pv (.ints .u8 l_ false)))], [], []), .res ([(.one (.pv (.ints .u8 l_ false)))], [], []), .res ([(.one (.pv (.ints .u8 l_ false)))], [], []), .res ([(.one (.pv (.bool b4)))], [], []), .res ([(.one (.pv (.bool b4)))], [], []), .res ([(.one (.pv (.bool b4)))], [], []), .res ([(.one (.pv (.bool b5)))], [], []), .br false, .br false]) (([(.one (.pv (.bool false)))], [], [])) [
    Runs Try.prog 6 [] [] [] ([(.one (.pv (.bool b)))], [], []),
    (!b) = false,
    Runs Try.prog 7 [(.one (.pv (.ints .u8 p false))), (.one (.pv (.ints .u8 q false)))] [] [] ([(.agg [(.pv (.bool b2)), (.pv (T_id_halves.pv t)), (.pv (.int .u64 n)), (.pv (T_event_halves.pv t2))]), (.agg [(.pv (T_kinfolkref01_ID.pv t3)), (.pv (T_kinfolkref02_Event.pv t4))])], [], []),
    Runs Try.prog 7 [(.one (.pv (.ints .u8 r false))), (.one (.pv (.ints .u8 s false)))] [] [] ([(.agg [(.pv (.bool b3)), (.pv (T_id_halves.pv t5)), (.pv (.int .u64 n2)), (.pv (T_event_halves.pv t6))]), (.agg [(.pv (T_kinfolkref01_ID.pv t7)), (.pv (T_kinfolkref02_Event.pv t8))])], [], []),
    same = true,
    Runs Try.prog 9 [(.agg [(.pv (.bool b2)), (.pv (T_id_halves.pv t)), (.pv (.int .u64 n)), (.pv (T_event_halves.pv t2))])] [] [] ([(.one (.pv (.ints .u8 l_ false)))], [], []),
    Runs Try.prog 9 [(.agg [(.pv (.bool b2)), (.pv (T_id_halves.pv t)), (.pv (.int .u64 n)), (.pv (T_event_halves.pv t2))])] [] [] ([(.one (.pv (.ints .u8 l_ false)))], [], []),
    Runs Try.prog 9 [(.agg [(.pv (.bool b2)), (.pv (T_id_halves.pv t)), (.pv (.int .u64 n)), (.pv (T_event_halves.pv t2))])] [] [] ([(.one (.pv (.ints .u8 l_ false)))], [], []),
    Runs Try.prog 9 [(.agg [(.pv (.bool b2)), (.pv (T_id_halves.pv t)), (.pv (.int .u64 n)), (.pv (T_event_halves.pv t2))])] [] [] ([(.one (.pv (.ints .u8 l_ false)))], [], []),
    Runs Try.prog 9 [(.agg [(.pv (.bool b2)), (.pv (T_id_halves.pv t)), (.pv (.int .u64 n)), (.pv (T_event_halves.pv t2))])] [] [] ([(.one (.pv (.ints .u8 l_ false)))], [], []),
    Runs Try.prog 9 [(.agg [(.pv (.bool b2)), (.pv (T_id_halves.pv t)), (.pv (.int .u64 n)), (.pv (T_event_halves.pv t2))])] [] [] ([(.one (.pv (.ints .u8 l_ false)))], [], []),
    Runs Try.prog 9 [(.agg [(.pv (.bool b2)), (.pv (T_id_halves.pv t)), (.pv (.int .u64 n)), (.pv (T_event_halves.pv t2))])] [] [] ([(.one (.pv (.ints .u8 l_ false)))], [], []),
    Runs Try.prog 9 [(.agg [(.pv (.bool b2)), (.pv (T_id_halves.pv t)), (.pv (.int .u64 n)), (.pv (T_event_halves.pv t2))])] [] [] ([(.one (.pv (.ints .u8 l_ false)))], [], []),
    Runs Try.prog 8 [(.one (.pv (.ints .u8 l_ false))), (.one (.pv (.ints .u8 l_ false)))] [] [] ([(.one (.pv (.bool b4)))], [], []),
    Runs Try.prog 9 [(.agg [(.pv (.bool b2)), (.pv (T_id_halves.pv t)), (.pv (.int .u64 n)), (.pv (T_event_halves.pv t2))])] [] [] ([(.one (.pv (.ints .u8 l_ false)))], [], []),
    Runs Try.prog 9 [(.agg [(.pv (.bool b2)), (.pv (T_id_halves.pv t)), (.pv (.int .u64 n)), (.pv (T_event_halves.pv t2))])] [] [] ([(.one (.pv (.ints .u8 l_ false)))], [], []),
    Runs Try.prog 9 [(.agg [(.pv (.bool b2)), (.pv (T_id_halves.pv t)), (.pv (.int .u64 n)), (.pv (T_event_halves.pv t2))])] [] [] ([(.one (.pv (.ints .u8 l_ false)))], [], []),
    Runs Try.prog 9 [(.agg [(.pv (.bool b2)), (.pv (T_id_halves.pv t)), (.pv (.int .u64 n)), (.pv (T_event_halves.pv t2))])] [] [] ([(.one (.pv (.ints .u8 l_ false)))], [], []),
    Runs Try.prog 8 [(.one (.pv (.ints .u8 l_ false))), (.one (.pv (.ints .u8 l_ false)))] [] [] ([(.one (.pv (.bool b4)))], [], []),
    Runs Try.prog 8 [(.one (.pv (.ints .u8 l_ false))), (.one (.pv (.ints .u8 l_ false)))] [] [] ([(.one (.pv (.bool b4)))], [], []),
    Runs Try.prog 8 [(.one (.pv (.ints .u8 l_ false))), (.one (.pv (.ints .u8 l_ false)))] [] [] ([(.one (.pv (.bool b4)))], [], []),
    Runs Try.prog 10 [(.agg [(.pv (.bool b2)), (.pv (T_id_halves.pv t)), (.pv (.int .u64 n)), (.pv (T_event_halves.pv t2))]), (.agg [(.pv (.bool b2)), (.pv (T_id_halves.pv t)), (.pv (.int .u64 n)), (.pv (T_event_halves.pv t2))])] [] [] ([(.one (.pv (.bool b5)))], [], []),
    (b4 == b5) = false,
    false = false] := ⟨by kernel_rfl, by kernel_rfl⟩
theorem kinfolklaw07_CodeOnce_p3 (p : List Int) (q : List Int) (r : List Int) (s : List Int) (same : Bool) (b : Bool) (b2 : Bool) (t : T_id_halves) (n : Int) (t2 : T_event_halves) (t3 : T_kinfolkref01_ID) (t4 : T_kinfolkref02_Event) (b3 : Bool) (t5 : T_id_halves) (n2 : Int) (t6 : T_event_halves) (t7 : T_kinfolkref01_ID) (t8 : T_kinfolkref02_Event) (l_ : List Int) (l_2 : List Int) (b4 : Bool) (b5 : Bool) (l_3 : List Int) (l_4 : List Int) (b6 : Bool) (b7 : Bool) (l_5 : List Int) (l_6 : List Int) (b8 : Bool) (b9 : Bool) : both (evFn Try.prog cfg (Runs Try.prog) (LRuns Try.prog (lEnv Try.prog cfg 3 0).nt 0) 3 [(.one (.pv (.ints .u8 p false))), (.one (.pv (.ints .u8 q false))), (.one (.pv (.ints .u8 r false))), (.one (.pv (.ints .u8 s false))), (.one (.pv (.bool same)))] [] []
    [.res ([(.one (.pv (.bool b)))], [], []), .br false, .res ([(.agg [(.pv (.bool b2)), (.pv (T_id_halves.pv t)), (.pv (.int .u64 n)), (.pv (T_event_halves.pv t2))]), (.agg [(.pv (T_kinfolkref01_ID.pv t3)), (.pv (T_kinfolkref02_Event.pv t4))])], [], []), .res ([(.agg [(.pv (.bool b3)), (.pv (T_id_halves.pv t5)), (.pv (.int .u64 n2)), (.pv (T_event_halves.pv t6))]), (.agg [(.pv (T_kinfolkref01_ID.pv t7)), (.pv (T_kinfolkref02_Event.pv t8))])], [], []), .br false, .res ([(.one (.pv (.ints .u8 l_ false)))], [], []), .res ([(.one (.pv (.ints .u8 l_ false)))], [], []), .res ([(.one (.pv (.ints .u8 l_ false)))], [], []), .res ([(.one (.pv (.ints .u8 l_ false)))], [], []), .res ([(.one (.pv (.ints .u8 l_ false)))], [], []), .res ([(.one (.pv (.ints .u8 l_ false)))], [], []), .res ([(.one (.pv (.ints .u8 l_ false)))], [], []), .res ([(.one (.pv (.ints .u8 l_2 false)))], [], []), .res ([(.one (.pv (.bool b4)))], [], []), .res ([(.one (.pv (.ints .u8 l_2 false)))], [], []), .res ([(.one (.pv (.ints .u8 l_2 false)))], [], []), .res ([(.one (.pv (.ints .u8 l_ false)))], [], []), .res ([(.one (.pv (.ints .u8 l_2 false)))], [], []), .res ([(.one (.pv (.bool b4)))], [], []), .res ([(.one (.pv (.bool b4)))], [], []), .res ([(.one (.pv (.bool b4)))], [], []), .res ([(.one (.pv (.bool b5)))], [], []), .br true, .res ([(.one (.pv (.ints .u8 l_3 false)))], [], []), .res ([(.one (.pv (.ints .u8 l_3 false)))], [], []), .res ([(.one (.pv (.ints .u8 l_3 false)))], [], []), .res ([(.one (.pv (.ints .u8 l_3 false)))], [], []), .res ([(.one (.pv (.ints .u8 l_3 false)))], [], []), .res ([(.one (.pv (.ints .u8 l_3 false)))], [], []), .res ([(.one (.pv (.ints .u8 l_3 false)))], [], []), .res ([(.one (.pv (.ints .u8 l_4 false)))], [], []), .res ([(.one (.pv (.bool b6)))], [], []), .res ([(.one (.pv (.ints .u8 l_4 false)))], [], []), .res ([(.one (.pv (.ints .u8 l_4 false)))], [], []), .res ([(.one (.pv (.ints .u8 l_3 false)))], [], []), .res ([(.one (.pv (.ints .u8 l_4 false)))], [], []), .res ([(.one (.pv (.bool b6)))], [], []), .res ([(.one (.pv (.bool b6)))], [], []), .res ([(.one (.pv (.bool b6)))], [], []), .res ([(.one (.pv (.bool b7)))], [], []), .br true, .res ([(.one (.pv (.ints .u8 l_5 false)))], [], []), .res ([(.one (.pv (.ints .u8 l_5 false)))], [], []), .res ([(.one (.pv (.ints .u8 l_5 false)))], [], []), .res ([(.one (.pv (.ints .u8 l_5 false)))], [], []), .res ([(.one (.pv (.ints .u8 l_5 false)))], [], []), .res ([(.one (.pv (.ints .u8 l_5 false)))], [], []), .res ([(.one (.pv (.ints .u8 l_5 false)))], [], []), .res ([(.one (.pv (.ints .u8 l_6 false)))], [], []), .res ([(.one (.pv (.bool b8)))], [], []), .res ([(.one (.pv (.ints .u8 l_6 false)))], [], []), .res ([(.one (.pv (.ints .u8 l_6 false)))], [], []), .res ([(.one (.pv (.ints .u8 l_5 false)))], [], []), .res ([(.one (.pv (.ints .u8 l_6 false)))], [], []), .res ([(.one (.pv (.bool b8)))], [], []), .res ([(.one (.pv (.bool b8)))], [], []), .res ([(.one (.pv (.bool b8)))], [], []), .res ([(.one (.pv (.bool b9)))], [], [])]) (([(.one (.pv (.bool (b8 == b9))))], [], [])) [
    Runs Try.prog 6 [] [] [] ([(.one (.pv (.bool b)))], [], []),
    (!b) = false,
    Runs Try.prog 7 [(.one (.pv (.ints .u8 p false))), (.one (.pv (.ints .u8 q false)))] [] [] ([(.agg [(.pv (.bool b2)), (.pv (T_id_halves.pv t)), (.pv (.int .u64 n)), (.pv (T_event_halves.pv t2))]), (.agg [(.pv (T_kinfolkref01_ID.pv t3)), (.pv (T_kinfolkref02_Event.pv t4))])], [], []),
    Runs Try.prog 7 [(.one (.pv (.ints .u8 r false))), (.one (.pv (.ints .u8 s false)))] [] [] ([(.agg [(.pv (.bool b3)), (.pv (T_id_halves.pv t5)), (.pv (.int .u64 n2)), (.pv (T_event_halves.pv t6))]), (.agg [(.pv (T_kinfolkref01_ID.pv t7)), (.pv (T_kinfolkref02_Event.pv t8))])], [], []),
    same = false,
    Runs Try.prog 9 [(.agg [(.pv (.bool b2)), (.pv (T_id_halves.pv t)), (.pv (.int .u64 n)), (.pv (T_event_halves.pv t2))])] [] [] ([(.one (.pv (.ints .u8 l_ false)))], [], []),
    Runs Try.prog 9 [(.agg [(.pv (.bool b2)), (.pv (T_id_halves.pv t)), (.pv (.int .u64 n)), (.pv (T_event_halves.pv t2))])] [] [] ([(.one (.pv (.ints .u8 l_ false)))], [], []),
    Runs Try.prog 9 [(.agg [(.pv (.bool b2)), (.pv (T_id_halves.pv t)), (.pv (.int .u64 n)), (.pv (T_event_halves.pv t2))])] [] [] ([(.one (.pv (.ints .u8 l_ false)))], [], []),
    Runs Try.prog 9 [(.agg [(.pv (.bool b2)), (.pv (T_id_halves.pv t)), (.pv (.int .u64 n)), (.pv (T_event_halves.pv t2))])] [] [] ([(.one (.pv (.ints .u8 l_ false)))], [], []),
    Runs Try.prog 9 [(.agg [(.pv (.bool b2)), (.pv (T_id_halves.pv t)), (.pv (.int .u64 n)), (.pv (T_event_halves.pv t2))])] [] [] ([(.one (.pv (.ints .u8 l_ false)))], [], []),
    Runs Try.prog 9 [(.agg [(.pv (.bool b2)), (.pv (T_id_halves.pv t)), (.pv (.int .u64 n)), (.pv (T_event_halves.pv t2))])] [] [] ([(.one (.pv (.ints .u8 l_ false)))], [], []),
    Runs Try.prog 9 [(.agg [(.pv (.bool b2)), (.pv (T_id_halves.pv t)), (.pv (.int .u64 n)), (.pv (T_event_halves.pv t2))])] [] [] ([(.one (.pv (.ints .u8 l_ false)))], [], []),
    Runs Try.prog 9 [(.agg [(.pv (.bool b3)), (.pv (T_id_halves.pv t5)), (.pv (.int .u64 n2)), (.pv (T_event_halves.pv t6))])] [] [] ([(.one (.pv (.ints .u8 l_2 false)))], [], []),
    Runs Try.prog 8 [(.one (.pv (.ints .u8 l_ false))), (.one (.pv (.ints .u8 l_2 false)))] [] [] ([(.one (.pv (.bool b4)))], [], []),
    Runs Try.prog 9 [(.agg [(.pv (.bool b3)), (.pv (T_id_halves.pv t5)), (.pv (.int .u64 n2)), (.pv (T_event_halves.pv t6))])] [] [] ([(.one (.pv (.ints .u8 l_2 false)))], [], []),
    Runs Try.prog 9 [(.agg [(.pv (.bool b3)), (.pv (T_id_halves.pv t5)), (.pv (.int .u64 n2)), (.pv (T_event_halves.pv t6))])] [] [] ([(.one (.pv (.ints .u8 l_2 false)))], [], []),
    Runs Try.prog 9 [(.agg [(.pv (.bool b2)), (.pv (T_id_halves.pv t)), (.pv (.int .u64 n)), (.pv (T_event_halves.pv t2))])] [] [] ([(.one (.pv (.ints .u8 l_ false)))], [], []),
    Runs Try.prog 9 [(.agg [(.pv (.bool b3)), (.pv (T_id_halves.pv t5)), (.pv (.int .u64 n2)), (.pv (T_event_halves.pv t6))])] [] [] ([(.one (.pv (.ints .u8 l_2 false)))], [], []),
    Runs Try.prog 8 [(.one (.pv (.ints .u8 l_ false))), (.one (.pv (.ints .u8 l_2 false)))] [] [] ([(.one (.pv (.bool b4)))], [], []),
    Runs Try.prog 8 [(.one (.pv (.ints .u8 l_ false))), (.one (.pv (.ints .u8 l_2 false)))] [] [] ([(.one (.pv (.bool b4)))], [], []),
    Runs Try.prog 8 [(.one (.pv (.ints .u8 l_ false))), (.one (.pv (.ints .u8 l_2 false)))] [] [] ([(.one (.pv (.bool b4)))], [], []),
    Runs Try.prog 10 [(.agg [(.pv (.bool b2)), (.pv (T_id_halves.pv t)), (.pv (.int .u64 n)), (.pv (T_event_halves.pv t2))]), (.agg [(.pv (.bool b3)), (.pv (T_id_halves.pv t5)), (.pv (.int .u64 n2)), (.pv (T_event_halves.pv t6))])] [] [] ([(.one (.pv (.bool b5)))], [], []),
    (b4 == b5) = true,
    Runs Try.prog 11 [(.agg [(.pv (.bool b2)), (.pv (T_id_halves.pv t))])] [] [] ([(.one (.pv (.ints .u8 l_3 false)))], [], []),
    Runs Try.prog 11 [(.agg [(.pv (.bool b2)), (.pv (T_id_halves.pv t))])] [] [] ([(.one (.pv (.ints .u8 l_3 false)))], [], []),
    Runs Try.prog 11 [(.agg [(.pv (.bool b2)), (.pv (T_id_halves.pv t))])] [] [] ([(.one (.pv (.ints .u8 l_3 false)))], [], []),
    Runs Try.prog 11 [(.agg [(.pv (.bool b2)), (.pv (T_id_halves.pv t))])] [] [] ([(.one (.pv (.ints .u8 l_3 false)))], [], []),
    Runs Try.prog 11 [(.agg [(.pv (.bool b2)), (.pv (T_id_halves.pv t))])] [] [] ([(.one (.pv (.ints .u8 l_3 false)))], [], []),
    Runs Try.prog 11 [(.agg [(.pv (.bool b2)), (.pv (T_id_halves.pv t))])] [] [] ([(.one (.pv (.ints .u8 l_3 false)))], [], []),
    Runs Try.prog 11 [(.agg [(.pv (.bool b2)), (.pv (T_id_halves.pv t))])] [] [] ([(.one (.pv (.ints .u8 l_3 false)))], [], []),
    Runs Try.prog 11 [(.agg [(.pv (.bool b3)), (.pv (T_id_halves.pv t5))])] [] [] ([(.one (.pv (.ints .u8 l_4 false)))], [], []),
    Runs Try.prog 8 [(.one (.pv (.ints .u8 l_3 false))), (.one (.pv (.ints .u8 l_4 false)))] [] [] ([(.one (.pv (.bool b6)))], [], []),
    Runs Try.prog 11 [(.agg [(.pv (.bool b3)), (.pv (T_id_halves.pv t5))])] [] [] ([(.one (.pv (.ints .u8 l_4 false)))], [], []),
    Runs Try.prog 11 [(.agg [(.pv (.bool b3)), (.pv (T_id_halves.pv t5))])] [] [] ([(.one (.pv (.ints .u8 l_4 false)))], [], []),
    Runs Try.prog 11 [(.agg [(.pv (.bool b2)), (.pv (T_id_halves.pv t))])] [] [] ([(.one (.pv (.ints .u8 l_3 false)))], [], []),
    Runs Try.prog 11 [(.agg [(.pv (.bool b3)), (.pv (T_id_halves.pv t5))])] [] [] ([(.one (.pv (.ints .u8 l_4 false)))], [], []),
    Runs Try.prog 8 [(.one (.pv (.ints .u8 l_3 false))), (.one (.pv (.ints .u8 l_4 false)))] [] [] ([(.one (.pv (.bool b6)))], [], []),
    Runs Try.prog 8 [(.one (.pv (.ints .u8 l_3 false))), (.one (.pv (.ints .u8 l_4 false)))] [] [] ([(.one (.pv (.bool b6)))], [], []),
    Runs Try.prog 8 [(.one (.pv (.ints .u8 l_3 false))), (.one (.pv (.ints .u8 l_4 false)))] [] [] ([(.one (.pv (.bool b6)))], [], []),
    Runs Try.prog 12 [(.agg [(.pv (.bool b2)), (.pv (T_id_halves.pv t))]), (.agg [(.pv (.bool b3)), (.pv (T_id_halves.pv t5))])] [] [] ([(.one (.pv (.bool b7)))], [], []),
    (b6 == b7) = true,
    Runs Try.prog 13 [(.agg [(.pv (.int .u64 n)), (.pv (T_event_halves.pv t2))])] [] [] ([(.one (.pv (.ints .u8 l_5 false)))], [], []),
    Runs Try.prog 13 [(.agg [(.pv (.int .u64 n)), (.pv (T_event_halves.pv t2))])] [] [] ([(.one (.pv (.ints .u8 l_5 false)))], [], []),
    Runs Try.prog 13 [(.agg [(.pv (.int .u64 n)), (.pv (T_event_halves.pv t2))])] [] [] ([(.one (.pv (.ints .u8 l_5 false)))], [], []),
    Runs Try.prog 13 [(.agg [(.pv (.int .u64 n)), (.pv (T_event_halves.pv t2))])] [] [] ([(.one (.pv (.ints .u8 l_5 false)))], [], []),
    Runs Try.prog 13 [(.agg [(.pv (.int .u64 n)), (.pv (T_event_halves.pv t2))])] [] [] ([(.one (.pv (.ints .u8 l_5 false)))], [], []),
    Runs Try.prog 13 [(.agg [(.pv (.int .u64 n)), (.pv (T_event_halves.pv t2))])] [] [] ([(.one (.pv (.ints .u8 l_5 false)))], [], []),
    Runs Try.prog 13 [(.agg [(.pv (.int .u64 n)), (.pv (T_event_halves.pv t2))])] [] [] ([(.one (.pv (.ints .u8 l_5 false)))], [], []),
    Runs Try.prog 13 [(.agg [(.pv (.int .u64 n2)), (.pv (T_event_halves.pv t6))])] [] [] ([(.one (.pv (.ints .u8 l_6 false)))], [], []),
    Runs Try.prog 8 [(.one (.pv (.ints .u8 l_5 false))), (.one (.pv (.ints .u8 l_6 false)))] [] [] ([(.one (.pv (.bool b8)))], [], []),
    Runs Try.prog 13 [(.agg [(.pv (.int .u64 n2)), (.pv (T_event_halves.pv t6))])] [] [] ([(.one (.pv (.ints .u8 l_6 false)))], [], []),
    Runs Try.prog 13 [(.agg [(.pv (.int .u64 n2)), (.pv (T_event_halves.pv t6))])] [] [] ([(.one (.pv (.ints .u8 l_6 false)))], [], []),
    Runs Try.prog 13 [(.agg [(.pv (.int .u64 n)), (.pv (T_event_halves.pv t2))])] [] [] ([(.one (.pv (.ints .u8 l_5 false)))], [], []),
    Runs Try.prog 13 [(.agg [(.pv (.int .u64 n2)), (.pv (T_event_halves.pv t6))])] [] [] ([(.one (.pv (.ints .u8 l_6 false)))], [], []),
    Runs Try.prog 8 [(.one (.pv (.ints .u8 l_5 false))), (.one (.pv (.ints .u8 l_6 false)))] [] [] ([(.one (.pv (.bool b8)))], [], []),
    Runs Try.prog 8 [(.one (.pv (.ints .u8 l_5 false))), (.one (.pv (.ints .u8 l_6 false)))] [] [] ([(.one (.pv (.bool b8)))], [], []),
    Runs Try.prog 8 [(.one (.pv (.ints .u8 l_5 false))), (.one (.pv (.ints .u8 l_6 false)))] [] [] ([(.one (.pv (.bool b8)))], [], []),
    Runs Try.prog 14 [(.agg [(.pv (.int .u64 n)), (.pv (T_event_halves.pv t2))]), (.agg [(.pv (.int .u64 n2)), (.pv (T_event_halves.pv t6))])] [] [] ([(.one (.pv (.bool b9)))], [], [])] := ⟨by kernel_rfl, by kernel_rfl⟩
theorem kinfolklaw07_CodeOnce_p4 (p : List Int) (q : List Int) (r : List Int) (s : List Int) (same : Bool) (b : Bool) (b2 : Bool) (t : T_id_halves) (n : Int) (t2 : T_event_halves) (t3 : T_kinfolkref01_ID) (t4 : T_kinfolkref02_Event) (b3 : Bool) (t5 : T_id_halves) (n2 : Int) (t6 : T_event_halves) (t7 : T_kinfolkref01_ID) (t8 : T_kinfolkref02_Event) (l_ : List Int) (l_2 : List Int) (b4 : Bool) (b5 : Bool) (l_3 : List Int) (l_4 : List Int) (b6 : Bool) (b7 : Bool) : both (evFn Try.prog cfg (Runs Try.prog) (LRuns Try.prog (lEnv Try.prog cfg 3 0).nt 0) 3 [(.one (.pv (.ints .u8 p false))), (.one (.pv (.ints .u8 q false))), (.one (.pv (.ints .u8 r false))), (.one (.pv (.ints .u8 s false))), (.one (.pv (.bool same)))] [] []
    [.res ([(.one (.pv (.bool b)))], [], []), .br false, .res ([(.agg [(.pv (.bool b2)), (.pv (T_id_halves.pv t)), (.pv (.int .u64 n)), (.pv (T_event_halves.pv t2))]), (.agg [(.pv (T_kinfolkref01_ID.pv t3)), (.pv (T_kinfolkref02_Event.pv t4))])], [], []), .res ([(.agg [(.pv (.bool b3)), (.pv (T_id_halves.pv t5)), (.pv (.int .u64 n2)), (.pv (T_event_halves.pv t6))]), (.agg [(.pv (T_kinfolkref01_ID.pv t7)), (.pv (T_kinfolkref02_Event.pv t8))])], [], []), .br false, .res ([(.one (.pv (.ints .u8 l_ false)))], [], []), .res ([(.one (.pv (.ints .u8 l_ false)))], [], []), .res ([(.one (.pv (.ints .u8 l_ false)))], [], []), .res ([(.one (.pv (.ints .u8 l_ false)))], [], []), .res ([(.one (.pv (.ints .u8 l_ false)))], [], []), .res ([(.one (.pv (.ints .u8 l_ false)))], [], []), .res ([(.one (.pv (.ints .u8 l_ false)))], [], []), .res ([(.one (.pv (.ints .u8 l_2 false)))], [], []), .res ([(.one (.pv (.bool b4)))], [], []), .res ([(.one (.pv (.ints .u8 l_2 false)))], [], []), .res ([(.one (.pv (.ints .u8 l_2 false)))], [], []), .res ([(.one (.pv (.ints .u8 l_ false)))], [], []), .res ([(.one (.pv (.ints .u8 l_2 false)))], [], []), .res ([(.one (.pv (.bool b4)))], [], []), .res ([(.one (.pv (.bool b4)))], [], []), .res ([(.one (.pv (.bool b4)))], [], []), .res ([(.one (.pv (.bool b5)))], [], []), .br true, .res ([(.one (.pv (.ints .u8 l_3 false)))], [], []), .res ([(.one (.pv (.ints .u8 l_3 false)))], [], []), .res ([(.one (.pv (.ints .u8 l_3 false)))], [], []), .res ([(.one (.pv (.ints .u8 l_3 false)))], [], []), .res ([(.one (.pv (.ints .u8 l_3 false)))], [], []), .res ([(.one (.pv (.ints .u8 l_3 false)))], [], []), .res ([(.one (.pv (.ints .u8 l_3 false)))], [], []), .res ([(.one (.pv (.ints .u8 l_4 false)))], [], []), .res ([(.one (.pv (.bool b6)))], [], []), .res ([(.one (.pv (.ints .u8 l_4 false)))], [], []), .res ([(.one (.pv (.ints .u8 l_4 false)))], [], []), .res ([(.one (.pv (.ints .u8 l_3 false)))], [], []), .res ([(.one (.pv (.ints .u8 l_4 false)))], [], []), .res ([(.one (.pv (.bool b6)))], [], []), .res ([(.one (.pv (.bool b6)))], [], []), .res ([(.one (.pv (.bool b6)))], [], []), .res ([(.one (.pv (.bool b7)))], [], []), .br false]) (([(.one (.pv (.bool false)))], [], [])) [
    Runs Try.prog 6 [] [] [] ([(.one (.pv (.bool b)))], [], []),
    (!b) = false,
    Runs Try.prog 7 [(.one (.pv (.ints .u8 p false))), (.one (.pv (.ints .u8 q false)))] [] [] ([(.agg [(.pv (.bool b2)), (.pv (T_id_halves.pv t)), (.pv (.int .u64 n)), (.pv (T_event_halves.pv t2))]), (.agg [(.pv (T_kinfolkref01_ID.pv t3)), (.pv (T_kinfolkref02_Event.pv t4))])], [], []),
    Runs Try.prog 7 [(.one (.pv (.ints .u8 r false))), (.one (.pv (.ints .u8 s false)))] [] [] ([(.agg [(.pv (.bool b3)), (.pv (T_id_halves.pv t5)), (.pv (.int .u64 n2)), (.pv (T_event_halves.pv t6))]), (.agg [(.pv (T_kinfolkref01_ID.pv t7)), (.pv (T_kinfolkref02_Event.pv t8))])], [], []),
    same = false,
    Runs Try.prog 9 [(.agg [(.pv (.bool b2)), (.pv (T_id_halves.pv t)), (.pv (.int .u64 n)), (.pv (T_event_halves.pv t2))])] [] [] ([(.one (.pv (.ints .u8 l_ false)))], [], []),
    Runs Try.prog 9 [(.agg [(.pv (.bool b2)), (.pv (T_id_halves.pv t)), (.pv (.int .u64 n)), (.pv (T_event_halves.pv t2))])] [] [] ([(.one (.pv (.ints .u8 l_ false)))], [], []),
    Runs Try.prog 9 [(.agg [(.pv (.bool b2)), (.pv (T_id_halves.pv t)), (.pv (.int .u64 n)), (.pv (T_event_halves.pv t2))])] [] [] ([(.one (.pv (.ints .u8 l_ false)))], [], []),
    Runs Try.prog 9 [(.agg [(.pv (.bool b2)), (.pv (T_id_halves.pv t)), (.pv (.int .u64 n)), (.pv (T_event_halves.pv t2))])] [] [] ([(.one (.pv (.ints .u8 l_ false)))], [], []),
    Runs Try.prog 9 [(.agg [(.pv (.bool b2)), (.pv (T_id_halves.pv t)), (.pv (.int .u64 n)), (.pv (T_event_halves.pv t2))])] [] [] ([(.one (.pv (.ints .u8 l_ false)))], [], []),
    Runs Try.prog 9 [(.agg [(.pv (.bool b2)), (.pv (T_id_halves.pv t)), (.pv (.int .u64 n)), (.pv (T_event_halves.pv t2))])] [] [] ([(.one (.pv (.ints .u8 l_ false)))], [], []),
    Runs Try.prog 9 [(.agg [(.pv (.bool b2)), (.pv (T_id_halves.pv t)), (.pv (.int .u64 n)), (.pv (T_event_halves.pv t2))])] [] [] ([(.one (.pv (.ints .u8 l_ false)))], [], []),
    Runs Try.prog 9 [(.agg [(.pv (.bool b3)), (.pv (T_id_halves.pv t5)), (.pv (.int .u64 n2)), (.pv (T_event_halves.pv t6))])] [] [] ([(.one (.pv (.ints .u8 l_2 false)))], [], []),
    Runs Try.prog 8 [(.one (.pv (.ints .u8 l_ false))), (.one (.pv (.ints .u8 l_2 false)))] [] [] ([(.one (.pv (.bool b4)))], [], []),
    Runs Try.prog 9 [(.agg [(.pv (.bool b3)), (.pv (T_id_halves.pv t5)), (.pv (.int .u64 n2)), (.pv (T_event_halves.pv t6))])] [] [] ([(.one (.pv (.ints .u8 l_2 false)))], [], []),
    Runs Try.prog 9 [(.agg [(.pv (.bool b3)), (.pv (T_id_halves.pv t5)), (.pv (.int .u64 n2)), (.pv (T_event_halves.pv t6))])] [] [] ([(.one (.pv (.ints .u8 l_2 false)))], [], []),
    Runs Try.prog 9 [(.agg [(.pv (.bool b2)), (.pv (T_id_halves.pv t)), (.pv (.int .u64 n)), (.pv (T_event_halves.pv t2))])] [] [] ([(.one (.pv (.ints .u8 l_ false)))], [], []),
    Runs Try.prog 9 [(.agg [(.pv (.bool b3)), (.pv (T_id_halves.pv t5)), (.pv (.int .u64 n2)), (.pv (T_event_halves.pv t6))])] [] [] ([(.one (.pv (.ints .u8 l_2 false)))], [], []),
    Runs Try.prog 8 [(.one (.pv (.ints .u8 l_ false))), (.one (.pv (.ints .u8 l_2 false)))] [] [] ([(.one (.pv (.bool b4)))], [], []),
    Runs Try.prog 8 [(.one (.pv (.ints .u8 l_ false))), (.one (.pv (.ints .u8 l_2 false)))] [] [] ([(.one (.pv (.bool b4)))], [], []),
    Runs Try.prog 8 [(.one (.pv (.ints .u8 l_ false))), (.one (.pv (.ints .u8 l_2 false)))] [] [] ([(.one (.pv (.bool b4)))], [], []),
    Runs Try.prog 10 [(.agg [(.pv (.bool b2)), (.pv (T_id_halves.pv t)), (.pv (.int .u64 n)), (.pv (T_event_halves.pv t2))]), (.agg [(.pv (.bool b3)), (.pv (T_id_halves.pv t5)), (.pv (.int .u64 n2)), (.pv (T_event_halves.pv t6))])] [] [] ([(.one (.pv (.bool b5)))], [], []),
    (b4 == b5) = true,
    Runs Try.prog 11 [(.agg [(.pv (.bool b2)), (.pv (T_id_halves.pv t))])] [] [] ([(.one (.pv (.ints .u8 l_3 false)))], [], []),
    Runs Try.prog 11 [(.agg [(.pv (.bool b2)), (.pv (T_id_halves.pv t))])] [] [] ([(.one (.pv (.ints .u8 l_3 false)))], [], []),
    Runs Try.prog 11 [(.agg [(.pv (.bool b2)), (.pv (T_id_halves.pv t))])] [] [] ([(.one (.pv (.ints .u8 l_3 false)))], [], []),
    Runs Try.prog 11 [(.agg [(.pv (.bool b2)), (.pv (T_id_halves.pv t))])] [] [] ([(.one (.pv (.ints .u8 l_3 false)))], [], []),
    Runs Try.prog 11 [(.agg [(.pv (.bool b2)), (.pv (T_id_halves.pv t))])] [] [] ([(.one (.pv (.ints .u8 l_3 false)))], [], []),
    Runs Try.prog 11 [(.agg [(.pv (.bool b2)), (.pv (T_id_halves.pv t))])] [] [] ([(.one (.pv (.ints .u8 l_3 false)))], [], []),
    Runs Try.prog 11 [(.agg [(.pv (.bool b2)), (.pv (T_id_halves.pv t))])] [] [] ([(.one (.pv (.ints .u8 l_3 false)))], [], []),
    Runs Try.prog 11 [(.agg [(.pv (.bool b3)), (.pv (T_id_halves.pv t5))])] [] [] ([(.one (.pv (.ints .u8 l_4 false)))], [], []),
    Runs Try.prog 8 [(.one (.pv (.ints .u8 l_3 false))), (.one (.pv (.ints .u8 l_4 false)))] [] [] ([(.one (.pv (.bool b6)))], [], []),
    Runs Try.prog 11 [(.agg [(.pv (.bool b3)), (.pv (T_id_halves.pv t5))])] [] [] ([(.one (.pv (.ints .u8 l_4 false)))], [], []),
    Runs Try.prog 11 [(.agg [(.pv (.bool b3)), (.pv (T_id_halves.pv t5))])] [] [] ([(.one (.pv (.ints .u8 l_4 false)))], [], []),
    Runs Try.prog 11 [(.agg [(.pv (.bool b2)), (.pv (T_id_halves.pv t))])] [] [] ([(.one (.pv (.ints .u8 l_3 false)))], [], []),
    Runs Try.prog 11 [(.agg [(.pv (.bool b3)), (.pv (T_id_halves.pv t5))])] [] [] ([(.one (.pv (.ints .u8 l_4 false)))], [], []),
    Runs Try.prog 8 [(.one (.pv (.ints .u8 l_3 false))), (.one (.pv (.ints .u8 l_4 false)))] [] [] ([(.one (.pv (.bool b6)))], [], []),
    Runs Try.prog 8 [(.one (.pv (.ints .u8 l_3 false))), (.one (.pv (.ints .u8 l_4 false)))] [] [] ([(.one (.pv (.bool b6)))], [], []),
    Runs Try.prog 8 [(.one (.pv (.ints .u8 l_3 false))), (.one (.pv (.ints .u8 l_4 false)))] [] [] ([(.one (.pv (.bool b6)))], [], []),
    Runs Try.prog 12 [(.agg [(.pv (.bool b2)), (.pv (T_id_halves.pv t))]), (.agg [(.pv (.bool b3)), (.pv (T_id_halves.pv t5))])] [] [] ([(.one (.pv (.bool b7)))], [], []),
    (b6 == b7) = false] := ⟨by kernel_rfl, by kernel_rfl⟩
theorem kinfolklaw07_CodeOnce_p5 (p : List Int) (q : List Int) (r : List Int) (s : List Int) (same : Bool) (b : Bool) (b2 : Bool) (t : T_id_halves) (n : Int) (t2 : T_event_halves) (t3 : T_kinfolkref01_ID) (t4 : T_kinfolkref02_Event) (b3 : Bool) (t5 : T_id_halves) (n2 : Int) (t6 : T_event_halves) (t7 : T_kinfolkref01_ID) (t8 : T_kinfolkref02_Event) (l_ : List Int) (l_2 : List Int) (b4 : Bool) (b5 : Bool) : both (evFn Try.prog cfg (Runs Try.prog) (LRuns Try.prog (lEnv Try.prog cfg 3 0).nt 0) 3 [(.one (.pv (.ints .u8 p false))), (.one (.pv (.ints .u8 q false))), (.one (.pv (.ints .u8 r false))), (.one (.pv (.ints .u8 s false))), (.one (.pv (.bool same)))] [] []
    [.res ([(.one (.pv (.bool b)))], [], []), .br false, .res ([(.agg [(.pv (.bool b2)), (.pv (T_id_halves.pv t)), (.pv (.int .u64 n)), (.pv (T_event_halves.pv t2))]), (.agg [(.pv (T_kinfolkref01_ID.pv t3)), (.pv (T_kinfolkref02_Event.pv t4))])], [], []), .res ([(.agg [(.pv (.bool b3)), (.pv (T_id_halves.pv t5)), (.pv (.int .u64 n2)), (.pv (T_event_halves.pv t6))]), (.agg [(.pv (T_kinfolkref01_ID.pv t7)), (.pv (T_kinfolkref02_Event.pv t8))])], [], []), .br false, .res ([(.one (.pv (.ints .u8 l_ false)))], [], []), .res ([(.one (.pv (.ints .u8 l_ false)))], [], []), .res ([(.one (.pv (.ints .u8 l_ false)))], [], []), .res ([(.one (.pv (.ints .u8 l_ false)))], [], []), .res ([(.one (.pv (.ints .u8 l_ false)))], [], []), .res ([(.one (.pv (.ints .u8 l_ false)))], [], []), .res ([(.one (.pv (.ints .u8 l_ false)))], [], []), .res ([(.one (.pv (.ints .u8 l_2 false)))], [], []), .res ([(.one (.pv (.bool b4)))], [], []), .res ([(.one (.pv (.ints .u8 l_2 false)))], [], []), .res ([(.one (.pv (.ints .u8 l_2 false)))], [], []), .res ([(.one (.pv (.ints .u8 l_ false)))], [], []), .res ([(.one (.pv (.ints .u8 l_2 false)))], [], []), .res ([(.one (.pv (.bool b4)))], [], []), .res ([(.one (.pv (.bool b4)))], [], []), .res ([(.one (.pv (.bool b4)))], [], []), .res ([(.one (.pv (.bool b5)))], [], []), .br false, .br false]) (([(.one (.pv (.bool false)))], [], [])) [
    Runs Try.prog 6 [] [] [] ([(.one (.pv (.bool b)))], [], []),
    (!b) = false,
    Runs Try.prog 7 [(.one (.pv (.ints .u8 p false))), (.one (.pv (.ints .u8 q false)))] [] [] ([(.agg [(.pv (.bool b2)), (.pv (T_id_halves.pv t)), (.pv (.int .u64 n)), (.pv (T_event_halves.pv t2))]), (.agg [(.pv (T_kinfolkref01_ID.pv t3)), (.pv (T_kinfolkref02_Event.pv t4))])], [], []),
    Runs Try.prog 7 [(.one (.pv (.ints .u8 r false))), (.one (.pv (.ints .u8 s false)))] [] [] ([(.agg [(.pv (.bool b3)), (.pv (T_id_halves.pv t5)), (.pv (.int .u64 n2)), (.pv (T_event_halves.pv t6))]), (.agg [(.pv (T_kinfolkref01_ID.pv t7)), (.pv (T_kinfolkref02_Event.pv t8))])], [], []),
    same = false,
    Runs Try.prog 9 [(.agg [(.pv (.bool b2)), (.pv (T_id_halves.pv t)), (.pv (.int .u64 n)), (.pv (T_event_halves.pv t2))])] [] [] ([(.one (.pv (.ints .u8 l_ false)))], [], []),
    Runs Try.prog 9 [(.agg [(.pv (.bool b2)), (.pv (T_id_halves.pv t)), (.pv (.int .u64 n)), (.pv (T_event_halves.pv t2))])] [] [] ([(.one (.pv (.ints .u8 l_ false)))], [], []),
    Runs Try.prog 9 [(.agg [(.pv (.bool b2)), (.pv (T_id_halves.pv t)), (.pv (.int .u64 n)), (.pv (T_event_halves.pv t2))])] [] [] ([(.one (.pv (.ints .u8 l_ false)))], [], []),
    Runs Try.prog 9 [(.agg [(.pv (.bool b2)), (.pv (T_id_halves.pv t)), (.pv (.int .u64 n)), (.pv (T_event_halves.pv t2))])] [] [] ([(.one (.pv (.ints .u8 l_ false)))], [], []),
    Runs Try.prog 9 [(.agg [(.pv (.bool b2)), (.pv (T_id_halves.pv t)), (.pv (.int .u64 n)), (.pv (T_event_halves.pv t2))])] [] [] ([(.one (.pv (.ints .u8 l_ false)))], [], []),
    Runs Try.prog 9 [(.agg [(.pv (.bool b2)), (.pv (T_id_halves.pv t)), (.pv (.int .u64 n)), (.pv (T_event_halves.pv t2))])] [] [] ([(.one (.pv (.ints .u8 l_ false)))], [], []),
    Runs Try.prog 9 [(.agg [(.pv (.bool b2)), (.pv (T_id_halves.pv t)), (.pv (.int .u64 n)), (.pv (T_event_halves.pv t2))])] [] [] ([(.one (.pv (.ints .u8 l_ false)))], [], []),
    Runs Try.prog 9 [(.agg [(.pv (.bool b3)), (.pv (T_id_halves.pv t5)), (.pv (.int .u64 n2)), (.pv (T_event_halves.pv t6))])] [] [] ([(.one (.pv (.ints .u8 l_2 false)))], [], []),
    Runs Try.prog 8 [(.one (.pv (.ints .u8 l_ false))), (.one (.pv (.ints .u8 l_2 false)))] [] [] ([(.one (.pv (.bool b4)))], [], []),
    Runs Try.prog 9 [(.agg [(.pv (.bool b3)), (.pv (T_id_halves.pv t5)), (.pv (.int .u64 n2)), (.pv (T_event_halves.pv t6))])] [] [] ([(.one (.pv (.ints .u8 l_2 false)))], [], []),
    Runs Try.prog 9 [(.agg [(.pv (.bool b3)), (.pv (T_id_halves.pv t5)), (.pv (.int .u64 n2)), (.pv (T_event_halves.pv t6))])] [] [] ([(.one (.pv (.ints .u8 l_2 false)))], [], []),
    Runs Try.prog 9 [(.agg [(.pv (.bool b2)), (.pv (T_id_halves.pv t)), (.pv (.int .u64 n)), (.pv (T_event_halves.pv t2))])] [] [] ([(.one (.pv (.ints .u8 l_ false)))], [], []),
    Runs Try.prog 9 [(.agg [(.pv (.bool b3)), (.pv (T_id_halves.pv t5)), (.pv (.int .u64 n2)), (.pv (T_event_halves.pv t6))])] [] [] ([(.one (.pv (.ints .u8 l_2 false)))], [], []),
    Runs Try.prog 8 [(.one (.pv (.ints .u8 l_ false))), (.one (.pv (.ints .u8 l_2 false)))] [] [] ([(.one (.pv (.bool b4)))], [], []),
    Runs Try.prog 8 [(.one (.pv (.ints .u8 l_ false))), (.one (.pv (.ints .u8 l_2 false)))] [] [] ([(.one (.pv (.bool b4)))], [], []),
    Runs Try.prog 8 [(.one (.pv (.ints .u8 l_ false))), (.one (.pv (.ints .u8 l_2 false)))] [] [] ([(.one (.pv (.bool b4)))], [], []),
    Runs Try.prog 10 [(.agg [(.pv (.bool b2)), (.pv (T_id_halves.pv t)), (.pv (.int .u64 n)), (.pv (T_event_halves.pv t2))]), (.agg [(.pv (.bool b3)), (.pv (T_id_halves.pv t5)), (.pv (.int .u64 n2)), (.pv (T_event_halves.pv t6))])] [] [] ([(.one (.pv (.bool b5)))], [], []),
    (b4 == b5) = false,
    false = false] := ⟨by kernel_rfl, by kernel_rfl⟩
theorem kinfolklaw07_CodeOnce_p6 (p : List Int) (q : List Int) (r : List Int) (s : List Int) (same : Bool) (b : Bool) : evFn Try.prog cfg (Runs Try.prog) (LRuns Try.prog (lEnv Try.prog cfg 3 0).nt 0) 3 [(.one (.pv (.ints .u8 p false))), (.one (.pv (.ints .u8 q false))), (.one (.pv (.ints .u8 r false))), (.one (.pv (.ints .u8 s false))), (.one (.pv (.bool same)))] [] []
    [.res ([(.one (.pv (.bool b)))], [], []), .br true] =
  some (([(.one (.pv (.bool false)))], [], []), obs [
    Runs Try.prog 6 [] [] [] ([(.one (.pv (.bool b)))], [], []),
    (!b) = true]) := by kernel_rfl
noncomputable def kinfolklaw07_CodeOnce (N : Nat) (p : List Int) (q : List Int) (r : List Int) (s : List Int) (same : Bool) : Option (Bool) :=
  (kinfolklaw07_awake N).bind fun b =>
  bif b then
    (kinfolklaw07_made N p q).bind fun (b2, t, n, t2, t3, t4) =>
    (kinfolklaw07_made N r s).bind fun (b3, t5, n2, t6, t7, t8) =>
    bif same then
      (code_Stamp N b2 t n t2).bind fun l_ =>
      (bytes_Equal l_ l_).bind fun b4 =>
      (stamp_Same N b2 t n t2 b2 t n t2).bind fun b5 =>
      bif (b4 == b5) then
        (code_ID N b2 t).bind fun l_2 =>
        (bytes_Equal l_2 l_2).bind fun b6 =>
        (id_Same N b2 t b2 t).bind fun b7 =>
        bif (b6 == b7) then
          (code_Event N n t2).bind fun l_3 =>
          (bytes_Equal l_3 l_3).bind fun b8 =>
          (event_Same N n t2 n t2).bind fun b9 =>
          some (b8 == b9)
        else
          some false
      else
        some false
    else
      (code_Stamp N b2 t n t2).bind fun l_ =>
      (code_Stamp N b3 t5 n2 t6).bind fun l_2 =>
      (bytes_Equal l_ l_2).bind fun b4 =>
      (stamp_Same N b2 t n t2 b3 t5 n2 t6).bind fun b5 =>
      bif (b4 == b5) then
        (code_ID N b2 t).bind fun l_3 =>
        (code_ID N b3 t5).bind fun l_4 =>
        (bytes_Equal l_3 l_4).bind fun b6 =>
        (id_Same N b2 t b3 t5).bind fun b7 =>
        bif (b6 == b7) then
          (code_Event N n t2).bind fun l_5 =>
          (code_Event N n2 t6).bind fun l_6 =>
          (bytes_Equal l_5 l_6).bind fun b8 =>
          (event_Same N n t2 n2 t6).bind fun b9 =>
          some (b8 == b9)
        else
          some false
      else
        some false
  else
    some false
theorem kinfolklaw07_CodeOnce_runs (N : Nat) (p : List Int) (q : List Int) (r : List Int) (s : List Int) (same : Bool) (r_ : Bool) (h : kinfolklaw07_CodeOnce N p q r s same = some r_) : Runs Try.prog 3 [(.one (.pv (.ints .u8 p false))), (.one (.pv (.ints .u8 q false))), (.one (.pv (.ints .u8 r false))), (.one (.pv (.ints .u8 s false))), (.one (.pv (.bool same)))] [] [] (kinfolklaw07_CodeOnce_out p q r s same r_) := by
  unfold kinfolklaw07_CodeOnce at h
  obtain ⟨b, h1, h⟩ := bind_of h
  rcases cond_of h with ⟨h2, h⟩ | ⟨h2, h⟩
  · obtain ⟨⟨b2, t, n, t2, t3, t4⟩, h3, h⟩ := bind_of h
    obtain ⟨⟨b3, t5, n2, t6, t7, t8⟩, h4, h⟩ := bind_of h
    rcases cond_of h with ⟨h5, h⟩ | ⟨h5, h⟩
    · obtain ⟨l_, h6, h⟩ := bind_of h
      obtain ⟨b4, h7, h⟩ := bind_of h
      obtain ⟨b5, h8, h⟩ := bind_of h
      rcases cond_of h with ⟨h9, h⟩ | ⟨h9, h⟩
      · obtain ⟨l_2, h10, h⟩ := bind_of h
        obtain ⟨b6, h11, h⟩ := bind_of h
        obtain ⟨b7, h12, h⟩ := bind_of h
        rcases cond_of h with ⟨h13, h⟩ | ⟨h13, h⟩
        · obtain ⟨l_3, h14, h⟩ := bind_of h
          obtain ⟨b8, h15, h⟩ := bind_of h
          obtain ⟨b9, h16, h⟩ := bind_of h
          have h := some_of h
          subst h
          have e_ := kinfolklaw07_CodeOnce_p0 p q r s same b b2 t n t2 t3 t4 b3 t5 n2 t6 t7 t8 l_ b4 b5 l_2 b6 b7 l_3 b8 b9
          have e_ := runs_of (objs := []) (Says.of2 e_ ⟨(kinfolklaw07_awake_runs N _ h1), (not_of2 h2), (kinfolklaw07_made_runs N p q _ h3), (kinfolklaw07_made_runs N r s _ h4), h5, (code_Stamp_runs N b2 t n t2 _ h6), (code_Stamp_runs N b2 t n t2 _ h6), (code_Stamp_runs N b2 t n t2 _ h6), (code_Stamp_runs N b2 t n t2 _ h6), (code_Stamp_runs N b2 t n t2 _ h6), (code_Stamp_runs N b2 t n t2 _ h6), (code_Stamp_runs N b2 t n t2 _ h6), (code_Stamp_runs N b2 t n t2 _ h6), (bytes_Equal_runs l_ l_ _ h7), (code_Stamp_runs N b2 t n t2 _ h6), (code_Stamp_runs N b2 t n t2 _ h6), (code_Stamp_runs N b2 t n t2 _ h6), (code_Stamp_runs N b2 t n t2 _ h6), (bytes_Equal_runs l_ l_ _ h7), (bytes_Equal_runs l_ l_ _ h7), (bytes_Equal_runs l_ l_ _ h7), (stamp_Same_runs N b2 t n t2 b2 t n t2 _ h8), h9, (code_ID_runs N b2 t _ h10), (code_ID_runs N b2 t _ h10), (code_ID_runs N b2 t _ h10), (code_ID_runs N b2 t _ h10), (code_ID_runs N b2 t _ h10), (code_ID_runs N b2 t _ h10), (code_ID_runs N b2 t _ h10), (code_ID_runs N b2 t _ h10), (bytes_Equal_runs l_2 l_2 _ h11), (code_ID_runs N b2 t _ h10), (code_ID_runs N b2 t _ h10), (code_ID_runs N b2 t _ h10), (code_ID_runs N b2 t _ h10), (bytes_Equal_runs l_2 l_2 _ h11), (bytes_Equal_runs l_2 l_2 _ h11), (bytes_Equal_runs l_2 l_2 _ h11), (id_Same_runs N b2 t b2 t _ h12), h13, (code_Event_runs N n t2 _ h14), (code_Event_runs N n t2 _ h14), (code_Event_runs N n t2 _ h14), (code_Event_runs N n t2 _ h14), (code_Event_runs N n t2 _ h14), (code_Event_runs N n t2 _ h14), (code_Event_runs N n t2 _ h14), (code_Event_runs N n t2 _ h14), (bytes_Equal_runs l_3 l_3 _ h15), (code_Event_runs N n t2 _ h14), (code_Event_runs N n t2 _ h14), (code_Event_runs N n t2 _ h14), (code_Event_runs N n t2 _ h14), (bytes_Equal_runs l_3 l_3 _ h15), (bytes_Equal_runs l_3 l_3 _ h15), (bytes_Equal_runs l_3 l_3 _ h15), (event_Same_runs N n t2 n t2 _ h16), trivial⟩)
          exact e_
        · have h := some_of h
          subst h
          have e_ := kinfolklaw07_CodeOnce_p1 p q r s same b b2 t n t2 t3 t4 b3 t5 n2 t6 t7 t8 l_ b4 b5 l_2 b6 b7
          have e_ := runs_of (objs := []) (Says.of2 e_ ⟨(kinfolklaw07_awake_runs N _ h1), (not_of2 h2), (kinfolklaw07_made_runs N p q _ h3), (kinfolklaw07_made_runs N r s _ h4), h5, (code_Stamp_runs N b2 t n t2 _ h6), (code_Stamp_runs N b2 t n t2 _ h6), (code_Stamp_runs N b2 t n t2 _ h6), (code_Stamp_runs N b2 t n t2 _ h6), (code_Stamp_runs N b2 t n t2 _ h6), (code_Stamp_runs N b2 t n t2 _ h6), (code_Stamp_runs N b2 t n t2 _ h6), (code_Stamp_runs N b2 t n t2 _ h6), (bytes_Equal_runs l_ l_ _ h7), (code_Stamp_runs N b2 t n t2 _ h6), (code_Stamp_runs N b2 t n t2 _ h6), (code_Stamp_runs N b2 t n t2 _ h6), (code_Stamp_runs N b2 t n t2 _ h6), (bytes_Equal_runs l_ l_ _ h7), (bytes_Equal_runs l_ l_ _ h7), (bytes_Equal_runs l_ l_ _ h7), (stamp_Same_runs N b2 t n t2 b2 t n t2 _ h8), h9, (code_ID_runs N b2 t _ h10), (code_ID_runs N b2 t _ h10), (code_ID_runs N b2 t _ h10), (code_ID_runs N b2 t _ h10), (code_ID_runs N b2 t _ h10), (code_ID_runs N b2 t _ h10), (code_ID_runs N b2 t _ h10), (code_ID_runs N b2 t _ h10), (bytes_Equal_runs l_2 l_2 _ h11), (code_ID_runs N b2 t _ h10), (code_ID_runs N b2 t _ h10), (code_ID_runs N b2 t _ h10), (code_ID_runs N b2 t _ h10), (bytes_Equal_runs l_2 l_2 _ h11), (bytes_Equal_runs l_2 l_2 _ h11), (bytes_Equal_runs l_2 l_2 _ h11), (id_Same_runs N b2 t b2 t _ h12), h13, trivial⟩)
          exact e_
      · have h := some_of h
        subst h
        have e_ := kinfolklaw07_CodeOnce_p2 p q r s same b b2 t n t2 t3 t4 b3 t5 n2 t6 t7 t8 l_ b4 b5
        have e_ := runs_of (objs := []) (Says.of2 e_ ⟨(kinfolklaw07_awake_runs N _ h1), (not_of2 h2), (kinfolklaw07_made_runs N p q _ h3), (kinfolklaw07_made_runs N r s _ h4), h5, (code_Stamp_runs N b2 t n t2 _ h6), (code_Stamp_runs N b2 t n t2 _ h6), (code_Stamp_runs N b2 t n t2 _ h6), (code_Stamp_runs N b2 t n t2 _ h6), (code_Stamp_runs N b2 t n t2 _ h6), (code_Stamp_runs N b2 t n t2 _ h6), (code_Stamp_runs N b2 t n t2 _ h6), (code_Stamp_runs N b2 t n t2 _ h6), (bytes_Equal_runs l_ l_ _ h7), (code_Stamp_runs N b2 t n t2 _ h6), (code_Stamp_runs N b2 t n t2 _ h6), (code_Stamp_runs N b2 t n t2 _ h6), (code_Stamp_runs N b2 t n t2 _ h6), (bytes_Equal_runs l_ l_ _ h7), (bytes_Equal_runs l_ l_ _ h7), (bytes_Equal_runs l_ l_ _ h7), (stamp_Same_runs N b2 t n t2 b2 t n t2 _ h8), h9, rfl, trivial⟩)
        exact e_
    · obtain ⟨l_, h6, h⟩ := bind_of h
      obtain ⟨l_2, h7, h⟩ := bind_of h
      obtain ⟨b4, h8, h⟩ := bind_of h
      obtain ⟨b5, h9, h⟩ := bind_of h
      rcases cond_of h with ⟨h10, h⟩ | ⟨h10, h⟩
      · obtain ⟨l_3, h11, h⟩ := bind_of h
        obtain ⟨l_4, h12, h⟩ := bind_of h
        obtain ⟨b6, h13, h⟩ := bind_of h
        obtain ⟨b7, h14, h⟩ := bind_of h
        rcases cond_of h with ⟨h15, h⟩ | ⟨h15, h⟩
        · obtain ⟨l_5, h16, h⟩ := bind_of h
          obtain ⟨l_6, h17, h⟩ := bind_of h
          obtain ⟨b8, h18, h⟩ := bind_of h
          obtain ⟨b9, h19, h⟩ := bind_of h
          have h := some_of h
          subst h
          have e_ := kinfolklaw07_CodeOnce_p3 p q r s same b b2 t n t2 t3 t4 b3 t5 n2 t6 t7 t8 l_ l_2 b4 b5 l_3 l_4 b6 b7 l_5 l_6 b8 b9
          have e_ := runs_of (objs := []) (Says.of2 e_ ⟨(kinfolklaw07_awake_runs N _ h1), (not_of2 h2), (kinfolklaw07_made_runs N p q _ h3), (kinfolklaw07_made_runs N r s _ h4), h5, (code_Stamp_runs N b2 t n t2 _ h6), (code_Stamp_runs N b2 t n t2 _ h6), (code_Stamp_runs N b2 t n t2 _ h6), (code_Stamp_runs N b2 t n t2 _ h6), (code_Stamp_runs N b2 t n t2 _ h6), (code_Stamp_runs N b2 t n t2 _ h6), (code_Stamp_runs N b2 t n t2 _ h6), (code_Stamp_runs N b3 t5 n2 t6 _ h7), (bytes_Equal_runs l_ l_2 _ h8), (code_Stamp_runs N b3 t5 n2 t6 _ h7), (code_Stamp_runs N b3 t5 n2 t6 _ h7), (code_Stamp_runs N b2 t n t2 _ h6), (code_Stamp_runs N b3 t5 n2 t6 _ h7), (bytes_Equal_runs l_ l_2 _ h8), (bytes_Equal_runs l_ l_2 _ h8), (bytes_Equal_runs l_ l_2 _ h8), (stamp_Same_runs N b2 t n t2 b3 t5 n2 t6 _ h9), h10, (code_ID_runs N b2 t _ h11), (code_ID_runs N b2 t _ h11), (code_ID_runs N b2 t _ h11), (code_ID_runs N b2 t _ h11), (code_ID_runs N b2 t _ h11), (code_ID_runs N b2 t _ h11), (code_ID_runs N b2 t _ h11), (code_ID_runs N b3 t5 _ h12), (bytes_Equal_runs l_3 l_4 _ h13), (code_ID_runs N b3 t5 _ h12), (code_ID_runs N b3 t5 _ h12), (code_ID_runs N b2 t _ h11), (code_ID_runs N b3 t5 _ h12), (bytes_Equal_runs l_3 l_4 _ h13), (bytes_Equal_runs l_3 l_4 _ h13), (bytes_Equal_runs l_3 l_4 _ h13), (id_Same_runs N b2 t b3 t5 _ h14), h15, (code_Event_runs N n t2 _ h16), (code_Event_runs N n t2 _ h16), (code_Event_runs N n t2 _ h16), (code_Event_runs N n t2 _ h16), (code_Event_runs N n t2 _ h16), (code_Event_runs N n t2 _ h16), (code_Event_runs N n t2 _ h16), (code_Event_runs N n2 t6 _ h17), (bytes_Equal_runs l_5 l_6 _ h18), (code_Event_runs N n2 t6 _ h17), (code_Event_runs N n2 t6 _ h17), (code_Event_runs N n t2 _ h16), (code_Event_runs N n2 t6 _ h17), (bytes_Equal_runs l_5 l_6 _ h18), (bytes_Equal_runs l_5 l_6 _ h18), (bytes_Equal_runs l_5 l_6 _ h18), (event_Same_runs N n t2 n2 t6 _ h19), trivial⟩)
          exact e_
        · have h := some_of h
          subst h
          have e_ := kinfolklaw07_CodeOnce_p4 p q r s same b b2 t n t2 t3 t4 b3 t5 n2 t6 t7 t8 l_ l_2 b4 b5 l_3 l_4 b6 b7
          have e_ := runs_of (objs := []) (Says.of2 e_ ⟨(kinfolklaw07_awake_runs N _ h1), (not_of2 h2), (kinfolklaw07_made_runs N p q _ h3), (kinfolklaw07_made_runs N r s _ h4), h5, (code_Stamp_runs N b2 t n t2 _ h6), (code_Stamp_runs N b2 t n t2 _ h6), (code_Stamp_runs N b2 t n t2 _ h6), (code_Stamp_runs N b2 t n t2 _ h6), (code_Stamp_runs N b2 t n t2 _ h6), (code_Stamp_runs N b2 t n t2 _ h6), (code_Stamp_runs N b2 t n t2 _ h6), (code_Stamp_runs N b3 t5 n2 t6 _ h7), (bytes_Equal_runs l_ l_2 _ h8), (code_Stamp_runs N b3 t5 n2 t6 _ h7), (code_Stamp_runs N b3 t5 n2 t6 _ h7), (code_Stamp_runs N b2 t n t2 _ h6), (code_Stamp_runs N b3 t5 n2 t6 _ h7), (bytes_Equal_runs l_ l_2 _ h8), (bytes_Equal_runs l_ l_2 _ h8), (bytes_Equal_runs l_ l_2 _ h8), (stamp_Same_runs N b2 t n t2 b3 t5 n2 t6 _ h9), h10, (code_ID_runs N b2 t _ h11), (code_ID_runs N b2 t _ h11), (code_ID_runs N b2 t _ h11), (code_ID_runs N b2 t _ h11), (code_ID_runs N b2 t _ h11), (code_ID_runs N b2 t _ h11), (code_ID_runs N b2 t _ h11), (code_ID_runs N b3 t5 _ h12), (bytes_Equal_runs l_3 l_4 _ h13), (code_ID_runs N b3 t5 _ h12), (code_ID_runs N b3 t5 _ h12), (code_ID_runs N b2 t _ h11), (code_ID_runs N b3 t5 _ h12), (bytes_Equal_runs l_3 l_4 _ h13), (bytes_Equal_runs l_3 l_4 _ h13), (bytes_Equal_runs l_3 l_4 _ h13), (id_Same_runs N b2 t b3 t5 _ h14), h15, trivial⟩)
          exact e_
      · have h := some_of h
        subst h
        have e_ := kinfolklaw07_CodeOnce_p5 p q r s same b b2 t n t2 t3 t4 b3 t5 n2 t6 t7 t8 l_ l_2 b4 b5
        have e_ := runs_of (objs := []) (Says.of2 e_ ⟨(kinfolklaw07_awake_runs N _ h1), (not_of2 h2), (kinfolklaw07_made_runs N p q _ h3), (kinfolklaw07_made_runs N r s _ h4), h5, (code_Stamp_runs N b2 t n t2 _ h6), (code_Stamp_runs N b2 t n t2 _ h6), (code_Stamp_runs N b2 t n t2 _ h6), (code_Stamp_runs N b2 t n t2 _ h6), (code_Stamp_runs N b2 t n t2 _ h6), (code_Stamp_runs N b2 t n t2 _ h6), (code_Stamp_runs N b2 t n t2 _ h6), (code_Stamp_runs N b3 t5 n2 t6 _ h7), (bytes_Equal_runs l_ l_2 _ h8), (code_Stamp_runs N b3 t5 n2 t6 _ h7), (code_Stamp_runs N b3 t5 n2 t6 _ h7), (code_Stamp_runs N b2 t n t2 _ h6), (code_Stamp_runs N b3 t5 n2 t6 _ h7), (bytes_Equal_runs l_ l_2 _ h8), (bytes_Equal_runs l_ l_2 _ h8), (bytes_Equal_runs l_ l_2 _ h8), (stamp_Same_runs N b2 t n t2 b3 t5 n2 t6 _ h9), h10, rfl, trivial⟩)
        exact e_
  · have h := some_of h
    subst h
    have e_ := kinfolklaw07_CodeOnce_p6 p q r s same b
    have e_ := runs_of (objs := []) (Says.of e_ ⟨(kinfolklaw07_awake_runs N _ h1), (not_of h2), trivial⟩)
    exact e_
/-! ### kinfolklaw07_CodeRows_out -/
def kinfolklaw07_CodeRows_out (p : List Int) (q : List Int) (r : List Int) (tail : Int) : Bool → Res
  | r1 => ([(.one (.pv (.bool r1)))], [], [])
/-! ### bits_NewReader_out -/
def bits_NewReader_out (p : List Int) : Unit → Res
  | _ => ([(.one (.ref 0 0))], [[(.pv (.ints .u8 p false)), (.pv (.int .i64 0)), (.pv (.int .i64 0))]], [])
/-! ### bits_NewReader -/
theorem bits_NewReader_p0 (p : List Int) : evFn Try.prog cfg (Runs Try.prog) (LRuns Try.prog (lEnv Try.prog cfg 19 0).nt 0) 19 [(.one (.pv (.ints .u8 p false)))] [] []
    [.res ([(.one (.pv (.ints .u8 p false)))], [], [])] =
  some (([(.one (.ref 0 0))], [[(.pv (.ints .u8 p false)), (.pv (.int .i64 0)), (.pv (.int .i64 0))]], []), obs [
    Runs Try.prog 50 [(.one (.pv (.ints .u8 p false)))] [] [] ([(.one (.pv (.ints .u8 p false)))], [], [])]) := by kernel_rfl
noncomputable def bits_NewReader (p : List Int) : Option (Unit) :=
  bif fits (p).length then
  some ()
  else none
theorem bits_NewReader_runs (p : List Int) (r_ : Unit) (h : bits_NewReader p = some r_) : Runs Try.prog 19 [(.one (.pv (.ints .u8 p false)))] [] [] (bits_NewReader_out p r_) := by
  unfold bits_NewReader at h
  obtain ⟨h1, h⟩ := need_of h
  have h := some_of h
  subst h
  have e_ := bits_NewReader_p0 p
  have e_ := runs_of (objs := []) (Says.of e_ ⟨(bytes_Clone_runs h1), trivial⟩)
  exact e_
/-! ### code_GetEvent_out -/
def code_GetEvent_out (l : List Int) (n : Int) (n2 : Int) : Int × T_event_halves × Int × Int × Int → Res
  | (r1, r2, r3, r4, r5) => ([(.agg [(.pv (.int .u64 r1)), (.pv (T_event_halves.pv r2))]), (.one (.pv (.int .i64 r3)))], [[(.pv (.ints .u8 l false)), (.pv (.int .i64 r4)), (.pv (.int .i64 r5))]], [])
/-! ### code_source_bit_out -/
def code_source_bit_out (k : Int) (n : Int) (l : List Int) (n2 : Int) (n3 : Int) : Int × Int × Int × Int → Res
  | (r1, r2, r3, r4) => ([(.one (.pv (.int .u64 r1)))], [[(.ref 1 0), (.pv (.int .i64 r2))], [(.pv (.ints .u8 l false)), (.pv (.int .i64 r3)), (.pv (.int .i64 r4))]], [])
/-! ### code_source_ok_out -/
def code_source_ok_out (n : Int) (l : List Int) (n2 : Int) (n3 : Int) : Bool × Int → Res
  | (r1, r2) => ([(.one (.pv (.bool r1)))], [[(.ref 1 0), (.pv (.int .i64 r2))], [(.pv (.ints .u8 l false)), (.pv (.int .i64 n2)), (.pv (.int .i64 n3))]], [])
/-! ### bits_Reader_Err_out -/
def bits_Reader_Err_out (l : List Int) (n : Int) (n2 : Int) : Unit → Res
  | _ => ([(.one (.pv (.int .i64 n2)))], [[(.pv (.ints .u8 l false)), (.pv (.int .i64 n)), (.pv (.int .i64 n2))]], [])
/-! ### bits_Reader_Err -/
theorem bits_Reader_Err_p0 (l : List Int) (n : Int) (n2 : Int) : evFn Try.prog cfg (Runs Try.prog) (LRuns Try.prog (lEnv Try.prog cfg 54 1).nt 1) 54 [(.one (.ref 0 0))] [[(.pv (.ints .u8 l false)), (.pv (.int .i64 n)), (.pv (.int .i64 n2))]] []
    [.br false] =
  some (([(.one (.pv (.int .i64 n2)))], [[(.pv (.ints .u8 l false)), (.pv (.int .i64 n)), (.pv (.int .i64 n2))]], []), obs [
    false = false]) := by kernel_rfl
noncomputable def bits_Reader_Err (l : List Int) (n : Int) (n2 : Int) : Option (Unit) :=
  some ()
theorem bits_Reader_Err_runs (l : List Int) (n : Int) (n2 : Int) (r_ : Unit) (h : bits_Reader_Err l n n2 = some r_) : Runs Try.prog 54 [(.one (.ref 0 0))] [[(.pv (.ints .u8 l false)), (.pv (.int .i64 n)), (.pv (.int .i64 n2))]] [] (bits_Reader_Err_out l n n2 r_) := by
  unfold bits_Reader_Err at h
  have h := some_of h
  subst h
  have e_ := bits_Reader_Err_p0 l n n2
  have e_ := runs_of (objs := [[(.pv (.ints .u8 l false)), (.pv (.int .i64 n)), (.pv (.int .i64 n2))]]) (Says.of e_ ⟨rfl, trivial⟩)
  exact e_
/-! ### code_source_fail_out -/
def code_source_fail_out (e : Int) (n : Int) (l : List Int) (n2 : Int) (n3 : Int) : Int → Res
  | r1 => ([], [[(.ref 1 0), (.pv (.int .i64 r1))], [(.pv (.ints .u8 l false)), (.pv (.int .i64 n2)), (.pv (.int .i64 n3))]], [])
/-! ### code_source_fail -/
theorem code_source_fail_p0 (e : Int) (n : Int) (l : List Int) (n2 : Int) (n3 : Int) : evFn Try.prog cfg (Runs Try.prog) (LRuns Try.prog (lEnv Try.prog cfg 74 2).nt 2) 74 [(.one (.ref 0 0)), (.one (.pv (.int .i64 e)))] [[(.ref 1 0), (.pv (.int .i64 n))], [(.pv (.ints .u8 l false)), (.pv (.int .i64 n2)), (.pv (.int .i64 n3))]] []
    [.br true] =
  some (([], [[(.ref 1 0), (.pv (.int .i64 e))], [(.pv (.ints .u8 l false)), (.pv (.int .i64 n2)), (.pv (.int .i64 n3))]], []), obs [
    (decide ((n : Int) = 0)) = true]) := by kernel_rfl
theorem code_source_fail_p1 (e : Int) (n : Int) (l : List Int) (n2 : Int) (n3 : Int) : evFn Try.prog cfg (Runs Try.prog) (LRuns Try.prog (lEnv Try.prog cfg 74 2).nt 2) 74 [(.one (.ref 0 0)), (.one (.pv (.int .i64 e)))] [[(.ref 1 0), (.pv (.int .i64 n))], [(.pv (.ints .u8 l false)), (.pv (.int .i64 n2)), (.pv (.int .i64 n3))]] []
    [.br false] =
  some (([], [[(.ref 1 0), (.pv (.int .i64 n))], [(.pv (.ints .u8 l false)), (.pv (.int .i64 n2)), (.pv (.int .i64 n3))]], []), obs [
    (decide ((n : Int) = 0)) = false]) := by kernel_rfl
noncomputable def code_source_fail (e : Int) (n : Int) (l : List Int) (n2 : Int) (n3 : Int) : Option (Int) :=
  bif (decide ((n : Int) = 0)) then
    some e
  else
    some n
theorem code_source_fail_runs (e : Int) (n : Int) (l : List Int) (n2 : Int) (n3 : Int) (r_ : Int) (h : code_source_fail e n l n2 n3 = some r_) : Runs Try.prog 74 [(.one (.ref 0 0)), (.one (.pv (.int .i64 e)))] [[(.ref 1 0), (.pv (.int .i64 n))], [(.pv (.ints .u8 l false)), (.pv (.int .i64 n2)), (.pv (.int .i64 n3))]] [] (code_source_fail_out e n l n2 n3 r_) := by
  unfold code_source_fail at h
  rcases cond_of h with ⟨h1, h⟩ | ⟨h1, h⟩
  · have h := some_of h
    subst h
    have e_ := code_source_fail_p0 e n l n2 n3
    have e_ := runs_of (objs := [[(.ref 1 0), (.pv (.int .i64 n))], [(.pv (.ints .u8 l false)), (.pv (.int .i64 n2)), (.pv (.int .i64 n3))]]) (Says.of e_ ⟨h1, trivial⟩)
    exact e_
  · have h := some_of h
    subst h
    have e_ := code_source_fail_p1 e n l n2 n3
    have e_ := runs_of (objs := [[(.ref 1 0), (.pv (.int .i64 n))], [(.pv (.ints .u8 l false)), (.pv (.int .i64 n2)), (.pv (.int .i64 n3))]]) (Says.of e_ ⟨h1, trivial⟩)
    exact e_
/-! ### code_source_ok -/
theorem code_source_ok_p0 (n : Int) (l : List Int) (n2 : Int) (n3 : Int) : evFn Try.prog cfg (Runs Try.prog) (LRuns Try.prog (lEnv Try.prog cfg 76 2).nt 2) 76 [(.one (.ref 0 0))] [[(.ref 1 0), (.pv (.int .i64 n))], [(.pv (.ints .u8 l false)), (.pv (.int .i64 n2)), (.pv (.int .i64 n3))]] []
    [.res ([(.one (.pv (.int .i64 n3)))], [[(.pv (.ints .u8 l false)), (.pv (.int .i64 n2)), (.pv (.int .i64 n3))]], []), .br false] =
  some (([(.one (.pv (.bool (decide ((n : Int) = 0)))))], [[(.ref 1 0), (.pv (.int .i64 n))], [(.pv (.ints .u8 l false)), (.pv (.int .i64 n2)), (.pv (.int .i64 n3))]], []), obs [
    Runs Try.prog 54 [(.one (.ref 0 0))] [[(.pv (.ints .u8 l false)), (.pv (.int .i64 n2)), (.pv (.int .i64 n3))]] [] ([(.one (.pv (.int .i64 n3)))], [[(.pv (.ints .u8 l false)), (.pv (.int .i64 n2)), (.pv (.int .i64 n3))]], []),
    (!(decide ((n3 : Int) = 0))) = false]) := by kernel_rfl
theorem code_source_ok_p1 (n : Int) (l : List Int) (n2 : Int) (n3 : Int) (n4 : Int) : evFn Try.prog cfg (Runs Try.prog) (LRuns Try.prog (lEnv Try.prog cfg 76 2).nt 2) 76 [(.one (.ref 0 0))] [[(.ref 1 0), (.pv (.int .i64 n))], [(.pv (.ints .u8 l false)), (.pv (.int .i64 n2)), (.pv (.int .i64 n3))]] []
    [.res ([(.one (.pv (.int .i64 n3)))], [[(.pv (.ints .u8 l false)), (.pv (.int .i64 n2)), (.pv (.int .i64 n3))]], []), .br true, .res ([], [[(.ref 1 0), (.pv (.int .i64 n4))], [(.pv (.ints .u8 l false)), (.pv (.int .i64 n2)), (.pv (.int .i64 n3))]], [])] =
  some (([(.one (.pv (.bool (decide ((n4 : Int) = 0)))))], [[(.ref 1 0), (.pv (.int .i64 n4))], [(.pv (.ints .u8 l false)), (.pv (.int .i64 n2)), (.pv (.int .i64 n3))]], []), obs [
    Runs Try.prog 54 [(.one (.ref 0 0))] [[(.pv (.ints .u8 l false)), (.pv (.int .i64 n2)), (.pv (.int .i64 n3))]] [] ([(.one (.pv (.int .i64 n3)))], [[(.pv (.ints .u8 l false)), (.pv (.int .i64 n2)), (.pv (.int .i64 n3))]], []),
    (!(decide ((n3 : Int) = 0))) = true,
    Runs Try.prog 74 [(.one (.ref 0 0)), (.one (.pv (.int .i64 6)))] [[(.ref 1 0), (.pv (.int .i64 n))], [(.pv (.ints .u8 l false)), (.pv (.int .i64 n2)), (.pv (.int .i64 n3))]] [] ([], [[(.ref 1 0), (.pv (.int .i64 n4))], [(.pv (.ints .u8 l false)), (.pv (.int .i64 n2)), (.pv (.int .i64 n3))]], [])]) := by kernel_rfl
noncomputable def code_source_ok (n : Int) (l : List Int) (n2 : Int) (n3 : Int) : Option (Bool × Int) :=
  (bits_Reader_Err l n2 n3).bind fun _ =>
  bif (decide ((n3 : Int) = 0)) then
    some ((decide ((n : Int) = 0)), n)
  else
    (code_source_fail 6 n l n2 n3).bind fun n4 =>
    some ((decide ((n4 : Int) = 0)), n4)
theorem code_source_ok_runs (n : Int) (l : List Int) (n2 : Int) (n3 : Int) (r_ : Bool × Int) (h : code_source_ok n l n2 n3 = some r_) : Runs Try.prog 76 [(.one (.ref 0 0))] [[(.ref 1 0), (.pv (.int .i64 n))], [(.pv (.ints .u8 l false)), (.pv (.int .i64 n2)), (.pv (.int .i64 n3))]] [] (code_source_ok_out n l n2 n3 r_) := by
  unfold code_source_ok at h
  obtain ⟨_, h1, h⟩ := bind_of h
  rcases cond_of h with ⟨h2, h⟩ | ⟨h2, h⟩
  · have h := some_of h
    subst h
    have e_ := code_source_ok_p0 n l n2 n3
    have e_ := runs_of (objs := [[(.ref 1 0), (.pv (.int .i64 n))], [(.pv (.ints .u8 l false)), (.pv (.int .i64 n2)), (.pv (.int .i64 n3))]]) (Says.of e_ ⟨(bits_Reader_Err_runs l n2 n3 _ h1), (not_of2 h2), trivial⟩)
    exact e_
  · obtain ⟨n4, h3, h⟩ := bind_of h
    have h := some_of h
    subst h
    have e_ := code_source_ok_p1 n l n2 n3 n4
    have e_ := runs_of (objs := [[(.ref 1 0), (.pv (.int .i64 n))], [(.pv (.ints .u8 l false)), (.pv (.int .i64 n2)), (.pv (.int .i64 n3))]]) (Says.of e_ ⟨(bits_Reader_Err_runs l n2 n3 _ h1), (not_of h2), (code_source_fail_runs 6 n l n2 n3 _ h3), trivial⟩)
    exact e_
/-! ### bits_Reader_Get_out -/
def bits_Reader_Get_out (k : Int) (l : List Int) (n : Int) (n2 : Int) : Int × Int × Int → Res
  | (r1, r2, r3) => ([(.one (.pv (.int .u64 r1)))], [[(.pv (.ints .u8 l false)), (.pv (.int .i64 r2)), (.pv (.int .i64 r3))]], [])
/-! ### bits_Reader_Left_out -/
def bits_Reader_Left_out (l : List Int) (n : Int) (n2 : Int) : Int → Res
  | r1 => ([(.one (.pv (.int .i64 r1)))], [[(.pv (.ints .u8 l false)), (.pv (.int .i64 n)), (.pv (.int .i64 n2))]], [])
/-! ### bits_Reader_Left -/
theorem bits_Reader_Left_p0 (l : List Int) (n : Int) (n2 : Int) : both (evFn Try.prog cfg (Runs Try.prog) (LRuns Try.prog (lEnv Try.prog cfg 55 1).nt 1) 55 [(.one (.ref 0 0))] [[(.pv (.ints .u8 l false)), (.pv (.int .i64 n)), (.pv (.int .i64 n2))]] []
    [.br false]) (([(.one (.pv (.int .i64 (isub .i64 (imul .i64 8 ((l).length : Int)) n))))], [[(.pv (.ints .u8 l false)), (.pv (.int .i64 n)), (.pv (.int .i64 n2))]], [])) [
    false = false] := ⟨by kernel_rfl, by kernel_rfl⟩
noncomputable def bits_Reader_Left (l : List Int) (n : Int) (n2 : Int) : Option (Int) :=
  some (isub .i64 (imul .i64 8 ((l).length : Int)) n)
theorem bits_Reader_Left_runs (l : List Int) (n : Int) (n2 : Int) (r_ : Int) (h : bits_Reader_Left l n n2 = some r_) : Runs Try.prog 55 [(.one (.ref 0 0))] [[(.pv (.ints .u8 l false)), (.pv (.int .i64 n)), (.pv (.int .i64 n2))]] [] (bits_Reader_Left_out l n n2 r_) := by
  unfold bits_Reader_Left at h
  have h := some_of h
  subst h
  have e_ := bits_Reader_Left_p0 l n n2
  have e_ := runs_of (objs := [[(.pv (.ints .u8 l false)), (.pv (.int .i64 n)), (.pv (.int .i64 n2))]]) (Says.of2 e_ ⟨rfl, trivial⟩)
  exact e_
/-! ### bits_Reader_fail_out -/
def bits_Reader_fail_out (l : List Int) (n : Int) (n2 : Int) : Int → Res
  | r1 => ([(.one (.pv (.int .u64 0)))], [[(.pv (.ints .u8 l false)), (.pv (.int .i64 n)), (.pv (.int .i64 r1))]], [])
/-! ### bits_Reader_fail -/
theorem bits_Reader_fail_p0 (l : List Int) (n : Int) (n2 : Int) : evFn Try.prog cfg (Runs Try.prog) (LRuns Try.prog (lEnv Try.prog cfg 56 1).nt 1) 56 [(.one (.ref 0 0))] [[(.pv (.ints .u8 l false)), (.pv (.int .i64 n)), (.pv (.int .i64 n2))]] []
    [.br true, .br true] =
  some (([(.one (.pv (.int .u64 0)))], [[(.pv (.ints .u8 l false)), (.pv (.int .i64 n)), (.pv (.int .i64 6))]], []), obs [
    true = true,
    (decide ((n2 : Int) = 0)) = true]) := by kernel_rfl
theorem bits_Reader_fail_p1 (l : List Int) (n : Int) (n2 : Int) : evFn Try.prog cfg (Runs Try.prog) (LRuns Try.prog (lEnv Try.prog cfg 56 1).nt 1) 56 [(.one (.ref 0 0))] [[(.pv (.ints .u8 l false)), (.pv (.int .i64 n)), (.pv (.int .i64 n2))]] []
    [.br true, .br false] =
  some (([(.one (.pv (.int .u64 0)))], [[(.pv (.ints .u8 l false)), (.pv (.int .i64 n)), (.pv (.int .i64 n2))]], []), obs [
    true = true,
    (decide ((n2 : Int) = 0)) = false]) := by kernel_rfl
noncomputable def bits_Reader_fail (l : List Int) (n : Int) (n2 : Int) : Option (Int) :=
  bif (decide ((n2 : Int) = 0)) then
    some 6
  else
    some n2
theorem bits_Reader_fail_runs (l : List Int) (n : Int) (n2 : Int) (r_ : Int) (h : bits_Reader_fail l n n2 = some r_) : Runs Try.prog 56 [(.one (.ref 0 0))] [[(.pv (.ints .u8 l false)), (.pv (.int .i64 n)), (.pv (.int .i64 n2))]] [] (bits_Reader_fail_out l n n2 r_) := by
  unfold bits_Reader_fail at h
  rcases cond_of h with ⟨h1, h⟩ | ⟨h1, h⟩
  · have h := some_of h
    subst h
    have e_ := bits_Reader_fail_p0 l n n2
    have e_ := runs_of (objs := [[(.pv (.ints .u8 l false)), (.pv (.int .i64 n)), (.pv (.int .i64 n2))]]) (Says.of e_ ⟨rfl, h1, trivial⟩)
    exact e_
  · have h := some_of h
    subst h
    have e_ := bits_Reader_fail_p1 l n n2
    have e_ := runs_of (objs := [[(.pv (.ints .u8 l false)), (.pv (.int .i64 n)), (.pv (.int .i64 n2))]]) (Says.of e_ ⟨rfl, h1, trivial⟩)
    exact e_
/-! ### bits_Reader_Get_L0 -/
def bits_Reader_Get_L0_st (n : Int) (l : List Int) (n3 : Int) : Int × Int × Int → St
  | (n4, n5, n2) => ⟨[(0, (.av (.one (.ref 0 0)))), (5, (.av (.one (.pv (.int .u64 n4))))), (20, (.av (.one (.pv (.int .i64 n))))), (21, (.av (.one (.pv (.int .i64 n5)))))], [(0, [(.pv (.ints .u8 l false)), (.pv (.int .i64 n2)), (.pv (.int .i64 n3))])], []⟩
def bits_Reader_Get_L0_ex (n : Int) (l : List Int) (n3 : Int) : Int × Int → Ex × St
  | (r1, r2) => ((.exit 0), ⟨[(5, (.av (.one (.pv (.int .u64 r1)))))], [(0, [(.pv (.ints .u8 l false)), (.pv (.int .i64 r2)), (.pv (.int .i64 n3))])], []⟩)
theorem bits_Reader_Get_L0_q0_0 (n : Int) (l : List Int) (n3 : Int) (n4 : Int) (n5 : Int) (n2 : Int) : both (evRound (lEnv Try.prog cfg 23 1) (loopAt Try.prog 23 0) ⟨[(0, (.av (.one (.ref 0 0)))), (5, (.av (.one (.pv (.int .u64 n4))))), (20, (.av (.one (.pv (.int .i64 n))))), (21, (.av (.one (.pv (.int .i64 n5)))))], [(0, [(.pv (.ints .u8 l false)), (.pv (.int .i64 n2)), (.pv (.int .i64 n3))])], []⟩
    [.br true]) ((.normal, ⟨[(0, (.av (.one (.ref 0 0)))), (5, (.av (.one (.pv (.int .u64 (ior .u64 (ishl .u64 n4 1) (IntKind.u64.wrap (iand .u8 (ishr .u8 (l.getD ((iquo .i64 n2 8)).toNat 0) (isub .i64 7 (irem .i64 n2 8))) 1)))))))), (20, (.av (.one (.pv (.int .i64 n))))), (21, (.av (.one (.pv (.int .i64 (iadd .i64 n5 1))))))], [(0, [(.pv (.ints .u8 l false)), (.pv (.int .i64 (iadd .i64 n2 1))), (.pv (.int .i64 n3))])], []⟩)) [
    (decide ((n5 : Int) < n)) = true,
    true = true,
    true = true,
    true = true,
    true = true,
    true = true,
    (decide ((0 : Int) ≤ (iquo .i64 n2 8)) && decide (((iquo .i64 n2 8) : Int) < ((l).length : Int))) = true,
    true = true,
    true = true,
    true = true,
    (decide ((0 : Int) ≤ (iquo .i64 n2 8)) && decide (((iquo .i64 n2 8) : Int) < ((l).length : Int))) = true,
    (decide ((0 : Int) ≤ (isub .i64 7 (irem .i64 n2 8)))) = true,
    true = true] := ⟨by kernel_rfl, by kernel_rfl⟩
theorem bits_Reader_Get_L0_q0_1 (n : Int) (l : List Int) (n3 : Int) (n4 : Int) (n5 : Int) (n2 : Int) : evRound (lEnv Try.prog cfg 23 1) (loopAt Try.prog 23 0) ⟨[(0, (.av (.one (.ref 0 0)))), (5, (.av (.one (.pv (.int .u64 n4))))), (20, (.av (.one (.pv (.int .i64 n))))), (21, (.av (.one (.pv (.int .i64 n5)))))], [(0, [(.pv (.ints .u8 l false)), (.pv (.int .i64 n2)), (.pv (.int .i64 n3))])], []⟩
    [.br false] =
  some (((.exit 0), ⟨[(22, (.av (.one (.pv (.bool false))))), (0, (.av (.one (.ref 0 0)))), (5, (.av (.one (.pv (.int .u64 n4))))), (20, (.av (.one (.pv (.int .i64 n))))), (21, (.av (.one (.pv (.int .i64 n5))))), (22, (.av (.one (.pv (.bool (decide ((n5 : Int) < n)))))))], [(0, [(.pv (.ints .u8 l false)), (.pv (.int .i64 n2)), (.pv (.int .i64 n3))])], []⟩), obs [
    (decide ((n5 : Int) < n)) = false]) := by kernel_rfl
noncomputable def bits_Reader_Get_L0_step (n : Int) (l : List Int) (n3 : Int) : Int × Int × Int → Option ((Int × Int × Int) ⊕ (Int × Int))
  | (n4, n5, n2) =>
  bif (decide ((n5 : Int) < n)) then
    bif decide ((0 : Int) ≤ (iquo .i64 n2 8)) && decide (((iquo .i64 n2 8) : Int) < ((l).length : Int)) then
    bif decide ((0 : Int) ≤ (isub .i64 7 (irem .i64 n2 8))) then
    some (.inl ((ior .u64 (ishl .u64 n4 1) (IntKind.u64.wrap (iand .u8 (ishr .u8 (l.getD ((iquo .i64 n2 8)).toNat 0) (isub .i64 7 (irem .i64 n2 8))) 1))), (iadd .i64 n5 1), (iadd .i64 n2 1)))
    else none
    else none
  else
    some (.inr (n4, n2))
theorem bits_Reader_Get_L0_ok (n : Int) (l : List Int) (n3 : Int) (s_ : Int × Int × Int) (z_ : (Int × Int × Int) ⊕ (Int × Int)) (h : bits_Reader_Get_L0_step n l n3 s_ = some z_) : RoundOk Try.prog cfg 23 1 (loopAt Try.prog 23 0) (bits_Reader_Get_L0_st n l n3) (bits_Reader_Get_L0_ex n l n3) s_ z_ := by
  rcases s_ with ⟨n4, n5, n2⟩
  rcases cond_of h with ⟨h1, h⟩ | ⟨h1, h⟩
  · obtain ⟨h2, h⟩ := need_of h
    obtain ⟨h3, h⟩ := need_of h
    have h := some_of h
    subst h
    have e_ := bits_Reader_Get_L0_q0_0 n l n3 n4 n5 n2
    have e_ := Says.of2 e_ ⟨h1, rfl, rfl, rfl, rfl, rfl, h2, rfl, rfl, rfl, h2, h3, rfl, trivial⟩
    exact ⟨_, _, e_, ⟨⟨⟨_, rfl, .eq rfl⟩, ⟨_, rfl, .eq rfl⟩, ⟨_, rfl, .eq rfl⟩, ⟨_, rfl, .eq rfl⟩, trivial⟩, ⟨⟨rfl, ⟨.eq rfl, .eq rfl, .eq rfl, trivial⟩⟩, trivial⟩, trivial⟩⟩
  · have h := some_of h
    subst h
    have e_ := bits_Reader_Get_L0_q0_1 n l n3 n4 n5 n2
    have e_ := Says.of e_ ⟨h1, trivial⟩
    exact ⟨_, _, e_, ⟨⟨⟨_, rfl, .eq rfl⟩, trivial⟩, ⟨⟨rfl, ⟨.eq rfl, .eq rfl, .eq rfl, trivial⟩⟩, trivial⟩, trivial⟩⟩
theorem bits_Reader_Get_L0_runs (n : Int) (l : List Int) (n3 : Int) (s_ : Int × Int × Int) (r_ : Int × Int) (h : runL (bits_Reader_Get_L0_step n l n3) s_ = some r_) : LRuns Try.prog (lEnv Try.prog cfg 23 1).nt 1 (.loop (loopAt Try.prog 23 0)) (bits_Reader_Get_L0_st n l n3 s_) (bits_Reader_Get_L0_ex n l n3 r_).1 (bits_Reader_Get_L0_ex n l n3 r_).2 :=
  loop_run h (bits_Reader_Get_L0_ok n l n3) (by intro r_; rcases r_ with ⟨r1, r2⟩ <;> simp [bits_Reader_Get_L0_ex])
/-! ### bits_Reader_Get -/
theorem bits_Reader_Get_p0 (k : Int) (l : List Int) (n : Int) (n2 : Int) (n3 : Int) (n4 : Int) (n5 : Int) : evFn Try.prog cfg (Runs Try.prog) (LRuns Try.prog (lEnv Try.prog cfg 23 1).nt 1) 23 [(.one (.ref 0 0)), (.one (.pv (.int .i64 k)))] [[(.pv (.ints .u8 l false)), (.pv (.int .i64 n)), (.pv (.int .i64 n2))]] []
    [.res ([(.one (.pv (.int .i64 n3)))], [], []), .res ([(.one (.pv (.int .i64 n2)))], [[(.pv (.ints .u8 l false)), (.pv (.int .i64 n)), (.pv (.int .i64 n2))]], []), .br false, .res ([(.one (.pv (.int .i64 n4)))], [[(.pv (.ints .u8 l false)), (.pv (.int .i64 n)), (.pv (.int .i64 n2))]], []), .br true, .res ([(.one (.pv (.int .u64 0)))], [[(.pv (.ints .u8 l false)), (.pv (.int .i64 n)), (.pv (.int .i64 n5))]], [])] =
  some (([(.one (.pv (.int .u64 0)))], [[(.pv (.ints .u8 l false)), (.pv (.int .i64 n)), (.pv (.int .i64 n5))]], []), obs [
    Runs Try.prog 49 [(.one (.pv (.int .i64 k)))] [] [] ([(.one (.pv (.int .i64 n3)))], [], []),
    Runs Try.prog 54 [(.one (.ref 0 0))] [[(.pv (.ints .u8 l false)), (.pv (.int .i64 n)), (.pv (.int .i64 n2))]] [] ([(.one (.pv (.int .i64 n2)))], [[(.pv (.ints .u8 l false)), (.pv (.int .i64 n)), (.pv (.int .i64 n2))]], []),
    (!(decide ((n2 : Int) = 0))) = false,
    Runs Try.prog 55 [(.one (.ref 0 0))] [[(.pv (.ints .u8 l false)), (.pv (.int .i64 n)), (.pv (.int .i64 n2))]] [] ([(.one (.pv (.int .i64 n4)))], [[(.pv (.ints .u8 l false)), (.pv (.int .i64 n)), (.pv (.int .i64 n2))]], []),
    (decide ((n4 : Int) < n3)) = true,
    Runs Try.prog 56 [(.one (.ref 0 0))] [[(.pv (.ints .u8 l false)), (.pv (.int .i64 n)), (.pv (.int .i64 n2))]] [] ([(.one (.pv (.int .u64 0)))], [[(.pv (.ints .u8 l false)), (.pv (.int .i64 n)), (.pv (.int .i64 n5))]], [])]) := by kernel_rfl
theorem bits_Reader_Get_p1 (k : Int) (l : List Int) (n : Int) (n2 : Int) (n3 : Int) (n4 : Int) (n5 : Int) (n6 : Int) : evFn Try.prog cfg (Runs Try.prog) (LRuns Try.prog (lEnv Try.prog cfg 23 1).nt 1) 23 [(.one (.ref 0 0)), (.one (.pv (.int .i64 k)))] [[(.pv (.ints .u8 l false)), (.pv (.int .i64 n)), (.pv (.int .i64 n2))]] []
    [.res ([(.one (.pv (.int .i64 n3)))], [], []), .res ([(.one (.pv (.int .i64 n2)))], [[(.pv (.ints .u8 l false)), (.pv (.int .i64 n)), (.pv (.int .i64 n2))]], []), .br false, .res ([(.one (.pv (.int .i64 n4)))], [[(.pv (.ints .u8 l false)), (.pv (.int .i64 n)), (.pv (.int .i64 n2))]], []), .br false, .lp (.exit 0) ⟨[(5, (.av (.one (.pv (.int .u64 n5)))))], [(0, [(.pv (.ints .u8 l false)), (.pv (.int .i64 n6)), (.pv (.int .i64 n2))])], []⟩] =
  some (([(.one (.pv (.int .u64 n5)))], [[(.pv (.ints .u8 l false)), (.pv (.int .i64 n6)), (.pv (.int .i64 n2))]], []), obs [
    Runs Try.prog 49 [(.one (.pv (.int .i64 k)))] [] [] ([(.one (.pv (.int .i64 n3)))], [], []),
    Runs Try.prog 54 [(.one (.ref 0 0))] [[(.pv (.ints .u8 l false)), (.pv (.int .i64 n)), (.pv (.int .i64 n2))]] [] ([(.one (.pv (.int .i64 n2)))], [[(.pv (.ints .u8 l false)), (.pv (.int .i64 n)), (.pv (.int .i64 n2))]], []),
    (!(decide ((n2 : Int) = 0))) = false,
    Runs Try.prog 55 [(.one (.ref 0 0))] [[(.pv (.ints .u8 l false)), (.pv (.int .i64 n)), (.pv (.int .i64 n2))]] [] ([(.one (.pv (.int .i64 n4)))], [[(.pv (.ints .u8 l false)), (.pv (.int .i64 n)), (.pv (.int .i64 n2))]], []),
    (decide ((n4 : Int) < n3)) = false,
    LRuns Try.prog (lEnv Try.prog cfg 23 1).nt 1 (.loop (loopAt Try.prog 23 0)) ⟨[(0, (.av (.one (.ref 0 0)))), (5, (.av (.one (.pv (.int .u64 0))))), (20, (.av (.one (.pv (.int .i64 n3))))), (21, (.av (.one (.pv (.int .i64 0)))))], [(0, [(.pv (.ints .u8 l false)), (.pv (.int .i64 n)), (.pv (.int .i64 n2))])], []⟩ (.exit 0) ⟨[(5, (.av (.one (.pv (.int .u64 n5)))))], [(0, [(.pv (.ints .u8 l false)), (.pv (.int .i64 n6)), (.pv (.int .i64 n2))])], []⟩]) := by kernel_rfl
theorem bits_Reader_Get_p2 (k : Int) (l : List Int) (n : Int) (n2 : Int) (n3 : Int) (n4 : Int) : evFn Try.prog cfg (Runs Try.prog) (LRuns Try.prog (lEnv Try.prog cfg 23 1).nt 1) 23 [(.one (.ref 0 0)), (.one (.pv (.int .i64 k)))] [[(.pv (.ints .u8 l false)), (.pv (.int .i64 n)), (.pv (.int .i64 n2))]] []
    [.res ([(.one (.pv (.int .i64 n3)))], [], []), .res ([(.one (.pv (.int .i64 n2)))], [[(.pv (.ints .u8 l false)), (.pv (.int .i64 n)), (.pv (.int .i64 n2))]], []), .br true, .br true, .res ([(.one (.pv (.int .u64 0)))], [[(.pv (.ints .u8 l false)), (.pv (.int .i64 n)), (.pv (.int .i64 n4))]], [])] =
  some (([(.one (.pv (.int .u64 0)))], [[(.pv (.ints .u8 l false)), (.pv (.int .i64 n)), (.pv (.int .i64 n4))]], []), obs [
    Runs Try.prog 49 [(.one (.pv (.int .i64 k)))] [] [] ([(.one (.pv (.int .i64 n3)))], [], []),
    Runs Try.prog 54 [(.one (.ref 0 0))] [[(.pv (.ints .u8 l false)), (.pv (.int .i64 n)), (.pv (.int .i64 n2))]] [] ([(.one (.pv (.int .i64 n2)))], [[(.pv (.ints .u8 l false)), (.pv (.int .i64 n)), (.pv (.int .i64 n2))]], []),
    (!(decide ((n2 : Int) = 0))) = true,
    true = true,
    Runs Try.prog 56 [(.one (.ref 0 0))] [[(.pv (.ints .u8 l false)), (.pv (.int .i64 n)), (.pv (.int .i64 n2))]] [] ([(.one (.pv (.int .u64 0)))], [[(.pv (.ints .u8 l false)), (.pv (.int .i64 n)), (.pv (.int .i64 n4))]], [])]) := by kernel_rfl
noncomputable def bits_Reader_Get (k : Int) (l : List Int) (n : Int) (n2 : Int) : Option (Int × Int × Int) :=
  (bits_within k).bind fun n3 =>
  (bits_Reader_Err l n n2).bind fun _ =>
  bif (decide ((n2 : Int) = 0)) then
    (bits_Reader_Left l n n2).bind fun n4 =>
    bif (decide ((n4 : Int) < n3)) then
      (bits_Reader_fail l n n2).bind fun n5 =>
      some (0, n, n5)
    else
      (runL (bits_Reader_Get_L0_step n3 l n2) (0, 0, n)).bind fun (n5, n6) =>
      some (n5, n6, n2)
  else
    (bits_Reader_fail l n n2).bind fun n4 =>
    some (0, n, n4)
theorem bits_Reader_Get_runs (k : Int) (l : List Int) (n : Int) (n2 : Int) (r_ : Int × Int × Int) (h : bits_Reader_Get k l n n2 = some r_) : Runs Try.prog 23 [(.one (.ref 0 0)), (.one (.pv (.int .i64 k)))] [[(.pv (.ints .u8 l false)), (.pv (.int .i64 n)), (.pv (.int .i64 n2))]] [] (bits_Reader_Get_out k l n n2 r_) := by
  unfold bits_Reader_Get at h
  obtain ⟨n3, h1, h⟩ := bind_of h
  obtain ⟨_, h2, h⟩ := bind_of h
  rcases cond_of h with ⟨h3, h⟩ | ⟨h3, h⟩
  · obtain ⟨n4, h4, h⟩ := bind_of h
    rcases cond_of h with ⟨h5, h⟩ | ⟨h5, h⟩
    · obtain ⟨n5, h6, h⟩ := bind_of h
      have h := some_of h
      subst h
      have e_ := bits_Reader_Get_p0 k l n n2 n3 n4 n5
      have e_ := runs_of (objs := [[(.pv (.ints .u8 l false)), (.pv (.int .i64 n)), (.pv (.int .i64 n2))]]) (Says.of e_ ⟨(bits_within_runs k _ h1), (bits_Reader_Err_runs l n n2 _ h2), (not_of2 h3), (bits_Reader_Left_runs l n n2 _ h4), h5, (bits_Reader_fail_runs l n n2 _ h6), trivial⟩)
      exact e_
    · obtain ⟨⟨n5, n6⟩, h6, h⟩ := bind_of h
      have h := some_of h
      subst h
      have e_ := bits_Reader_Get_p1 k l n n2 n3 n4 n5 n6
      have e_ := runs_of (objs := [[(.pv (.ints .u8 l false)), (.pv (.int .i64 n)), (.pv (.int .i64 n2))]]) (Says.of e_ ⟨(bits_within_runs k _ h1), (bits_Reader_Err_runs l n n2 _ h2), (not_of2 h3), (bits_Reader_Left_runs l n n2 _ h4), h5, (bits_Reader_Get_L0_runs n3 l n2 _ _ h6), trivial⟩)
      exact e_
  · obtain ⟨n4, h4, h⟩ := bind_of h
    have h := some_of h
    subst h
    have e_ := bits_Reader_Get_p2 k l n n2 n3 n4
    have e_ := runs_of (objs := [[(.pv (.ints .u8 l false)), (.pv (.int .i64 n)), (.pv (.int .i64 n2))]]) (Says.of e_ ⟨(bits_within_runs k _ h1), (bits_Reader_Err_runs l n n2 _ h2), (not_of h3), rfl, (bits_Reader_fail_runs l n n2 _ h4), trivial⟩)
    exact e_
/-! ### code_source_bit -/
theorem code_source_bit_p0 (k : Int) (n : Int) (l : List Int) (n2 : Int) (n3 : Int) (b : Bool) (n4 : Int) (n5 : Int) (n6 : Int) (n7 : Int) (b2 : Bool) (n8 : Int) : evFn Try.prog cfg (Runs Try.prog) (LRuns Try.prog (lEnv Try.prog cfg 72 2).nt 2) 72 [(.one (.ref 0 0)), (.one (.pv (.int .i64 k)))] [[(.ref 1 0), (.pv (.int .i64 n))], [(.pv (.ints .u8 l false)), (.pv (.int .i64 n2)), (.pv (.int .i64 n3))]] []
    [.res ([(.one (.pv (.bool b)))], [[(.ref 1 0), (.pv (.int .i64 n4))], [(.pv (.ints .u8 l false)), (.pv (.int .i64 n2)), (.pv (.int .i64 n3))]], []), .br false, .res ([(.one (.pv (.int .u64 n5)))], [[(.pv (.ints .u8 l false)), (.pv (.int .i64 n6)), (.pv (.int .i64 n7))]], []), .res ([(.one (.pv (.bool b2)))], [[(.ref 1 0), (.pv (.int .i64 n8))], [(.pv (.ints .u8 l false)), (.pv (.int .i64 n6)), (.pv (.int .i64 n7))]], [])] =
  some (([(.one (.pv (.int .u64 n5)))], [[(.ref 1 0), (.pv (.int .i64 n8))], [(.pv (.ints .u8 l false)), (.pv (.int .i64 n6)), (.pv (.int .i64 n7))]], []), obs [
    Runs Try.prog 76 [(.one (.ref 0 0))] [[(.ref 1 0), (.pv (.int .i64 n))], [(.pv (.ints .u8 l false)), (.pv (.int .i64 n2)), (.pv (.int .i64 n3))]] [] ([(.one (.pv (.bool b)))], [[(.ref 1 0), (.pv (.int .i64 n4))], [(.pv (.ints .u8 l false)), (.pv (.int .i64 n2)), (.pv (.int .i64 n3))]], []),
    (!b) = false,
    Runs Try.prog 23 [(.one (.ref 0 0)), (.one (.pv (.int .i64 k)))] [[(.pv (.ints .u8 l false)), (.pv (.int .i64 n2)), (.pv (.int .i64 n3))]] [] ([(.one (.pv (.int .u64 n5)))], [[(.pv (.ints .u8 l false)), (.pv (.int .i64 n6)), (.pv (.int .i64 n7))]], []),
    Runs Try.prog 76 [(.one (.ref 0 0))] [[(.ref 1 0), (.pv (.int .i64 n4))], [(.pv (.ints .u8 l false)), (.pv (.int .i64 n6)), (.pv (.int .i64 n7))]] [] ([(.one (.pv (.bool b2)))], [[(.ref 1 0), (.pv (.int .i64 n8))], [(.pv (.ints .u8 l false)), (.pv (.int .i64 n6)), (.pv (.int .i64 n7))]], [])]) := by kernel_rfl
theorem code_source_bit_p1 (k : Int) (n : Int) (l : List Int) (n2 : Int) (n3 : Int) (b : Bool) (n4 : Int) : evFn Try.prog cfg (Runs Try.prog) (LRuns Try.prog (lEnv Try.prog cfg 72 2).nt 2) 72 [(.one (.ref 0 0)), (.one (.pv (.int .i64 k)))] [[(.ref 1 0), (.pv (.int .i64 n))], [(.pv (.ints .u8 l false)), (.pv (.int .i64 n2)), (.pv (.int .i64 n3))]] []
    [.res ([(.one (.pv (.bool b)))], [[(.ref 1 0), (.pv (.int .i64 n4))], [(.pv (.ints .u8 l false)), (.pv (.int .i64 n2)), (.pv (.int .i64 n3))]], []), .br true] =
  some (([(.one (.pv (.int .u64 0)))], [[(.ref 1 0), (.pv (.int .i64 n4))], [(.pv (.ints .u8 l false)), (.pv (.int .i64 n2)), (.pv (.int .i64 n3))]], []), obs [
    Runs Try.prog 76 [(.one (.ref 0 0))] [[(.ref 1 0), (.pv (.int .i64 n))], [(.pv (.ints .u8 l false)), (.pv (.int .i64 n2)), (.pv (.int .i64 n3))]] [] ([(.one (.pv (.bool b)))], [[(.ref 1 0), (.pv (.int .i64 n4))], [(.pv (.ints .u8 l false)), (.pv (.int .i64 n2)), (.pv (.int .i64 n3))]], []),
    (!b) = true]) := by kernel_rfl
noncomputable def code_source_bit (k : Int) (n : Int) (l : List Int) (n2 : Int) (n3 : Int) : Option (Int × Int × Int × Int) :=
  (code_source_ok n l n2 n3).bind fun (b, n4) =>
  bif b then
    (bits_Reader_Get k l n2 n3).bind fun (n5, n6, n7) =>
    (code_source_ok n4 l n6 n7).bind fun (b2, n8) =>
    some (n5, n8, n6, n7)
  else
    some (0, n4, n2, n3)
theorem code_source_bit_runs (k : Int) (n : Int) (l : List Int) (n2 : Int) (n3 : Int) (r_ : Int × Int × Int × Int) (h : code_source_bit k n l n2 n3 = some r_) : Runs Try.prog 72 [(.one (.ref 0 0)), (.one (.pv (.int .i64 k)))] [[(.ref 1 0), (.pv (.int .i64 n))], [(.pv (.ints .u8 l false)), (.pv (.int .i64 n2)), (.pv (.int .i64 n3))]] [] (code_source_bit_out k n l n2 n3 r_) := by
  unfold code_source_bit at h
  obtain ⟨⟨b, n4⟩, h1, h⟩ := bind_of h
  rcases cond_of h with ⟨h2, h⟩ | ⟨h2, h⟩
  · obtain ⟨⟨n5, n6, n7⟩, h3, h⟩ := bind_of h
    obtain ⟨⟨b2, n8⟩, h4, h⟩ := bind_of h
    have h := some_of h
    subst h
    have e_ := code_source_bit_p0 k n l n2 n3 b n4 n5 n6 n7 b2 n8
    have e_ := runs_of (objs := [[(.ref 1 0), (.pv (.int .i64 n))], [(.pv (.ints .u8 l false)), (.pv (.int .i64 n2)), (.pv (.int .i64 n3))]]) (Says.of e_ ⟨(code_source_ok_runs n l n2 n3 _ h1), (not_of2 h2), (bits_Reader_Get_runs k l n2 n3 _ h3), (code_source_ok_runs n4 l n6 n7 _ h4), trivial⟩)
    exact e_
  · have h := some_of h
    subst h
    have e_ := code_source_bit_p1 k n l n2 n3 b n4
    have e_ := runs_of (objs := [[(.ref 1 0), (.pv (.int .i64 n))], [(.pv (.ints .u8 l false)), (.pv (.int .i64 n2)), (.pv (.int .i64 n3))]]) (Says.of e_ ⟨(code_source_ok_runs n l n2 n3 _ h1), (not_of h2), trivial⟩)
    exact e_
/-! ### code_source_number_out -/
def code_source_number_out (n : Int) (l : List Int) (n2 : Int) (n3 : Int) : Int × Int × Int × Int → Res
  | (r1, r2, r3, r4) => ([(.one (.pv (.int .u64 r1)))], [[(.ref 1 0), (.pv (.int .i64 r2))], [(.pv (.ints .u8 l false)), (.pv (.int .i64 r3)), (.pv (.int .i64 r4))]], [])
/-! ### bits_Reader_Num_out -/
def bits_Reader_Num_out (l : List Int) (n : Int) (n2 : Int) : Int × Int × Int → Res
  | (r1, r2, r3) => ([(.one (.pv (.int .u64 r1)))], [[(.pv (.ints .u8 l false)), (.pv (.int .i64 r2)), (.pv (.int .i64 r3))]], [])

end Go.Proofs.Ytjjakdmcnkldoaa
