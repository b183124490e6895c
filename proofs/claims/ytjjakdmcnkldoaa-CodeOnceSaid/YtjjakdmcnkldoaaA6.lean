/- What functions compute, and that they do. -/
import Derived.Test.YtjjakdmcnkldoaaA5
set_option linter.unusedVariables false
set_option linter.unusedSimpArgs false
namespace Go.Proofs.Ytjjakdmcnkldoaa
open Go.Ev

/-! ### code_PutEvent_2 -/
theorem code_PutEvent_2_p0 (e : Int) (e2 : T_event_halves) (n : Int) (n2 : Int) (t : T_event_halves) (n3 : Int) (t2 : T_event_halves) (b : Bool) (n4 : Int) (l_ : List Int) (n5 : Int) (l_2 : List Int) : both (evFn Try.prog cfg (Runs Try.prog) (LRuns Try.prog (lEnv Try.prog cfg 16 1).nt 1) 16 [(.one (.ref 0 0)), (.agg [(.pv (.int .u64 e)), (.pv (T_event_halves.pv e2))])] [[(.pv .nils), (.pv (.int .i64 n))]] []
    [.res ([(.agg [(.pv (.int .u64 n2)), (.pv (T_event_halves.pv t))])], [], []), .res ([(.agg [(.pv (.int .u64 n2)), (.pv (T_event_halves.pv t))])], [], []), .res ([(.agg [(.pv (.int .u64 n2)), (.pv (T_event_halves.pv t))])], [], []), .res ([(.agg [(.pv (.int .u64 n2)), (.pv (T_event_halves.pv t))])], [], []), .res ([(.agg [(.pv (.int .u64 n2)), (.pv (T_event_halves.pv t))])], [], []), .res ([(.agg [(.pv (.int .u64 n2)), (.pv (T_event_halves.pv t))])], [], []), .res ([(.agg [(.pv (.int .u64 n2)), (.pv (T_event_halves.pv t))])], [], []), .res ([(.agg [(.pv (.int .u64 n3)), (.pv (T_event_halves.pv t2))])], [], []), .res ([(.agg [(.pv (.int .u64 n3)), (.pv (T_event_halves.pv t2))])], [], []), .res ([(.agg [(.pv (.int .u64 n3)), (.pv (T_event_halves.pv t2))])], [], []), .res ([(.agg [(.pv (.int .u64 n2)), (.pv (T_event_halves.pv t))])], [], []), .res ([(.agg [(.pv (.int .u64 n3)), (.pv (T_event_halves.pv t2))])], [], []), .res ([(.one (.pv (.bool b)))], [], []), .br true, .res ([], [[(.own 0 0 (l_).length false), (.pv (.int .i64 n4))]], [(.ints .u8 l_)]), .res ([(.one (.pv (.int .u64 e)))], [], []), .res ([], [[(.own 0 0 (l_2).length false), (.pv (.int .i64 n5))]], [(.ints .u8 l_2)])]) (([], [[(.own 0 0 (l_2).length false), (.pv (.int .i64 n5))]], [(.ints .u8 l_2)])) [
    Runs Try.prog 39 [(.agg [(.pv (.int .u64 e)), (.pv (T_event_halves.pv e2))])] [] [] ([(.agg [(.pv (.int .u64 n2)), (.pv (T_event_halves.pv t))])], [], []),
    Runs Try.prog 39 [(.agg [(.pv (.int .u64 e)), (.pv (T_event_halves.pv e2))])] [] [] ([(.agg [(.pv (.int .u64 n2)), (.pv (T_event_halves.pv t))])], [], []),
    Runs Try.prog 39 [(.agg [(.pv (.int .u64 e)), (.pv (T_event_halves.pv e2))])] [] [] ([(.agg [(.pv (.int .u64 n2)), (.pv (T_event_halves.pv t))])], [], []),
    Runs Try.prog 39 [(.agg [(.pv (.int .u64 e)), (.pv (T_event_halves.pv e2))])] [] [] ([(.agg [(.pv (.int .u64 n2)), (.pv (T_event_halves.pv t))])], [], []),
    Runs Try.prog 39 [(.agg [(.pv (.int .u64 e)), (.pv (T_event_halves.pv e2))])] [] [] ([(.agg [(.pv (.int .u64 n2)), (.pv (T_event_halves.pv t))])], [], []),
    Runs Try.prog 39 [(.agg [(.pv (.int .u64 e)), (.pv (T_event_halves.pv e2))])] [] [] ([(.agg [(.pv (.int .u64 n2)), (.pv (T_event_halves.pv t))])], [], []),
    Runs Try.prog 39 [(.agg [(.pv (.int .u64 e)), (.pv (T_event_halves.pv e2))])] [] [] ([(.agg [(.pv (.int .u64 n2)), (.pv (T_event_halves.pv t))])], [], []),
    Runs Try.prog 40 [(.agg [(.pv (.int .u64 e)), (.pv (T_event_halves.pv e2))])] [] [] ([(.agg [(.pv (.int .u64 n3)), (.pv (T_event_halves.pv t2))])], [], []),
    Runs Try.prog 40 [(.agg [(.pv (.int .u64 e)), (.pv (T_event_halves.pv e2))])] [] [] ([(.agg [(.pv (.int .u64 n3)), (.pv (T_event_halves.pv t2))])], [], []),
    Runs Try.prog 40 [(.agg [(.pv (.int .u64 e)), (.pv (T_event_halves.pv e2))])] [] [] ([(.agg [(.pv (.int .u64 n3)), (.pv (T_event_halves.pv t2))])], [], []),
    Runs Try.prog 39 [(.agg [(.pv (.int .u64 e)), (.pv (T_event_halves.pv e2))])] [] [] ([(.agg [(.pv (.int .u64 n2)), (.pv (T_event_halves.pv t))])], [], []),
    Runs Try.prog 40 [(.agg [(.pv (.int .u64 e)), (.pv (T_event_halves.pv e2))])] [] [] ([(.agg [(.pv (.int .u64 n3)), (.pv (T_event_halves.pv t2))])], [], []),
    Runs Try.prog 41 [(.agg [(.pv (.int .u64 e)), (.pv (T_event_halves.pv e2))])] [] [] ([(.one (.pv (.bool b)))], [], []),
    b = true,
    Runs Try.prog 18 [(.one (.ref 0 0)), (.one (.pv (.int .u64 1))), (.one (.pv (.int .i64 1)))] [[(.pv .nils), (.pv (.int .i64 n))]] [] ([], [[(.own 0 0 (l_).length false), (.pv (.int .i64 n4))]], [(.ints .u8 l_)]),
    Runs Try.prog 43 [(.agg [(.pv (.int .u64 e)), (.pv (T_event_halves.pv e2))])] [] [] ([(.one (.pv (.int .u64 e)))], [], []),
    Runs Try.prog 42 [(.one (.ref 0 0)), (.one (.pv (.int .u64 e)))] [[(.own 0 0 (l_).length false), (.pv (.int .i64 n4))]] [(.ints .u8 l_)] ([], [[(.own 0 0 (l_2).length false), (.pv (.int .i64 n5))]], [(.ints .u8 l_2)])] := ⟨by kernel_rfl, by kernel_rfl⟩
theorem code_PutEvent_2_p1 (e : Int) (e2 : T_event_halves) (n : Int) (n2 : Int) (t : T_event_halves) (n3 : Int) (t2 : T_event_halves) (b : Bool) (n4 : Int) (l_ : List Int) (b2 : Bool) (n5 : Int) (l_2 : List Int) (n6 : Int) (l_3 : List Int) (n7 : Int) (l_4 : List Int) : both (evFn Try.prog cfg (Runs Try.prog) (LRuns Try.prog (lEnv Try.prog cfg 16 1).nt 1) 16 [(.one (.ref 0 0)), (.agg [(.pv (.int .u64 e)), (.pv (T_event_halves.pv e2))])] [[(.pv .nils), (.pv (.int .i64 n))]] []
    [.res ([(.agg [(.pv (.int .u64 n2)), (.pv (T_event_halves.pv t))])], [], []), .res ([(.agg [(.pv (.int .u64 n2)), (.pv (T_event_halves.pv t))])], [], []), .res ([(.agg [(.pv (.int .u64 n2)), (.pv (T_event_halves.pv t))])], [], []), .res ([(.agg [(.pv (.int .u64 n2)), (.pv (T_event_halves.pv t))])], [], []), .res ([(.agg [(.pv (.int .u64 n2)), (.pv (T_event_halves.pv t))])], [], []), .res ([(.agg [(.pv (.int .u64 n2)), (.pv (T_event_halves.pv t))])], [], []), .res ([(.agg [(.pv (.int .u64 n2)), (.pv (T_event_halves.pv t))])], [], []), .res ([(.agg [(.pv (.int .u64 n3)), (.pv (T_event_halves.pv t2))])], [], []), .res ([(.agg [(.pv (.int .u64 n3)), (.pv (T_event_halves.pv t2))])], [], []), .res ([(.agg [(.pv (.int .u64 n3)), (.pv (T_event_halves.pv t2))])], [], []), .res ([(.agg [(.pv (.int .u64 n2)), (.pv (T_event_halves.pv t))])], [], []), .res ([(.agg [(.pv (.int .u64 n3)), (.pv (T_event_halves.pv t2))])], [], []), .res ([(.one (.pv (.bool b)))], [], []), .br false, .res ([], [[(.own 0 0 (l_).length false), (.pv (.int .i64 n4))]], [(.ints .u8 l_)]), .res ([(.one (.pv (.int .u64 e)))], [], []), .br true, .res ([(.one (.pv (.bool b2)))], [], []), .br true, .res ([], [[(.own 0 0 (l_2).length false), (.pv (.int .i64 n5))]], [(.ints .u8 l_2)]), .res ([(.one (.pv (.int .u64 e)))], [], []), .br true, .res ([(.one (.pv (.int .u64 e)))], [], []), .res ([], [[(.own 0 0 (l_3).length false), (.pv (.int .i64 n6))]], [(.ints .u8 l_3)]), .lp (.exit 1) ⟨[], [(0, [(.own 0 0 (l_4).length false), (.pv (.int .i64 n7))])], [(0, (.live (.ints .u8 l_4))), (1, (.live (.recs 2 (List.map E_event_Event.pv [(E_event_Event.mk n2 t), (E_event_Event.mk n3 t2)]))))]⟩]) (([], [[(.own 0 0 (l_4).length false), (.pv (.int .i64 n7))]], [(.ints .u8 l_4)])) [
    Runs Try.prog 39 [(.agg [(.pv (.int .u64 e)), (.pv (T_event_halves.pv e2))])] [] [] ([(.agg [(.pv (.int .u64 n2)), (.pv (T_event_halves.pv t))])], [], []),
    Runs Try.prog 39 [(.agg [(.pv (.int .u64 e)), (.pv (T_event_halves.pv e2))])] [] [] ([(.agg [(.pv (.int .u64 n2)), (.pv (T_event_halves.pv t))])], [], []),
    Runs Try.prog 39 [(.agg [(.pv (.int .u64 e)), (.pv (T_event_halves.pv e2))])] [] [] ([(.agg [(.pv (.int .u64 n2)), (.pv (T_event_halves.pv t))])], [], []),
    Runs Try.prog 39 [(.agg [(.pv (.int .u64 e)), (.pv (T_event_halves.pv e2))])] [] [] ([(.agg [(.pv (.int .u64 n2)), (.pv (T_event_halves.pv t))])], [], []),
    Runs Try.prog 39 [(.agg [(.pv (.int .u64 e)), (.pv (T_event_halves.pv e2))])] [] [] ([(.agg [(.pv (.int .u64 n2)), (.pv (T_event_halves.pv t))])], [], []),
    Runs Try.prog 39 [(.agg [(.pv (.int .u64 e)), (.pv (T_event_halves.pv e2))])] [] [] ([(.agg [(.pv (.int .u64 n2)), (.pv (T_event_halves.pv t))])], [], []),
    Runs Try.prog 39 [(.agg [(.pv (.int .u64 e)), (.pv (T_event_halves.pv e2))])] [] [] ([(.agg [(.pv (.int .u64 n2)), (.pv (T_event_halves.pv t))])], [], []),
    Runs Try.prog 40 [(.agg [(.pv (.int .u64 e)), (.pv (T_event_halves.pv e2))])] [] [] ([(.agg [(.pv (.int .u64 n3)), (.pv (T_event_halves.pv t2))])], [], []),
    Runs Try.prog 40 [(.agg [(.pv (.int .u64 e)), (.pv (T_event_halves.pv e2))])] [] [] ([(.agg [(.pv (.int .u64 n3)), (.pv (T_event_halves.pv t2))])], [], []),
    Runs Try.prog 40 [(.agg [(.pv (.int .u64 e)), (.pv (T_event_halves.pv e2))])] [] [] ([(.agg [(.pv (.int .u64 n3)), (.pv (T_event_halves.pv t2))])], [], []),
    Runs Try.prog 39 [(.agg [(.pv (.int .u64 e)), (.pv (T_event_halves.pv e2))])] [] [] ([(.agg [(.pv (.int .u64 n2)), (.pv (T_event_halves.pv t))])], [], []),
    Runs Try.prog 40 [(.agg [(.pv (.int .u64 e)), (.pv (T_event_halves.pv e2))])] [] [] ([(.agg [(.pv (.int .u64 n3)), (.pv (T_event_halves.pv t2))])], [], []),
    Runs Try.prog 41 [(.agg [(.pv (.int .u64 e)), (.pv (T_event_halves.pv e2))])] [] [] ([(.one (.pv (.bool b)))], [], []),
    b = false,
    Runs Try.prog 18 [(.one (.ref 0 0)), (.one (.pv (.int .u64 0))), (.one (.pv (.int .i64 1)))] [[(.pv .nils), (.pv (.int .i64 n))]] [] ([], [[(.own 0 0 (l_).length false), (.pv (.int .i64 n4))]], [(.ints .u8 l_)]),
    Runs Try.prog 43 [(.agg [(.pv (.int .u64 e)), (.pv (T_event_halves.pv e2))])] [] [] ([(.one (.pv (.int .u64 e)))], [], []),
    (decide ((e : Int) = 0)) = true,
    Runs Try.prog 44 [(.agg [(.pv (.int .u64 n2)), (.pv (T_event_halves.pv t))])] [] [] ([(.one (.pv (.bool b2)))], [], []),
    b2 = true,
    Runs Try.prog 18 [(.one (.ref 0 0)), (.one (.pv (.int .u64 0))), (.one (.pv (.int .i64 2)))] [[(.own 0 0 (l_).length false), (.pv (.int .i64 n4))]] [(.ints .u8 l_)] ([], [[(.own 0 0 (l_2).length false), (.pv (.int .i64 n5))]], [(.ints .u8 l_2)]),
    Runs Try.prog 43 [(.agg [(.pv (.int .u64 e)), (.pv (T_event_halves.pv e2))])] [] [] ([(.one (.pv (.int .u64 e)))], [], []),
    (decide ((0 : Int) < e)) = true,
    Runs Try.prog 43 [(.agg [(.pv (.int .u64 e)), (.pv (T_event_halves.pv e2))])] [] [] ([(.one (.pv (.int .u64 e)))], [], []),
    Runs Try.prog 42 [(.one (.ref 0 0)), (.one (.pv (.int .u64 e)))] [[(.own 0 0 (l_2).length false), (.pv (.int .i64 n5))]] [(.ints .u8 l_2)] ([], [[(.own 0 0 (l_3).length false), (.pv (.int .i64 n6))]], [(.ints .u8 l_3)]),
    LRuns Try.prog (lEnv Try.prog cfg 16 1).nt 1 (.loop (loopAt Try.prog 16 0)) ⟨[(0, (.av (.one (.ref 0 0)))), (75, (.av (.one (.own 1 0 2 true)))), (76, (.av (.one (.pv (.int .i64 2))))), (77, (.av (.one (.pv (.int .i64 0)))))], [(0, [(.own 0 0 (l_3).length false), (.pv (.int .i64 n6))])], [(0, (.live (.ints .u8 l_3))), (1, (.live (.recs 2 [[(.int .u64 n2), (T_event_halves.pv t)], [(.int .u64 n3), (T_event_halves.pv t2)]])))]⟩ (.exit 1) ⟨[], [(0, [(.own 0 0 (l_4).length false), (.pv (.int .i64 n7))])], [(0, (.live (.ints .u8 l_4))), (1, (.live (.recs 2 (List.map E_event_Event.pv [(E_event_Event.mk n2 t), (E_event_Event.mk n3 t2)]))))]⟩] := ⟨by kernel_rfl, by kernel_rfl⟩
theorem code_PutEvent_2_p2 (e : Int) (e2 : T_event_halves) (n : Int) (n2 : Int) (t : T_event_halves) (n3 : Int) (t2 : T_event_halves) (b : Bool) (n4 : Int) (l_ : List Int) (b2 : Bool) (n5 : Int) (l_2 : List Int) (n6 : Int) (l_3 : List Int) : both (evFn Try.prog cfg (Runs Try.prog) (LRuns Try.prog (lEnv Try.prog cfg 16 1).nt 1) 16 [(.one (.ref 0 0)), (.agg [(.pv (.int .u64 e)), (.pv (T_event_halves.pv e2))])] [[(.pv .nils), (.pv (.int .i64 n))]] []
    [.res ([(.agg [(.pv (.int .u64 n2)), (.pv (T_event_halves.pv t))])], [], []), .res ([(.agg [(.pv (.int .u64 n2)), (.pv (T_event_halves.pv t))])], [], []), .res ([(.agg [(.pv (.int .u64 n2)), (.pv (T_event_halves.pv t))])], [], []), .res ([(.agg [(.pv (.int .u64 n2)), (.pv (T_event_halves.pv t))])], [], []), .res ([(.agg [(.pv (.int .u64 n2)), (.pv (T_event_halves.pv t))])], [], []), .res ([(.agg [(.pv (.int .u64 n2)), (.pv (T_event_halves.pv t))])], [], []), .res ([(.agg [(.pv (.int .u64 n2)), (.pv (T_event_halves.pv t))])], [], []), .res ([(.agg [(.pv (.int .u64 n3)), (.pv (T_event_halves.pv t2))])], [], []), .res ([(.agg [(.pv (.int .u64 n3)), (.pv (T_event_halves.pv t2))])], [], []), .res ([(.agg [(.pv (.int .u64 n3)), (.pv (T_event_halves.pv t2))])], [], []), .res ([(.agg [(.pv (.int .u64 n2)), (.pv (T_event_halves.pv t))])], [], []), .res ([(.agg [(.pv (.int .u64 n3)), (.pv (T_event_halves.pv t2))])], [], []), .res ([(.one (.pv (.bool b)))], [], []), .br false, .res ([], [[(.own 0 0 (l_).length false), (.pv (.int .i64 n4))]], [(.ints .u8 l_)]), .res ([(.one (.pv (.int .u64 e)))], [], []), .br true, .res ([(.one (.pv (.bool b2)))], [], []), .br true, .res ([], [[(.own 0 0 (l_2).length false), (.pv (.int .i64 n5))]], [(.ints .u8 l_2)]), .res ([(.one (.pv (.int .u64 e)))], [], []), .br false, .lp (.exit 1) ⟨[], [(0, [(.own 0 0 (l_3).length false), (.pv (.int .i64 n6))])], [(0, (.live (.ints .u8 l_3))), (1, (.live (.recs 2 (List.map E_event_Event.pv [(E_event_Event.mk n2 t), (E_event_Event.mk n3 t2)]))))]⟩]) (([], [[(.own 0 0 (l_3).length false), (.pv (.int .i64 n6))]], [(.ints .u8 l_3)])) [
    Runs Try.prog 39 [(.agg [(.pv (.int .u64 e)), (.pv (T_event_halves.pv e2))])] [] [] ([(.agg [(.pv (.int .u64 n2)), (.pv (T_event_halves.pv t))])], [], []),
    Runs Try.prog 39 [(.agg [(.pv (.int .u64 e)), (.pv (T_event_halves.pv e2))])] [] [] ([(.agg [(.pv (.int .u64 n2)), (.pv (T_event_halves.pv t))])], [], []),
    Runs Try.prog 39 [(.agg [(.pv (.int .u64 e)), (.pv (T_event_halves.pv e2))])] [] [] ([(.agg [(.pv (.int .u64 n2)), (.pv (T_event_halves.pv t))])], [], []),
    Runs Try.prog 39 [(.agg [(.pv (.int .u64 e)), (.pv (T_event_halves.pv e2))])] [] [] ([(.agg [(.pv (.int .u64 n2)), (.pv (T_event_halves.pv t))])], [], []),
    Runs Try.prog 39 [(.agg [(.pv (.int .u64 e)), (.pv (T_event_halves.pv e2))])] [] [] ([(.agg [(.pv (.int .u64 n2)), (.pv (T_event_halves.pv t))])], [], []),
    Runs Try.prog 39 [(.agg [(.pv (.int .u64 e)), (.pv (T_event_halves.pv e2))])] [] [] ([(.agg [(.pv (.int .u64 n2)), (.pv (T_event_halves.pv t))])], [], []),
    Runs Try.prog 39 [(.agg [(.pv (.int .u64 e)), (.pv (T_event_halves.pv e2))])] [] [] ([(.agg [(.pv (.int .u64 n2)), (.pv (T_event_halves.pv t))])], [], []),
    Runs Try.prog 40 [(.agg [(.pv (.int .u64 e)), (.pv (T_event_halves.pv e2))])] [] [] ([(.agg [(.pv (.int .u64 n3)), (.pv (T_event_halves.pv t2))])], [], []),
    Runs Try.prog 40 [(.agg [(.pv (.int .u64 e)), (.pv (T_event_halves.pv e2))])] [] [] ([(.agg [(.pv (.int .u64 n3)), (.pv (T_event_halves.pv t2))])], [], []),
    Runs Try.prog 40 [(.agg [(.pv (.int .u64 e)), (.pv (T_event_halves.pv e2))])] [] [] ([(.agg [(.pv (.int .u64 n3)), (.pv (T_event_halves.pv t2))])], [], []),
    Runs Try.prog 39 [(.agg [(.pv (.int .u64 e)), (.pv (T_event_halves.pv e2))])] [] [] ([(.agg [(.pv (.int .u64 n2)), (.pv (T_event_halves.pv t))])], [], []),
    Runs Try.prog 40 [(.agg [(.pv (.int .u64 e)), (.pv (T_event_halves.pv e2))])] [] [] ([(.agg [(.pv (.int .u64 n3)), (.pv (T_event_halves.pv t2))])], [], []),
    Runs Try.prog 41 [(.agg [(.pv (.int .u64 e)), (.pv (T_event_halves.pv e2))])] [] [] ([(.one (.pv (.bool b)))], [], []),
    b = false,
    Runs Try.prog 18 [(.one (.ref 0 0)), (.one (.pv (.int .u64 0))), (.one (.pv (.int .i64 1)))] [[(.pv .nils), (.pv (.int .i64 n))]] [] ([], [[(.own 0 0 (l_).length false), (.pv (.int .i64 n4))]], [(.ints .u8 l_)]),
    Runs Try.prog 43 [(.agg [(.pv (.int .u64 e)), (.pv (T_event_halves.pv e2))])] [] [] ([(.one (.pv (.int .u64 e)))], [], []),
    (decide ((e : Int) = 0)) = true,
    Runs Try.prog 44 [(.agg [(.pv (.int .u64 n2)), (.pv (T_event_halves.pv t))])] [] [] ([(.one (.pv (.bool b2)))], [], []),
    b2 = true,
    Runs Try.prog 18 [(.one (.ref 0 0)), (.one (.pv (.int .u64 0))), (.one (.pv (.int .i64 2)))] [[(.own 0 0 (l_).length false), (.pv (.int .i64 n4))]] [(.ints .u8 l_)] ([], [[(.own 0 0 (l_2).length false), (.pv (.int .i64 n5))]], [(.ints .u8 l_2)]),
    Runs Try.prog 43 [(.agg [(.pv (.int .u64 e)), (.pv (T_event_halves.pv e2))])] [] [] ([(.one (.pv (.int .u64 e)))], [], []),
    (decide ((0 : Int) < e)) = false,
    LRuns Try.prog (lEnv Try.prog cfg 16 1).nt 1 (.loop (loopAt Try.prog 16 0)) ⟨[(0, (.av (.one (.ref 0 0)))), (75, (.av (.one (.own 1 0 2 true)))), (76, (.av (.one (.pv (.int .i64 2))))), (77, (.av (.one (.pv (.int .i64 0)))))], [(0, [(.own 0 0 (l_2).length false), (.pv (.int .i64 n5))])], [(0, (.live (.ints .u8 l_2))), (1, (.live (.recs 2 [[(.int .u64 n2), (T_event_halves.pv t)], [(.int .u64 n3), (T_event_halves.pv t2)]])))]⟩ (.exit 1) ⟨[], [(0, [(.own 0 0 (l_3).length false), (.pv (.int .i64 n6))])], [(0, (.live (.ints .u8 l_3))), (1, (.live (.recs 2 (List.map E_event_Event.pv [(E_event_Event.mk n2 t), (E_event_Event.mk n3 t2)]))))]⟩] := ⟨by kernel_rfl, by kernel_rfl⟩
theorem code_PutEvent_2_p3 (e : Int) (e2 : T_event_halves) (n : Int) (n2 : Int) (t : T_event_halves) (n3 : Int) (t2 : T_event_halves) (b : Bool) (n4 : Int) (l_ : List Int) (b2 : Bool) (b3 : Bool) (n5 : Int) (l_2 : List Int) (n6 : Int) (l_3 : List Int) (n7 : Int) (l_4 : List Int) : both (evFn Try.prog cfg (Runs Try.prog) (LRuns Try.prog (lEnv Try.prog cfg 16 1).nt 1) 16 [(.one (.ref 0 0)), (.agg [(.pv (.int .u64 e)), (.pv (T_event_halves.pv e2))])] [[(.pv .nils), (.pv (.int .i64 n))]] []
    [.res ([(.agg [(.pv (.int .u64 n2)), (.pv (T_event_halves.pv t))])], [], []), .res ([(.agg [(.pv (.int .u64 n2)), (.pv (T_event_halves.pv t))])], [], []), .res ([(.agg [(.pv (.int .u64 n2)), (.pv (T_event_halves.pv t))])], [], []), .res ([(.agg [(.pv (.int .u64 n2)), (.pv (T_event_halves.pv t))])], [], []), .res ([(.agg [(.pv (.int .u64 n2)), (.pv (T_event_halves.pv t))])], [], []), .res ([(.agg [(.pv (.int .u64 n2)), (.pv (T_event_halves.pv t))])], [], []), .res ([(.agg [(.pv (.int .u64 n2)), (.pv (T_event_halves.pv t))])], [], []), .res ([(.agg [(.pv (.int .u64 n3)), (.pv (T_event_halves.pv t2))])], [], []), .res ([(.agg [(.pv (.int .u64 n3)), (.pv (T_event_halves.pv t2))])], [], []), .res ([(.agg [(.pv (.int .u64 n3)), (.pv (T_event_halves.pv t2))])], [], []), .res ([(.agg [(.pv (.int .u64 n2)), (.pv (T_event_halves.pv t))])], [], []), .res ([(.agg [(.pv (.int .u64 n3)), (.pv (T_event_halves.pv t2))])], [], []), .res ([(.one (.pv (.bool b)))], [], []), .br false, .res ([], [[(.own 0 0 (l_).length false), (.pv (.int .i64 n4))]], [(.ints .u8 l_)]), .res ([(.one (.pv (.int .u64 e)))], [], []), .br true, .res ([(.one (.pv (.bool b2)))], [], []), .br false, .res ([(.one (.pv (.int .u64 e)))], [], []), .br true, .res ([(.one (.pv (.bool b3)))], [], []), .br true, .res ([], [[(.own 0 0 (l_2).length false), (.pv (.int .i64 n5))]], [(.ints .u8 l_2)]), .res ([(.one (.pv (.int .u64 e)))], [], []), .br true, .res ([(.one (.pv (.int .u64 e)))], [], []), .res ([], [[(.own 0 0 (l_3).length false), (.pv (.int .i64 n6))]], [(.ints .u8 l_3)]), .lp (.exit 1) ⟨[], [(0, [(.own 0 0 (l_4).length false), (.pv (.int .i64 n7))])], [(0, (.live (.ints .u8 l_4))), (1, (.live (.recs 2 (List.map E_event_Event.pv [(E_event_Event.mk n2 t), (E_event_Event.mk n3 t2)]))))]⟩]) (([], [[(.own 0 0 (l_4).length false), (.pv (.int .i64 n7))]], [(.ints .u8 l_4)])) [
    Runs Try.prog 39 [(.agg [(.pv (.int .u64 e)), (.pv (T_event_halves.pv e2))])] [] [] ([(.agg [(.pv (.int .u64 n2)), (.pv (T_event_halves.pv t))])], [], []),
    Runs Try.prog 39 [(.agg [(.pv (.int .u64 e)), (.pv (T_event_halves.pv e2))])] [] [] ([(.agg [(.pv (.int .u64 n2)), (.pv (T_event_halves.pv t))])], [], []),
    Runs Try.prog 39 [(.agg [(.pv (.int .u64 e)), (.pv (T_event_halves.pv e2))])] [] [] ([(.agg [(.pv (.int .u64 n2)), (.pv (T_event_halves.pv t))])], [], []),
    Runs Try.prog 39 [(.agg [(.pv (.int .u64 e)), (.pv (T_event_halves.pv e2))])] [] [] ([(.agg [(.pv (.int .u64 n2)), (.pv (T_event_halves.pv t))])], [], []),
    Runs Try.prog 39 [(.agg [(.pv (.int .u64 e)), (.pv (T_event_halves.pv e2))])] [] [] ([(.agg [(.pv (.int .u64 n2)), (.pv (T_event_halves.pv t))])], [], []),
    Runs Try.prog 39 [(.agg [(.pv (.int .u64 e)), (.pv (T_event_halves.pv e2))])] [] [] ([(.agg [(.pv (.int .u64 n2)), (.pv (T_event_halves.pv t))])], [], []),
    Runs Try.prog 39 [(.agg [(.pv (.int .u64 e)), (.pv (T_event_halves.pv e2))])] [] [] ([(.agg [(.pv (.int .u64 n2)), (.pv (T_event_halves.pv t))])], [], []),
    Runs Try.prog 40 [(.agg [(.pv (.int .u64 e)), (.pv (T_event_halves.pv e2))])] [] [] ([(.agg [(.pv (.int .u64 n3)), (.pv (T_event_halves.pv t2))])], [], []),
    Runs Try.prog 40 [(.agg [(.pv (.int .u64 e)), (.pv (T_event_halves.pv e2))])] [] [] ([(.agg [(.pv (.int .u64 n3)), (.pv (T_event_halves.pv t2))])], [], []),
    Runs Try.prog 40 [(.agg [(.pv (.int .u64 e)), (.pv (T_event_halves.pv e2))])] [] [] ([(.agg [(.pv (.int .u64 n3)), (.pv (T_event_halves.pv t2))])], [], []),
    Runs Try.prog 39 [(.agg [(.pv (.int .u64 e)), (.pv (T_event_halves.pv e2))])] [] [] ([(.agg [(.pv (.int .u64 n2)), (.pv (T_event_halves.pv t))])], [], []),
    Runs Try.prog 40 [(.agg [(.pv (.int .u64 e)), (.pv (T_event_halves.pv e2))])] [] [] ([(.agg [(.pv (.int .u64 n3)), (.pv (T_event_halves.pv t2))])], [], []),
    Runs Try.prog 41 [(.agg [(.pv (.int .u64 e)), (.pv (T_event_halves.pv e2))])] [] [] ([(.one (.pv (.bool b)))], [], []),
    b = false,
    Runs Try.prog 18 [(.one (.ref 0 0)), (.one (.pv (.int .u64 0))), (.one (.pv (.int .i64 1)))] [[(.pv .nils), (.pv (.int .i64 n))]] [] ([], [[(.own 0 0 (l_).length false), (.pv (.int .i64 n4))]], [(.ints .u8 l_)]),
    Runs Try.prog 43 [(.agg [(.pv (.int .u64 e)), (.pv (T_event_halves.pv e2))])] [] [] ([(.one (.pv (.int .u64 e)))], [], []),
    (decide ((e : Int) = 0)) = true,
    Runs Try.prog 44 [(.agg [(.pv (.int .u64 n2)), (.pv (T_event_halves.pv t))])] [] [] ([(.one (.pv (.bool b2)))], [], []),
    b2 = false,
    Runs Try.prog 43 [(.agg [(.pv (.int .u64 e)), (.pv (T_event_halves.pv e2))])] [] [] ([(.one (.pv (.int .u64 e)))], [], []),
    (decide ((e : Int) = 0)) = true,
    Runs Try.prog 44 [(.agg [(.pv (.int .u64 n3)), (.pv (T_event_halves.pv t2))])] [] [] ([(.one (.pv (.bool b3)))], [], []),
    b3 = true,
    Runs Try.prog 18 [(.one (.ref 0 0)), (.one (.pv (.int .u64 1))), (.one (.pv (.int .i64 2)))] [[(.own 0 0 (l_).length false), (.pv (.int .i64 n4))]] [(.ints .u8 l_)] ([], [[(.own 0 0 (l_2).length false), (.pv (.int .i64 n5))]], [(.ints .u8 l_2)]),
    Runs Try.prog 43 [(.agg [(.pv (.int .u64 e)), (.pv (T_event_halves.pv e2))])] [] [] ([(.one (.pv (.int .u64 e)))], [], []),
    (decide ((0 : Int) < e)) = true,
    Runs Try.prog 43 [(.agg [(.pv (.int .u64 e)), (.pv (T_event_halves.pv e2))])] [] [] ([(.one (.pv (.int .u64 e)))], [], []),
    Runs Try.prog 42 [(.one (.ref 0 0)), (.one (.pv (.int .u64 e)))] [[(.own 0 0 (l_2).length false), (.pv (.int .i64 n5))]] [(.ints .u8 l_2)] ([], [[(.own 0 0 (l_3).length false), (.pv (.int .i64 n6))]], [(.ints .u8 l_3)]),
    LRuns Try.prog (lEnv Try.prog cfg 16 1).nt 1 (.loop (loopAt Try.prog 16 0)) ⟨[(0, (.av (.one (.ref 0 0)))), (75, (.av (.one (.own 1 0 2 true)))), (76, (.av (.one (.pv (.int .i64 2))))), (77, (.av (.one (.pv (.int .i64 0)))))], [(0, [(.own 0 0 (l_3).length false), (.pv (.int .i64 n6))])], [(0, (.live (.ints .u8 l_3))), (1, (.live (.recs 2 [[(.int .u64 n2), (T_event_halves.pv t)], [(.int .u64 n3), (T_event_halves.pv t2)]])))]⟩ (.exit 1) ⟨[], [(0, [(.own 0 0 (l_4).length false), (.pv (.int .i64 n7))])], [(0, (.live (.ints .u8 l_4))), (1, (.live (.recs 2 (List.map E_event_Event.pv [(E_event_Event.mk n2 t), (E_event_Event.mk n3 t2)]))))]⟩] := ⟨by kernel_rfl, by kernel_rfl⟩
theorem code_PutEvent_2_p4 (e : Int) (e2 : T_event_halves) (n : Int) (n2 : Int) (t : T_event_halves) (n3 : Int) (t2 : T_event_halves) (b : Bool) (n4 : Int) (l_ : List Int) (b2 : Bool) (b3 : Bool) (n5 : Int) (l_2 : List Int) (n6 : Int) (l_3 : List Int) : both (evFn Try.prog cfg (Runs Try.prog) (LRuns Try.prog (lEnv Try.prog cfg 16 1).nt 1) 16 [(.one (.ref 0 0)), (.agg [(.pv (.int .u64 e)), (.pv (T_event_halves.pv e2))])] [[(.pv .nils), (.pv (.int .i64 n))]] []
    [.res ([(.agg [(.pv (.int .u64 n2)), (.pv (T_event_halves.pv t))])], [], []), .res ([(.agg [(.pv (.int .u64 n2)), (.pv (T_event_halves.pv t))])], [], []), .res ([(.agg [(.pv (.int .u64 n2)), (.pv (T_event_halves.pv t))])], [], []), .res ([(.agg [(.pv (.int .u64 n2)), (.pv (T_event_halves.pv t))])], [], []), .res ([(.agg [(.pv (.int .u64 n2)), (.pv (T_event_halves.pv t))])], [], []), .res ([(.agg [(.pv (.int .u64 n2)), (.pv (T_event_halves.pv t))])], [], []), .res ([(.agg [(.pv (.int .u64 n2)), (.pv (T_event_halves.pv t))])], [], []), .res ([(.agg [(.pv (.int .u64 n3)), (.pv (T_event_halves.pv t2))])], [], []), .res ([(.agg [(.pv (.int .u64 n3)), (.pv (T_event_halves.pv t2))])], [], []), .res ([(.agg [(.pv (.int .u64 n3)), (.pv (T_event_halves.pv t2))])], [], []), .res ([(.agg [(.pv (.int .u64 n2)), (.pv (T_event_halves.pv t))])], [], []), .res ([(.agg [(.pv (.int .u64 n3)), (.pv (T_event_halves.pv t2))])], [], []), .res ([(.one (.pv (.bool b)))], [], []), .br false, .res ([], [[(.own 0 0 (l_).length false), (.pv (.int .i64 n4))]], [(.ints .u8 l_)]), .res ([(.one (.pv (.int .u64 e)))], [], []), .br true, .res ([(.one (.pv (.bool b2)))], [], []), .br false, .res ([(.one (.pv (.int .u64 e)))], [], []), .br true, .res ([(.one (.pv (.bool b3)))], [], []), .br true, .res ([], [[(.own 0 0 (l_2).length false), (.pv (.int .i64 n5))]], [(.ints .u8 l_2)]), .res ([(.one (.pv (.int .u64 e)))], [], []), .br false, .lp (.exit 1) ⟨[], [(0, [(.own 0 0 (l_3).length false), (.pv (.int .i64 n6))])], [(0, (.live (.ints .u8 l_3))), (1, (.live (.recs 2 (List.map E_event_Event.pv [(E_event_Event.mk n2 t), (E_event_Event.mk n3 t2)]))))]⟩]) (([], [[(.own 0 0 (l_3).length false), (.pv (.int .i64 n6))]], [(.ints .u8 l_3)])) [
    Runs Try.prog 39 [(.agg [(.pv (.int .u64 e)), (.pv (T_event_halves.pv e2))])] [] [] ([(.agg [(.pv (.int .u64 n2)), (.pv (T_event_halves.pv t))])], [], []),
    Runs Try.prog 39 [(.agg [(.pv (.int .u64 e)), (.pv (T_event_halves.pv e2))])] [] [] ([(.agg [(.pv (.int .u64 n2)), (.pv (T_event_halves.pv t))])], [], []),
    Runs Try.prog 39 [(.agg [(.pv (.int .u64 e)), (.pv (T_event_halves.pv e2))])] [] [] ([(.agg [(.pv (.int .u64 n2)), (.pv (T_event_halves.pv t))])], [], []),
    Runs Try.prog 39 [(.agg [(.pv (.int .u64 e)), (.pv (T_event_halves.pv e2))])] [] [] ([(.agg [(.pv (.int .u64 n2)), (.pv (T_event_halves.pv t))])], [], []),
    Runs Try.prog 39 [(.agg [(.pv (.int .u64 e)), (.pv (T_event_halves.pv e2))])] [] [] ([(.agg [(.pv (.int .u64 n2)), (.pv (T_event_halves.pv t))])], [], []),
    Runs Try.prog 39 [(.agg [(.pv (.int .u64 e)), (.pv (T_event_halves.pv e2))])] [] [] ([(.agg [(.pv (.int .u64 n2)), (.pv (T_event_halves.pv t))])], [], []),
    Runs Try.prog 39 [(.agg [(.pv (.int .u64 e)), (.pv (T_event_halves.pv e2))])] [] [] ([(.agg [(.pv (.int .u64 n2)), (.pv (T_event_halves.pv t))])], [], []),
    Runs Try.prog 40 [(.agg [(.pv (.int .u64 e)), (.pv (T_event_halves.pv e2))])] [] [] ([(.agg [(.pv (.int .u64 n3)), (.pv (T_event_halves.pv t2))])], [], []),
    Runs Try.prog 40 [(.agg [(.pv (.int .u64 e)), (.pv (T_event_halves.pv e2))])] [] [] ([(.agg [(.pv (.int .u64 n3)), (.pv (T_event_halves.pv t2))])], [], []),
    Runs Try.prog 40 [(.agg [(.pv (.int .u64 e)), (.pv (T_event_halves.pv e2))])] [] [] ([(.agg [(.pv (.int .u64 n3)), (.pv (T_event_halves.pv t2))])], [], []),
    Runs Try.prog 39 [(.agg [(.pv (.int .u64 e)), (.pv (T_event_halves.pv e2))])] [] [] ([(.agg [(.pv (.int .u64 n2)), (.pv (T_event_halves.pv t))])], [], []),
    Runs Try.prog 40 [(.agg [(.pv (.int .u64 e)), (.pv (T_event_halves.pv e2))])] [] [] ([(.agg [(.pv (.int .u64 n3)), (.pv (T_event_halves.pv t2))])], [], []),
    Runs Try.prog 41 [(.agg [(.pv (.int .u64 e)), (.pv (T_event_halves.pv e2))])] [] [] ([(.one (.pv (.bool b)))], [], []),
    b = false,
    Runs Try.prog 18 [(.one (.ref 0 0)), (.one (.pv (.int .u64 0))), (.one (.pv (.int .i64 1)))] [[(.pv .nils), (.pv (.int .i64 n))]] [] ([], [[(.own 0 0 (l_).length false), (.pv (.int .i64 n4))]], [(.ints .u8 l_)]),
    Runs Try.prog 43 [(.agg [(.pv (.int .u64 e)), (.pv (T_event_halves.pv e2))])] [] [] ([(.one (.pv (.int .u64 e)))], [], []),
    (decide ((e : Int) = 0)) = true,
    Runs Try.prog 44 [(.agg [(.pv (.int .u64 n2)), (.pv (T_event_halves.pv t))])] [] [] ([(.one (.pv (.bool b2)))], [], []),
    b2 = false,
    Runs Try.prog 43 [(.agg [(.pv (.int .u64 e)), (.pv (T_event_halves.pv e2))])] [] [] ([(.one (.pv (.int .u64 e)))], [], []),
    (decide ((e : Int) = 0)) = true,
    Runs Try.prog 44 [(.agg [(.pv (.int .u64 n3)), (.pv (T_event_halves.pv t2))])] [] [] ([(.one (.pv (.bool b3)))], [], []),
    b3 = true,
    Runs Try.prog 18 [(.one (.ref 0 0)), (.one (.pv (.int .u64 1))), (.one (.pv (.int .i64 2)))] [[(.own 0 0 (l_).length false), (.pv (.int .i64 n4))]] [(.ints .u8 l_)] ([], [[(.own 0 0 (l_2).length false), (.pv (.int .i64 n5))]], [(.ints .u8 l_2)]),
    Runs Try.prog 43 [(.agg [(.pv (.int .u64 e)), (.pv (T_event_halves.pv e2))])] [] [] ([(.one (.pv (.int .u64 e)))], [], []),
    (decide ((0 : Int) < e)) = false,
    LRuns Try.prog (lEnv Try.prog cfg 16 1).nt 1 (.loop (loopAt Try.prog 16 0)) ⟨[(0, (.av (.one (.ref 0 0)))), (75, (.av (.one (.own 1 0 2 true)))), (76, (.av (.one (.pv (.int .i64 2))))), (77, (.av (.one (.pv (.int .i64 0)))))], [(0, [(.own 0 0 (l_2).length false), (.pv (.int .i64 n5))])], [(0, (.live (.ints .u8 l_2))), (1, (.live (.recs 2 [[(.int .u64 n2), (T_event_halves.pv t)], [(.int .u64 n3), (T_event_halves.pv t2)]])))]⟩ (.exit 1) ⟨[], [(0, [(.own 0 0 (l_3).length false), (.pv (.int .i64 n6))])], [(0, (.live (.ints .u8 l_3))), (1, (.live (.recs 2 (List.map E_event_Event.pv [(E_event_Event.mk n2 t), (E_event_Event.mk n3 t2)]))))]⟩] := ⟨by kernel_rfl, by kernel_rfl⟩
theorem code_PutEvent_2_p5 (e : Int) (e2 : T_event_halves) (n : Int) (n2 : Int) (t : T_event_halves) (n3 : Int) (t2 : T_event_halves) (b : Bool) (n4 : Int) (l_ : List Int) (b2 : Bool) (b3 : Bool) (n5 : Int) (l_2 : List Int) (n6 : Int) (l_3 : List Int) (n7 : Int) (l_4 : List Int) : both (evFn Try.prog cfg (Runs Try.prog) (LRuns Try.prog (lEnv Try.prog cfg 16 1).nt 1) 16 [(.one (.ref 0 0)), (.agg [(.pv (.int .u64 e)), (.pv (T_event_halves.pv e2))])] [[(.pv .nils), (.pv (.int .i64 n))]] []
    [.res ([(.agg [(.pv (.int .u64 n2)), (.pv (T_event_halves.pv t))])], [], []), .res ([(.agg [(.pv (.int .u64 n2)), (.pv (T_event_halves.pv t))])], [], []), .res ([(.agg [(.pv (.int .u64 n2)), (.pv (T_event_halves.pv t))])], [], []), .res ([(.agg [(.pv (.int .u64 n2)), (.pv (T_event_halves.pv t))])], [], []), .res ([(.agg [(.pv (.int .u64 n2)), (.pv (T_event_halves.pv t))])], [], []), .res ([(.agg [(.pv (.int .u64 n2)), (.pv (T_event_halves.pv t))])], [], []), .res ([(.agg [(.pv (.int .u64 n2)), (.pv (T_event_halves.pv t))])], [], []), .res ([(.agg [(.pv (.int .u64 n3)), (.pv (T_event_halves.pv t2))])], [], []), .res ([(.agg [(.pv (.int .u64 n3)), (.pv (T_event_halves.pv t2))])], [], []), .res ([(.agg [(.pv (.int .u64 n3)), (.pv (T_event_halves.pv t2))])], [], []), .res ([(.agg [(.pv (.int .u64 n2)), (.pv (T_event_halves.pv t))])], [], []), .res ([(.agg [(.pv (.int .u64 n3)), (.pv (T_event_halves.pv t2))])], [], []), .res ([(.one (.pv (.bool b)))], [], []), .br false, .res ([], [[(.own 0 0 (l_).length false), (.pv (.int .i64 n4))]], [(.ints .u8 l_)]), .res ([(.one (.pv (.int .u64 e)))], [], []), .br true, .res ([(.one (.pv (.bool b2)))], [], []), .br false, .res ([(.one (.pv (.int .u64 e)))], [], []), .br true, .res ([(.one (.pv (.bool b3)))], [], []), .br false, .res ([(.one (.pv (.int .u64 e)))], [], []), .br true, .res ([], [[(.own 0 0 (l_2).length false), (.pv (.int .i64 n5))]], [(.ints .u8 l_2)]), .res ([(.one (.pv (.int .u64 e)))], [], []), .br true, .res ([(.one (.pv (.int .u64 e)))], [], []), .res ([], [[(.own 0 0 (l_3).length false), (.pv (.int .i64 n6))]], [(.ints .u8 l_3)]), .lp (.exit 1) ⟨[], [(0, [(.own 0 0 (l_4).length false), (.pv (.int .i64 n7))])], [(0, (.live (.ints .u8 l_4))), (1, (.live (.recs 2 (List.map E_event_Event.pv [(E_event_Event.mk n2 t), (E_event_Event.mk n3 t2)]))))]⟩]) (([], [[(.own 0 0 (l_4).length false), (.pv (.int .i64 n7))]], [(.ints .u8 l_4)])) [
    Runs Try.prog 39 [(.agg [(.pv (.int .u64 e)), (.pv (T_event_halves.pv e2))])] [] [] ([(.agg [(.pv (.int .u64 n2)), (.pv (T_event_halves.pv t))])], [], []),
    Runs Try.prog 39 [(.agg [(.pv (.int .u64 e)), (.pv (T_event_halves.pv e2))])] [] [] ([(.agg [(.pv (.int .u64 n2)), (.pv (T_event_halves.pv t))])], [], []),
    Runs Try.prog 39 [(.agg [(.pv (.int .u64 e)), (.pv (T_event_halves.pv e2))])] [] [] ([(.agg [(.pv (.int .u64 n2)), (.pv (T_event_halves.pv t))])], [], []),
    Runs Try.prog 39 [(.agg [(.pv (.int .u64 e)), (.pv (T_event_halves.pv e2))])] [] [] ([(.agg [(.pv (.int .u64 n2)), (.pv (T_event_halves.pv t))])], [], []),
    Runs Try.prog 39 [(.agg [(.pv (.int .u64 e)), (.pv (T_event_halves.pv e2))])] [] [] ([(.agg [(.pv (.int .u64 n2)), (.pv (T_event_halves.pv t))])], [], []),
    Runs Try.prog 39 [(.agg [(.pv (.int .u64 e)), (.pv (T_event_halves.pv e2))])] [] [] ([(.agg [(.pv (.int .u64 n2)), (.pv (T_event_halves.pv t))])], [], []),
    Runs Try.prog 39 [(.agg [(.pv (.int .u64 e)), (.pv (T_event_halves.pv e2))])] [] [] ([(.agg [(.pv (.int .u64 n2)), (.pv (T_event_halves.pv t))])], [], []),
    Runs Try.prog 40 [(.agg [(.pv (.int .u64 e)), (.pv (T_event_halves.pv e2))])] [] [] ([(.agg [(.pv (.int .u64 n3)), (.pv (T_event_halves.pv t2))])], [], []),
    Runs Try.prog 40 [(.agg [(.pv (.int .u64 e)), (.pv (T_event_halves.pv e2))])] [] [] ([(.agg [(.pv (.int .u64 n3)), (.pv (T_event_halves.pv t2))])], [], []),
    Runs Try.prog 40 [(.agg [(.pv (.int .u64 e)), (.pv (T_event_halves.pv e2))])] [] [] ([(.agg [(.pv (.int .u64 n3)), (.pv (T_event_halves.pv t2))])], [], []),
    Runs Try.prog 39 [(.agg [(.pv (.int .u64 e)), (.pv (T_event_halves.pv e2))])] [] [] ([(.agg [(.pv (.int .u64 n2)), (.pv (T_event_halves.pv t))])], [], []),
    Runs Try.prog 40 [(.agg [(.pv (.int .u64 e)), (.pv (T_event_halves.pv e2))])] [] [] ([(.agg [(.pv (.int .u64 n3)), (.pv (T_event_halves.pv t2))])], [], []),
    Runs Try.prog 41 [(.agg [(.pv (.int .u64 e)), (.pv (T_event_halves.pv e2))])] [] [] ([(.one (.pv (.bool b)))], [], []),
    b = false,
    Runs Try.prog 18 [(.one (.ref 0 0)), (.one (.pv (.int .u64 0))), (.one (.pv (.int .i64 1)))] [[(.pv .nils), (.pv (.int .i64 n))]] [] ([], [[(.own 0 0 (l_).length false), (.pv (.int .i64 n4))]], [(.ints .u8 l_)]),
    Runs Try.prog 43 [(.agg [(.pv (.int .u64 e)), (.pv (T_event_halves.pv e2))])] [] [] ([(.one (.pv (.int .u64 e)))], [], []),
    (decide ((e : Int) = 0)) = true,
    Runs Try.prog 44 [(.agg [(.pv (.int .u64 n2)), (.pv (T_event_halves.pv t))])] [] [] ([(.one (.pv (.bool b2)))], [], []),
    b2 = false,
    Runs Try.prog 43 [(.agg [(.pv (.int .u64 e)), (.pv (T_event_halves.pv e2))])] [] [] ([(.one (.pv (.int .u64 e)))], [], []),
    (decide ((e : Int) = 0)) = true,
    Runs Try.prog 44 [(.agg [(.pv (.int .u64 n3)), (.pv (T_event_halves.pv t2))])] [] [] ([(.one (.pv (.bool b3)))], [], []),
    b3 = false,
    Runs Try.prog 43 [(.agg [(.pv (.int .u64 e)), (.pv (T_event_halves.pv e2))])] [] [] ([(.one (.pv (.int .u64 e)))], [], []),
    (decide ((e : Int) = 0)) = true,
    Runs Try.prog 18 [(.one (.ref 0 0)), (.one (.pv (.int .u64 2))), (.one (.pv (.int .i64 2)))] [[(.own 0 0 (l_).length false), (.pv (.int .i64 n4))]] [(.ints .u8 l_)] ([], [[(.own 0 0 (l_2).length false), (.pv (.int .i64 n5))]], [(.ints .u8 l_2)]),
    Runs Try.prog 43 [(.agg [(.pv (.int .u64 e)), (.pv (T_event_halves.pv e2))])] [] [] ([(.one (.pv (.int .u64 e)))], [], []),
    (decide ((0 : Int) < e)) = true,
    Runs Try.prog 43 [(.agg [(.pv (.int .u64 e)), (.pv (T_event_halves.pv e2))])] [] [] ([(.one (.pv (.int .u64 e)))], [], []),
    Runs Try.prog 42 [(.one (.ref 0 0)), (.one (.pv (.int .u64 e)))] [[(.own 0 0 (l_2).length false), (.pv (.int .i64 n5))]] [(.ints .u8 l_2)] ([], [[(.own 0 0 (l_3).length false), (.pv (.int .i64 n6))]], [(.ints .u8 l_3)]),
    LRuns Try.prog (lEnv Try.prog cfg 16 1).nt 1 (.loop (loopAt Try.prog 16 0)) ⟨[(0, (.av (.one (.ref 0 0)))), (75, (.av (.one (.own 1 0 2 true)))), (76, (.av (.one (.pv (.int .i64 2))))), (77, (.av (.one (.pv (.int .i64 0)))))], [(0, [(.own 0 0 (l_3).length false), (.pv (.int .i64 n6))])], [(0, (.live (.ints .u8 l_3))), (1, (.live (.recs 2 [[(.int .u64 n2), (T_event_halves.pv t)], [(.int .u64 n3), (T_event_halves.pv t2)]])))]⟩ (.exit 1) ⟨[], [(0, [(.own 0 0 (l_4).length false), (.pv (.int .i64 n7))])], [(0, (.live (.ints .u8 l_4))), (1, (.live (.recs 2 (List.map E_event_Event.pv [(E_event_Event.mk n2 t), (E_event_Event.mk n3 t2)]))))]⟩] := ⟨by kernel_rfl, by kernel_rfl⟩
theorem code_PutEvent_2_p6 (e : Int) (e2 : T_event_halves) (n : Int) (n2 : Int) (t : T_event_halves) (n3 : Int) (t2 : T_event_halves) (b : Bool) (n4 : Int) (l_ : List Int) (b2 : Bool) (b3 : Bool) (n5 : Int) (l_2 : List Int) (n6 : Int) (l_3 : List Int) : both (evFn Try.prog cfg (Runs Try.prog) (LRuns Try.prog (lEnv Try.prog cfg 16 1).nt 1) 16 [(.one (.ref 0 0)), (.agg [(.pv (.int .u64 e)), (.pv (T_event_halves.pv e2))])] [[(.pv .nils), (.pv (.int .i64 n))]] []
    [.res ([(.agg [(.pv (.int .u64 n2)), (.pv (T_event_halves.pv t))])], [], []), .res ([(.agg [(.pv (.int .u64 n2)), (.pv (T_event_halves.pv t))])], [], []), .res ([(.agg [(.pv (.int .u64 n2)), (.pv (T_event_halves.pv t))])], [], []), .res ([(.agg [(.pv (.int .u64 n2)), (.pv (T_event_halves.pv t))])], [], []), .res ([(.agg [(.pv (.int .u64 n2)), (.pv (T_event_halves.pv t))])], [], []), .res ([(.agg [(.pv (.int .u64 n2)), (.pv (T_event_halves.pv t))])], [], []), .res ([(.agg [(.pv (.int .u64 n2)), (.pv (T_event_halves.pv t))])], [], []), .res ([(.agg [(.pv (.int .u64 n3)), (.pv (T_event_halves.pv t2))])], [], []), .res ([(.agg [(.pv (.int .u64 n3)), (.pv (T_event_halves.pv t2))])], [], []), .res ([(.agg [(.pv (.int .u64 n3)), (.pv (T_event_halves.pv t2))])], [], []), .res ([(.agg [(.pv (.int .u64 n2)), (.pv (T_event_halves.pv t))])], [], []), .res ([(.agg [(.pv (.int .u64 n3)), (.pv (T_event_halves.pv t2))])], [], []), .res ([(.one (.pv (.bool b)))], [], []), .br false, .res ([], [[(.own 0 0 (l_).length false), (.pv (.int .i64 n4))]], [(.ints .u8 l_)]), .res ([(.one (.pv (.int .u64 e)))], [], []), .br true, .res ([(.one (.pv (.bool b2)))], [], []), .br false, .res ([(.one (.pv (.int .u64 e)))], [], []), .br true, .res ([(.one (.pv (.bool b3)))], [], []), .br false, .res ([(.one (.pv (.int .u64 e)))], [], []), .br true, .res ([], [[(.own 0 0 (l_2).length false), (.pv (.int .i64 n5))]], [(.ints .u8 l_2)]), .res ([(.one (.pv (.int .u64 e)))], [], []), .br false, .lp (.exit 1) ⟨[], [(0, [(.own 0 0 (l_3).length false), (.pv (.int .i64 n6))])], [(0, (.live (.ints .u8 l_3))), (1, (.live (.recs 2 (List.map E_event_Event.pv [(E_event_Event.mk n2 t), (E_event_Event.mk n3 t2)]))))]⟩]) (([], [[(.own 0 0 (l_3).length false), (.pv (.int .i64 n6))]], [(.ints .u8 l_3)])) [
    Runs Try.prog 39 [(.agg [(.pv (.int .u64 e)), (.pv (T_event_halves.pv e2))])] [] [] ([(.agg [(.pv (.int .u64 n2)), (.pv (T_event_halves.pv t))])], [], []),
    Runs Try.prog 39 [(.agg [(.pv (.int .u64 e)), (.pv (T_event_halves.pv e2))])] [] [] ([(.agg [(.pv (.int .u64 n2)), (.pv (T_event_halves.pv t))])], [], []),
    Runs Try.prog 39 [(.agg [(.pv (.int .u64 e)), (.pv (T_event_halves.pv e2))])] [] [] ([(.agg [(.pv (.int .u64 n2)), (.pv (T_event_halves.pv t))])], [], []),
    Runs Try.prog 39 [(.agg [(.pv (.int .u64 e)), (.pv (T_event_halves.pv e2))])] [] [] ([(.agg [(.pv (.int .u64 n2)), (.pv (T_event_halves.pv t))])], [], []),
    Runs Try.prog 39 [(.agg [(.pv (.int .u64 e)), (.pv (T_event_halves.pv e2))])] [] [] ([(.agg [(.pv (.int .u64 n2)), (.pv (T_event_halves.pv t))])], [], []),
    Runs Try.prog 39 [(.agg [(.pv (.int .u64 e)), (.pv (T_event_halves.pv e2))])] [] [] ([(.agg [(.pv (.int .u64 n2)), (.pv (T_event_halves.pv t))])], [], []),
    Runs Try.prog 39 [(.agg [(.pv (.int .u64 e)), (.pv (T_event_halves.pv e2))])] [] [] ([(.agg [(.pv (.int .u64 n2)), (.pv (T_event_halves.pv t))])], [], []),
    Runs Try.prog 40 [(.agg [(.pv (.int .u64 e)), (.pv (T_event_halves.pv e2))])] [] [] ([(.agg [(.pv (.int .u64 n3)), (.pv (T_event_halves.pv t2))])], [], []),
    Runs Try.prog 40 [(.agg [(.pv (.int .u64 e)), (.pv (T_event_halves.pv e2))])] [] [] ([(.agg [(.pv (.int .u64 n3)), (.pv (T_event_halves.pv t2))])], [], []),
    Runs Try.prog 40 [(.agg [(.pv (.int .u64 e)), (.pv (T_event_halves.pv e2))])] [] [] ([(.agg [(.pv (.int .u64 n3)), (.pv (T_event_halves.pv t2))])], [], []),
    Runs Try.prog 39 [(.agg [(.pv (.int .u64 e)), (.pv (T_event_halves.pv e2))])] [] [] ([(.agg [(.pv (.int .u64 n2)), (.pv (T_event_halves.pv t))])], [], []),
    Runs Try.prog 40 [(.agg [(.pv (.int .u64 e)), (.pv (T_event_halves.pv e2))])] [] [] ([(.agg [(.pv (.int .u64 n3)), (.pv (T_event_halves.pv t2))])], [], []),
    Runs Try.prog 41 [(.agg [(.pv (.int .u64 e)), (.pv (T_event_halves.pv e2))])] [] [] ([(.one (.pv (.bool b)))], [], []),
    b = false,
    Runs Try.prog 18 [(.one (.ref 0 0)), (.one (.pv (.int .u64 0))), (.one (.pv (.int .i64 1)))] [[(.pv .nils), (.pv (.int .i64 n))]] [] ([], [[(.own 0 0 (l_).length false), (.pv (.int .i64 n4))]], [(.ints .u8 l_)]),
    Runs Try.prog 43 [(.agg [(.pv (.int .u64 e)), (.pv (T_event_halves.pv e2))])] [] [] ([(.one (.pv (.int .u64 e)))], [], []),
    (decide ((e : Int) = 0)) = true,
    Runs Try.prog 44 [(.agg [(.pv (.int .u64 n2)), (.pv (T_event_halves.pv t))])] [] [] ([(.one (.pv (.bool b2)))], [], []),
    b2 = false,
    Runs Try.prog 43 [(.agg [(.pv (.int .u64 e)), (.pv (T_event_halves.pv e2))])] [] [] ([(.one (.pv (.int .u64 e)))], [], []),
    (decide ((e : Int) = 0)) = true,
    Runs Try.prog 44 [(.agg [(.pv (.int .u64 n3)), (.pv (T_event_halves.pv t2))])] [] [] ([(.one (.pv (.bool b3)))], [], []),
    b3 = false,
    Runs Try.prog 43 [(.agg [(.pv (.int .u64 e)), (.pv (T_event_halves.pv e2))])] [] [] ([(.one (.pv (.int .u64 e)))], [], []),
    (decide ((e : Int) = 0)) = true,
    Runs Try.prog 18 [(.one (.ref 0 0)), (.one (.pv (.int .u64 2))), (.one (.pv (.int .i64 2)))] [[(.own 0 0 (l_).length false), (.pv (.int .i64 n4))]] [(.ints .u8 l_)] ([], [[(.own 0 0 (l_2).length false), (.pv (.int .i64 n5))]], [(.ints .u8 l_2)]),
    Runs Try.prog 43 [(.agg [(.pv (.int .u64 e)), (.pv (T_event_halves.pv e2))])] [] [] ([(.one (.pv (.int .u64 e)))], [], []),
    (decide ((0 : Int) < e)) = false,
    LRuns Try.prog (lEnv Try.prog cfg 16 1).nt 1 (.loop (loopAt Try.prog 16 0)) ⟨[(0, (.av (.one (.ref 0 0)))), (75, (.av (.one (.own 1 0 2 true)))), (76, (.av (.one (.pv (.int .i64 2))))), (77, (.av (.one (.pv (.int .i64 0)))))], [(0, [(.own 0 0 (l_2).length false), (.pv (.int .i64 n5))])], [(0, (.live (.ints .u8 l_2))), (1, (.live (.recs 2 [[(.int .u64 n2), (T_event_halves.pv t)], [(.int .u64 n3), (T_event_halves.pv t2)]])))]⟩ (.exit 1) ⟨[], [(0, [(.own 0 0 (l_3).length false), (.pv (.int .i64 n6))])], [(0, (.live (.ints .u8 l_3))), (1, (.live (.recs 2 (List.map E_event_Event.pv [(E_event_Event.mk n2 t), (E_event_Event.mk n3 t2)]))))]⟩] := ⟨by kernel_rfl, by kernel_rfl⟩
theorem code_PutEvent_2_p7 (e : Int) (e2 : T_event_halves) (n : Int) (n2 : Int) (t : T_event_halves) (n3 : Int) (t2 : T_event_halves) (b : Bool) (n4 : Int) (l_ : List Int) (b2 : Bool) (n5 : Int) (l_2 : List Int) (n6 : Int) (l_3 : List Int) (n7 : Int) (l_4 : List Int) (n8 : Int) (l_5 : List Int) : both (evFn Try.prog cfg (Runs Try.prog) (LRuns Try.prog (lEnv Try.prog cfg 16 1).nt 1) 16 [(.one (.ref 0 0)), (.agg [(.pv (.int .u64 e)), (.pv (T_event_halves.pv e2))])] [[(.pv .nils), (.pv (.int .i64 n))]] []
    [.res ([(.agg [(.pv (.int .u64 n2)), (.pv (T_event_halves.pv t))])], [], []), .res ([(.agg [(.pv (.int .u64 n2)), (.pv (T_event_halves.pv t))])], [], []), .res ([(.agg [(.pv (.int .u64 n2)), (.pv (T_event_halves.pv t))])], [], []), .res ([(.agg [(.pv (.int .u64 n2)), (.pv (T_event_halves.pv t))])], [], []), .res ([(.agg [(.pv (.int .u64 n2)), (.pv (T_event_halves.pv t))])], [], []), .res ([(.agg [(.pv (.int .u64 n2)), (.pv (T_event_halves.pv t))])], [], []), .res ([(.agg [(.pv (.int .u64 n2)), (.pv (T_event_halves.pv t))])], [], []), .res ([(.agg [(.pv (.int .u64 n3)), (.pv (T_event_halves.pv t2))])], [], []), .res ([(.agg [(.pv (.int .u64 n3)), (.pv (T_event_halves.pv t2))])], [], []), .res ([(.agg [(.pv (.int .u64 n3)), (.pv (T_event_halves.pv t2))])], [], []), .res ([(.agg [(.pv (.int .u64 n2)), (.pv (T_event_halves.pv t))])], [], []), .res ([(.agg [(.pv (.int .u64 n3)), (.pv (T_event_halves.pv t2))])], [], []), .res ([(.one (.pv (.bool b)))], [], []), .br false, .res ([], [[(.own 0 0 (l_).length false), (.pv (.int .i64 n4))]], [(.ints .u8 l_)]), .res ([(.one (.pv (.int .u64 e)))], [], []), .br false, .br false, .res ([(.one (.pv (.int .u64 e)))], [], []), .br false, .br false, .res ([(.one (.pv (.int .u64 e)))], [], []), .br false, .res ([(.one (.pv (.bool b2)))], [], []), .br true, .res ([], [[(.own 0 0 (l_2).length false), (.pv (.int .i64 n5))]], [(.ints .u8 l_2)]), .res ([], [[(.own 0 0 (l_3).length false), (.pv (.int .i64 n6))]], [(.ints .u8 l_3)]), .res ([(.one (.pv (.int .u64 e)))], [], []), .br true, .res ([(.one (.pv (.int .u64 e)))], [], []), .res ([], [[(.own 0 0 (l_4).length false), (.pv (.int .i64 n7))]], [(.ints .u8 l_4)]), .lp (.exit 1) ⟨[], [(0, [(.own 0 0 (l_5).length false), (.pv (.int .i64 n8))])], [(0, (.live (.ints .u8 l_5))), (1, (.live (.recs 2 (List.map E_event_Event.pv [(E_event_Event.mk n2 t), (E_event_Event.mk n3 t2)]))))]⟩]) (([], [[(.own 0 0 (l_5).length false), (.pv (.int .i64 n8))]], [(.ints .u8 l_5)])) [
    Runs Try.prog 39 [(.agg [(.pv (.int .u64 e)), (.pv (T_event_halves.pv e2))])] [] [] ([(.agg [(.pv (.int .u64 n2)), (.pv (T_event_halves.pv t))])], [], []),
    Runs Try.prog 39 [(.agg [(.pv (.int .u64 e)), (.pv (T_event_halves.pv e2))])] [] [] ([(.agg [(.pv (.int .u64 n2)), (.pv (T_event_halves.pv t))])], [], []),
    Runs Try.prog 39 [(.agg [(.pv (.int .u64 e)), (.pv (T_event_halves.pv e2))])] [] [] ([(.agg [(.pv (.int .u64 n2)), (.pv (T_event_halves.pv t))])], [], []),
    Runs Try.prog 39 [(.agg [(.pv (.int .u64 e)), (.pv (T_event_halves.pv e2))])] [] [] ([(.agg [(.pv (.int .u64 n2)), (.pv (T_event_halves.pv t))])], [], []),
    Runs Try.prog 39 [(.agg [(.pv (.int .u64 e)), (.pv (T_event_halves.pv e2))])] [] [] ([(.agg [(.pv (.int .u64 n2)), (.pv (T_event_halves.pv t))])], [], []),
    Runs Try.prog 39 [(.agg [(.pv (.int .u64 e)), (.pv (T_event_halves.pv e2))])] [] [] ([(.agg [(.pv (.int .u64 n2)), (.pv (T_event_halves.pv t))])], [], []),
    Runs Try.prog 39 [(.agg [(.pv (.int .u64 e)), (.pv (T_event_halves.pv e2))])] [] [] ([(.agg [(.pv (.int .u64 n2)), (.pv (T_event_halves.pv t))])], [], []),
    Runs Try.prog 40 [(.agg [(.pv (.int .u64 e)), (.pv (T_event_halves.pv e2))])] [] [] ([(.agg [(.pv (.int .u64 n3)), (.pv (T_event_halves.pv t2))])], [], []),
    Runs Try.prog 40 [(.agg [(.pv (.int .u64 e)), (.pv (T_event_halves.pv e2))])] [] [] ([(.agg [(.pv (.int .u64 n3)), (.pv (T_event_halves.pv t2))])], [], []),
    Runs Try.prog 40 [(.agg [(.pv (.int .u64 e)), (.pv (T_event_halves.pv e2))])] [] [] ([(.agg [(.pv (.int .u64 n3)), (.pv (T_event_halves.pv t2))])], [], []),
    Runs Try.prog 39 [(.agg [(.pv (.int .u64 e)), (.pv (T_event_halves.pv e2))])] [] [] ([(.agg [(.pv (.int .u64 n2)), (.pv (T_event_halves.pv t))])], [], []),
    Runs Try.prog 40 [(.agg [(.pv (.int .u64 e)), (.pv (T_event_halves.pv e2))])] [] [] ([(.agg [(.pv (.int .u64 n3)), (.pv (T_event_halves.pv t2))])], [], []),
    Runs Try.prog 41 [(.agg [(.pv (.int .u64 e)), (.pv (T_event_halves.pv e2))])] [] [] ([(.one (.pv (.bool b)))], [], []),
    b = false,
    Runs Try.prog 18 [(.one (.ref 0 0)), (.one (.pv (.int .u64 0))), (.one (.pv (.int .i64 1)))] [[(.pv .nils), (.pv (.int .i64 n))]] [] ([], [[(.own 0 0 (l_).length false), (.pv (.int .i64 n4))]], [(.ints .u8 l_)]),
    Runs Try.prog 43 [(.agg [(.pv (.int .u64 e)), (.pv (T_event_halves.pv e2))])] [] [] ([(.one (.pv (.int .u64 e)))], [], []),
    (decide ((e : Int) = 0)) = false,
    false = false,
    Runs Try.prog 43 [(.agg [(.pv (.int .u64 e)), (.pv (T_event_halves.pv e2))])] [] [] ([(.one (.pv (.int .u64 e)))], [], []),
    (decide ((e : Int) = 0)) = false,
    false = false,
    Runs Try.prog 43 [(.agg [(.pv (.int .u64 e)), (.pv (T_event_halves.pv e2))])] [] [] ([(.one (.pv (.int .u64 e)))], [], []),
    (decide ((e : Int) = 0)) = false,
    Runs Try.prog 44 [(.agg [(.pv (.int .u64 n2)), (.pv (T_event_halves.pv t))])] [] [] ([(.one (.pv (.bool b2)))], [], []),
    b2 = true,
    Runs Try.prog 18 [(.one (.ref 0 0)), (.one (.pv (.int .u64 3))), (.one (.pv (.int .i64 2)))] [[(.own 0 0 (l_).length false), (.pv (.int .i64 n4))]] [(.ints .u8 l_)] ([], [[(.own 0 0 (l_2).length false), (.pv (.int .i64 n5))]], [(.ints .u8 l_2)]),
    Runs Try.prog 18 [(.one (.ref 0 0)), (.one (.pv (.int .u64 0))), (.one (.pv (.int .i64 2)))] [[(.own 0 0 (l_2).length false), (.pv (.int .i64 n5))]] [(.ints .u8 l_2)] ([], [[(.own 0 0 (l_3).length false), (.pv (.int .i64 n6))]], [(.ints .u8 l_3)]),
    Runs Try.prog 43 [(.agg [(.pv (.int .u64 e)), (.pv (T_event_halves.pv e2))])] [] [] ([(.one (.pv (.int .u64 e)))], [], []),
    (decide ((0 : Int) < e)) = true,
    Runs Try.prog 43 [(.agg [(.pv (.int .u64 e)), (.pv (T_event_halves.pv e2))])] [] [] ([(.one (.pv (.int .u64 e)))], [], []),
    Runs Try.prog 42 [(.one (.ref 0 0)), (.one (.pv (.int .u64 e)))] [[(.own 0 0 (l_3).length false), (.pv (.int .i64 n6))]] [(.ints .u8 l_3)] ([], [[(.own 0 0 (l_4).length false), (.pv (.int .i64 n7))]], [(.ints .u8 l_4)]),
    LRuns Try.prog (lEnv Try.prog cfg 16 1).nt 1 (.loop (loopAt Try.prog 16 0)) ⟨[(0, (.av (.one (.ref 0 0)))), (75, (.av (.one (.own 1 0 2 true)))), (76, (.av (.one (.pv (.int .i64 2))))), (77, (.av (.one (.pv (.int .i64 0)))))], [(0, [(.own 0 0 (l_4).length false), (.pv (.int .i64 n7))])], [(0, (.live (.ints .u8 l_4))), (1, (.live (.recs 2 [[(.int .u64 n2), (T_event_halves.pv t)], [(.int .u64 n3), (T_event_halves.pv t2)]])))]⟩ (.exit 1) ⟨[], [(0, [(.own 0 0 (l_5).length false), (.pv (.int .i64 n8))])], [(0, (.live (.ints .u8 l_5))), (1, (.live (.recs 2 (List.map E_event_Event.pv [(E_event_Event.mk n2 t), (E_event_Event.mk n3 t2)]))))]⟩] := ⟨by kernel_rfl, by kernel_rfl⟩
theorem code_PutEvent_2_p8 (e : Int) (e2 : T_event_halves) (n : Int) (n2 : Int) (t : T_event_halves) (n3 : Int) (t2 : T_event_halves) (b : Bool) (n4 : Int) (l_ : List Int) (b2 : Bool) (n5 : Int) (l_2 : List Int) (n6 : Int) (l_3 : List Int) (n7 : Int) (l_4 : List Int) : both (evFn Try.prog cfg (Runs Try.prog) (LRuns Try.prog (lEnv Try.prog cfg 16 1).nt 1) 16 [(.one (.ref 0 0)), (.agg [(.pv (.int .u64 e)), (.pv (T_event_halves.pv e2))])] [[(.pv .nils), (.pv (.int .i64 n))]] []
    [.res ([(.agg [(.pv (.int .u64 n2)), (.pv (T_event_halves.pv t))])], [], []), .res ([(.agg [(.pv (.int .u64 n2)), (.pv (T_event_halves.pv t))])], [], []), .res ([(.agg [(.pv (.int .u64 n2)), (.pv (T_event_halves.pv t))])], [], []), .res ([(.agg [(.pv (.int .u64 n2)), (.pv (T_event_halves.pv t))])], [], []), .res ([(.agg [(.pv (.int .u64 n2)), (.pv (T_event_halves.pv t))])], [], []), .res ([(.agg [(.pv (.int .u64 n2)), (.pv (T_event_halves.pv t))])], [], []), .res ([(.agg [(.pv (.int .u64 n2)), (.pv (T_event_halves.pv t))])], [], []), .res ([(.agg [(.pv (.int .u64 n3)), (.pv (T_event_halves.pv t2))])], [], []), .res ([(.agg [(.pv (.int .u64 n3)), (.pv (T_event_halves.pv t2))])], [], []), .res ([(.agg [(.pv (.int .u64 n3)), (.pv (T_event_halves.pv t2))])], [], []), .res ([(.agg [(.pv (.int .u64 n2)), (.pv (T_event_halves.pv t))])], [], []), .res ([(.agg [(.pv (.int .u64 n3)), (.pv (T_event_halves.pv t2))])], [], []), .res ([(.one (.pv (.bool b)))], [], []), .br false, .res ([], [[(.own 0 0 (l_).length false), (.pv (.int .i64 n4))]], [(.ints .u8 l_)]), .res ([(.one (.pv (.int .u64 e)))], [], []), .br false, .br false, .res ([(.one (.pv (.int .u64 e)))], [], []), .br false, .br false, .res ([(.one (.pv (.int .u64 e)))], [], []), .br false, .res ([(.one (.pv (.bool b2)))], [], []), .br true, .res ([], [[(.own 0 0 (l_2).length false), (.pv (.int .i64 n5))]], [(.ints .u8 l_2)]), .res ([], [[(.own 0 0 (l_3).length false), (.pv (.int .i64 n6))]], [(.ints .u8 l_3)]), .res ([(.one (.pv (.int .u64 e)))], [], []), .br false, .lp (.exit 1) ⟨[], [(0, [(.own 0 0 (l_4).length false), (.pv (.int .i64 n7))])], [(0, (.live (.ints .u8 l_4))), (1, (.live (.recs 2 (List.map E_event_Event.pv [(E_event_Event.mk n2 t), (E_event_Event.mk n3 t2)]))))]⟩]) (([], [[(.own 0 0 (l_4).length false), (.pv (.int .i64 n7))]], [(.ints .u8 l_4)])) [
    Runs Try.prog 39 [(.agg [(.pv (.int .u64 e)), (.pv (T_event_halves.pv e2))])] [] [] ([(.agg [(.pv (.int .u64 n2)), (.pv (T_event_halves.pv t))])], [], []),
    Runs Try.prog 39 [(.agg [(.pv (.int .u64 e)), (.pv (T_event_halves.pv e2))])] [] [] ([(.agg [(.pv (.int .u64 n2)), (.pv (T_event_halves.pv t))])], [], []),
    Runs Try.prog 39 [(.agg [(.pv (.int .u64 e)), (.pv (T_event_halves.pv e2))])] [] [] ([(.agg [(.pv (.int .u64 n2)), (.pv (T_event_halves.pv t))])], [], []),
    Runs Try.prog 39 [(.agg [(.pv (.int .u64 e)), (.pv (T_event_halves.pv e2))])] [] [] ([(.agg [(.pv (.int .u64 n2)), (.pv (T_event_halves.pv t))])], [], []),
    Runs Try.prog 39 [(.agg [(.pv (.int .u64 e)), (.pv (T_event_halves.pv e2))])] [] [] ([(.agg [(.pv (.int .u64 n2)), (.pv (T_event_halves.pv t))])], [], []),
    Runs Try.prog 39 [(.agg [(.pv (.int .u64 e)), (.pv (T_event_halves.pv e2))])] [] [] ([(.agg [(.pv (.int .u64 n2)), (.pv (T_event_halves.pv t))])], [], []),
    Runs Try.prog 39 [(.agg [(.pv (.int .u64 e)), (.pv (T_event_halves.pv e2))])] [] [] ([(.agg [(.pv (.int .u64 n2)), (.pv (T_event_halves.pv t))])], [], []),
    Runs Try.prog 40 [(.agg [(.pv (.int .u64 e)), (.pv (T_event_halves.pv e2))])] [] [] ([(.agg [(.pv (.int .u64 n3)), (.pv (T_event_halves.pv t2))])], [], []),
    Runs Try.prog 40 [(.agg [(.pv (.int .u64 e)), (.pv (T_event_halves.pv e2))])] [] [] ([(.agg [(.pv (.int .u64 n3)), (.pv (T_event_halves.pv t2))])], [], []),
    Runs Try.prog 40 [(.agg [(.pv (.int .u64 e)), (.pv (T_event_halves.pv e2))])] [] [] ([(.agg [(.pv (.int .u64 n3)), (.pv (T_event_halves.pv t2))])], [], []),
    Runs Try.prog 39 [(.agg [(.pv (.int .u64 e)), (.pv (T_event_halves.pv e2))])] [] [] ([(.agg [(.pv (.int .u64 n2)), (.pv (T_event_halves.pv t))])], [], []),
    Runs Try.prog 40 [(.agg [(.pv (.int .u64 e)), (.pv (T_event_halves.pv e2))])] [] [] ([(.agg [(.pv (.int .u64 n3)), (.pv (T_event_halves.pv t2))])], [], []),
    Runs Try.prog 41 [(.agg [(.pv (.int .u64 e)), (.pv (T_event_halves.pv e2))])] [] [] ([(.one (.pv (.bool b)))], [], []),
    b = false,
    Runs Try.prog 18 [(.one (.ref 0 0)), (.one (.pv (.int .u64 0))), (.one (.pv (.int .i64 1)))] [[(.pv .nils), (.pv (.int .i64 n))]] [] ([], [[(.own 0 0 (l_).length false), (.pv (.int .i64 n4))]], [(.ints .u8 l_)]),
    Runs Try.prog 43 [(.agg [(.pv (.int .u64 e)), (.pv (T_event_halves.pv e2))])] [] [] ([(.one (.pv (.int .u64 e)))], [], []),
    (decide ((e : Int) = 0)) = false,
    false = false,
    Runs Try.prog 43 [(.agg [(.pv (.int .u64 e)), (.pv (T_event_halves.pv e2))])] [] [] ([(.one (.pv (.int .u64 e)))], [], []),
    (decide ((e : Int) = 0)) = false,
    false = false,
    Runs Try.prog 43 [(.agg [(.pv (.int .u64 e)), (.pv (T_event_halves.pv e2))])] [] [] ([(.one (.pv (.int .u64 e)))], [], []),
    (decide ((e : Int) = 0)) = false,
    Runs Try.prog 44 [(.agg [(.pv (.int .u64 n2)), (.pv (T_event_halves.pv t))])] [] [] ([(.one (.pv (.bool b2)))], [], []),
    b2 = true,
    Runs Try.prog 18 [(.one (.ref 0 0)), (.one (.pv (.int .u64 3))), (.one (.pv (.int .i64 2)))] [[(.own 0 0 (l_).length false), (.pv (.int .i64 n4))]] [(.ints .u8 l_)] ([], [[(.own 0 0 (l_2).length false), (.pv (.int .i64 n5))]], [(.ints .u8 l_2)]),
    Runs Try.prog 18 [(.one (.ref 0 0)), (.one (.pv (.int .u64 0))), (.one (.pv (.int .i64 2)))] [[(.own 0 0 (l_2).length false), (.pv (.int .i64 n5))]] [(.ints .u8 l_2)] ([], [[(.own 0 0 (l_3).length false), (.pv (.int .i64 n6))]], [(.ints .u8 l_3)]),
    Runs Try.prog 43 [(.agg [(.pv (.int .u64 e)), (.pv (T_event_halves.pv e2))])] [] [] ([(.one (.pv (.int .u64 e)))], [], []),
    (decide ((0 : Int) < e)) = false,
    LRuns Try.prog (lEnv Try.prog cfg 16 1).nt 1 (.loop (loopAt Try.prog 16 0)) ⟨[(0, (.av (.one (.ref 0 0)))), (75, (.av (.one (.own 1 0 2 true)))), (76, (.av (.one (.pv (.int .i64 2))))), (77, (.av (.one (.pv (.int .i64 0)))))], [(0, [(.own 0 0 (l_3).length false), (.pv (.int .i64 n6))])], [(0, (.live (.ints .u8 l_3))), (1, (.live (.recs 2 [[(.int .u64 n2), (T_event_halves.pv t)], [(.int .u64 n3), (T_event_halves.pv t2)]])))]⟩ (.exit 1) ⟨[], [(0, [(.own 0 0 (l_4).length false), (.pv (.int .i64 n7))])], [(0, (.live (.ints .u8 l_4))), (1, (.live (.recs 2 (List.map E_event_Event.pv [(E_event_Event.mk n2 t), (E_event_Event.mk n3 t2)]))))]⟩] := ⟨by kernel_rfl, by kernel_rfl⟩
theorem code_PutEvent_2_p9 (e : Int) (e2 : T_event_halves) (n : Int) (n2 : Int) (t : T_event_halves) (n3 : Int) (t2 : T_event_halves) (b : Bool) (n4 : Int) (l_ : List Int) (b2 : Bool) (b3 : Bool) (n5 : Int) (l_2 : List Int) (n6 : Int) (l_3 : List Int) (n7 : Int) (l_4 : List Int) (n8 : Int) (l_5 : List Int) : both (evFn Try.prog cfg (Runs Try.prog) (LRuns Try.prog (lEnv Try.prog cfg 16 1).nt 1) 16 [(.one (.ref 0 0)), (.agg [(.pv (.int .u64 e)), (.pv (T_event_halves.pv e2))])] [[(.pv .nils), (.pv (.int .i64 n))]] []
    [.res ([(.agg [(.pv (.int .u64 n2)), (.pv (T_event_halves.pv t))])], [], []), .res ([(.agg [(.pv (.int .u64 n2)), (.pv (T_event_halves.pv t))])], [], []), .res ([(.agg [(.pv (.int .u64 n2)), (.pv (T_event_halves.pv t))])], [], []), .res ([(.agg [(.pv (.int .u64 n2)), (.pv (T_event_halves.pv t))])], [], []), .res ([(.agg [(.pv (.int .u64 n2)), (.pv (T_event_halves.pv t))])], [], []), .res ([(.agg [(.pv (.int .u64 n2)), (.pv (T_event_halves.pv t))])], [], []), .res ([(.agg [(.pv (.int .u64 n2)), (.pv (T_event_halves.pv t))])], [], []), .res ([(.agg [(.pv (.int .u64 n3)), (.pv (T_event_halves.pv t2))])], [], []), .res ([(.agg [(.pv (.int .u64 n3)), (.pv (T_event_halves.pv t2))])], [], []), .res ([(.agg [(.pv (.int .u64 n3)), (.pv (T_event_halves.pv t2))])], [], []), .res ([(.agg [(.pv (.int .u64 n2)), (.pv (T_event_halves.pv t))])], [], []), .res ([(.agg [(.pv (.int .u64 n3)), (.pv (T_event_halves.pv t2))])], [], []), .res ([(.one (.pv (.bool b)))], [], []), .br false, .res ([], [[(.own 0 0 (l_).length false), (.pv (.int .i64 n4))]], [(.ints .u8 l_)]), .res ([(.one (.pv (.int .u64 e)))], [], []), .br false, .br false, .res ([(.one (.pv (.int .u64 e)))], [], []), .br false, .br false, .res ([(.one (.pv (.int .u64 e)))], [], []), .br false, .res ([(.one (.pv (.bool b2)))], [], []), .br false, .res ([(.one (.pv (.bool b3)))], [], []), .br true, .res ([], [[(.own 0 0 (l_2).length false), (.pv (.int .i64 n5))]], [(.ints .u8 l_2)]), .res ([], [[(.own 0 0 (l_3).length false), (.pv (.int .i64 n6))]], [(.ints .u8 l_3)]), .res ([(.one (.pv (.int .u64 e)))], [], []), .br true, .res ([(.one (.pv (.int .u64 e)))], [], []), .res ([], [[(.own 0 0 (l_4).length false), (.pv (.int .i64 n7))]], [(.ints .u8 l_4)]), .lp (.exit 1) ⟨[], [(0, [(.own 0 0 (l_5).length false), (.pv (.int .i64 n8))])], [(0, (.live (.ints .u8 l_5))), (1, (.live (.recs 2 (List.map E_event_Event.pv [(E_event_Event.mk n2 t), (E_event_Event.mk n3 t2)]))))]⟩]) (([], [[(.own 0 0 (l_5).length false), (.pv (.int .i64 n8))]], [(.ints .u8 l_5)])) [
    Runs Try.prog 39 [(.agg [(.pv (.int .u64 e)), (.pv (T_event_halves.pv e2))])] [] [] ([(.agg [(.pv (.int .u64 n2)), (.pv (T_event_halves.pv t))])], [], []),
    Runs Try.prog 39 [(.agg [(.pv (.int .u64 e)), (.pv (T_event_halves.pv e2))])] [] [] ([(.agg [(.pv (.int .u64 n2)), (.pv (T_event_halves.pv t))])], [], []),
    Runs Try.prog 39 [(.agg [(.pv (.int .u64 e)), (.pv (T_event_halves.pv e2))])] [] [] ([(.agg [(.pv (.int .u64 n2)), (.pv (T_event_halves.pv t))])], [], []),
    Runs Try.prog 39 [(.agg [(.pv (.int .u64 e)), (.pv (T_event_halves.pv e2))])] [] [] ([(.agg [(.pv (.int .u64 n2)), (.pv (T_event_halves.pv t))])], [], []),
    Runs Try.prog 39 [(.agg [(.pv (.int .u64 e)), (.pv (T_event_halves.pv e2))])] [] [] ([(.agg [(.pv (.int .u64 n2)), (.pv (T_event_halves.pv t))])], [], []),
    Runs Try.prog 39 [(.agg [(.pv (.int .u64 e)), (.pv (T_event_halves.pv e2))])] [] [] ([(.agg [(.pv (.int .u64 n2)), (.pv (T_event_halves.pv t))])], [], []),
    Runs Try.prog 39 [(.agg [(.pv (.int .u64 e)), (.pv (T_event_halves.pv e2))])] [] [] ([(.agg [(.pv (.int .u64 n2)), (.pv (T_event_halves.pv t))])], [], []),
    Runs Try.prog 40 [(.agg [(.pv (.int .u64 e)), (.pv (T_event_halves.pv e2))])] [] [] ([(.agg [(.pv (.int .u64 n3)), (.pv (T_event_halves.pv t2))])], [], []),
    Runs Try.prog 40 [(.agg [(.pv (.int .u64 e)), (.pv (T_event_halves.pv e2))])] [] [] ([(.agg [(.pv (.int .u64 n3)), (.pv (T_event_halves.pv t2))])], [], []),
    Runs Try.prog 40 [(.agg [(.pv (.int .u64 e)), (.pv (T_event_halves.pv e2))])] [] [] ([(.agg [(.pv (.int .u64 n3)), (.pv (T_event_halves.pv t2))])], [], []),
    Runs Try.prog 39 [(.agg [(.pv (.int .u64 e)), (.pv (T_event_halves.pv e2))])] [] [] ([(.agg [(.pv (.int .u64 n2)), (.pv (T_event_halves.pv t))])], [], []),
    Runs Try.prog 40 [(.agg [(.pv (.int .u64 e)), (.pv (T_event_halves.pv e2))])] [] [] ([(.agg [(.pv (.int .u64 n3)), (.pv (T_event_halves.pv t2))])], [], []),
    Runs Try.prog 41 [(.agg [(.pv (.int .u64 e)), (.pv (T_event_halves.pv e2))])] [] [] ([(.one (.pv (.bool b)))], [], []),
    b = false,
    Runs Try.prog 18 [(.one (.ref 0 0)), (.one (.pv (.int .u64 0))), (.one (.pv (.int .i64 1)))] [[(.pv .nils), (.pv (.int .i64 n))]] [] ([], [[(.own 0 0 (l_).length false), (.pv (.int .i64 n4))]], [(.ints .u8 l_)]),
    Runs Try.prog 43 [(.agg [(.pv (.int .u64 e)), (.pv (T_event_halves.pv e2))])] [] [] ([(.one (.pv (.int .u64 e)))], [], []),
    (decide ((e : Int) = 0)) = false,
    false = false,
    Runs Try.prog 43 [(.agg [(.pv (.int .u64 e)), (.pv (T_event_halves.pv e2))])] [] [] ([(.one (.pv (.int .u64 e)))], [], []),
    (decide ((e : Int) = 0)) = false,
    false = false,
    Runs Try.prog 43 [(.agg [(.pv (.int .u64 e)), (.pv (T_event_halves.pv e2))])] [] [] ([(.one (.pv (.int .u64 e)))], [], []),
    (decide ((e : Int) = 0)) = false,
    Runs Try.prog 44 [(.agg [(.pv (.int .u64 n2)), (.pv (T_event_halves.pv t))])] [] [] ([(.one (.pv (.bool b2)))], [], []),
    b2 = false,
    Runs Try.prog 44 [(.agg [(.pv (.int .u64 n3)), (.pv (T_event_halves.pv t2))])] [] [] ([(.one (.pv (.bool b3)))], [], []),
    b3 = true,
    Runs Try.prog 18 [(.one (.ref 0 0)), (.one (.pv (.int .u64 3))), (.one (.pv (.int .i64 2)))] [[(.own 0 0 (l_).length false), (.pv (.int .i64 n4))]] [(.ints .u8 l_)] ([], [[(.own 0 0 (l_2).length false), (.pv (.int .i64 n5))]], [(.ints .u8 l_2)]),
    Runs Try.prog 18 [(.one (.ref 0 0)), (.one (.pv (.int .u64 1))), (.one (.pv (.int .i64 2)))] [[(.own 0 0 (l_2).length false), (.pv (.int .i64 n5))]] [(.ints .u8 l_2)] ([], [[(.own 0 0 (l_3).length false), (.pv (.int .i64 n6))]], [(.ints .u8 l_3)]),
    Runs Try.prog 43 [(.agg [(.pv (.int .u64 e)), (.pv (T_event_halves.pv e2))])] [] [] ([(.one (.pv (.int .u64 e)))], [], []),
    (decide ((0 : Int) < e)) = true,
    Runs Try.prog 43 [(.agg [(.pv (.int .u64 e)), (.pv (T_event_halves.pv e2))])] [] [] ([(.one (.pv (.int .u64 e)))], [], []),
    Runs Try.prog 42 [(.one (.ref 0 0)), (.one (.pv (.int .u64 e)))] [[(.own 0 0 (l_3).length false), (.pv (.int .i64 n6))]] [(.ints .u8 l_3)] ([], [[(.own 0 0 (l_4).length false), (.pv (.int .i64 n7))]], [(.ints .u8 l_4)]),
    LRuns Try.prog (lEnv Try.prog cfg 16 1).nt 1 (.loop (loopAt Try.prog 16 0)) ⟨[(0, (.av (.one (.ref 0 0)))), (75, (.av (.one (.own 1 0 2 true)))), (76, (.av (.one (.pv (.int .i64 2))))), (77, (.av (.one (.pv (.int .i64 0)))))], [(0, [(.own 0 0 (l_4).length false), (.pv (.int .i64 n7))])], [(0, (.live (.ints .u8 l_4))), (1, (.live (.recs 2 [[(.int .u64 n2), (T_event_halves.pv t)], [(.int .u64 n3), (T_event_halves.pv t2)]])))]⟩ (.exit 1) ⟨[], [(0, [(.own 0 0 (l_5).length false), (.pv (.int .i64 n8))])], [(0, (.live (.ints .u8 l_5))), (1, (.live (.recs 2 (List.map E_event_Event.pv [(E_event_Event.mk n2 t), (E_event_Event.mk n3 t2)]))))]⟩] := ⟨by kernel_rfl, by kernel_rfl⟩
theorem code_PutEvent_2_p10 (e : Int) (e2 : T_event_halves) (n : Int) (n2 : Int) (t : T_event_halves) (n3 : Int) (t2 : T_event_halves) (b : Bool) (n4 : Int) (l_ : List Int) (b2 : Bool) (b3 : Bool) (n5 : Int) (l_2 : List Int) (n6 : Int) (l_3 : List Int) (n7 : Int) (l_4 : List Int) : both (evFn Try.prog cfg (Runs Try.prog) (LRuns Try.prog (lEnv Try.prog cfg 16 1).nt 1) 16 [(.one (.ref 0 0)), (.agg [(.pv (.int .u64 e)), (.pv (T_event_halves.pv e2))])] [[(.pv .nils), (.pv (.int .i64 n))]] []
    [.res ([(.agg [(.pv (.int .u64 n2)), (.pv (T_event_halves.pv t))])], [], []), .res ([(.agg [(.pv (.int .u64 n2)), (.pv (T_event_halves.pv t))])], [], []), .res ([(.agg [(.pv (.int .u64 n2)), (.pv (T_event_halves.pv t))])], [], []), .res ([(.agg [(.pv (.int .u64 n2)), (.pv (T_event_halves.pv t))])], [], []), .res ([(.agg [(.pv (.int .u64 n2)), (.pv (T_event_halves.pv t))])], [], []), .res ([(.agg [(.pv (.int .u64 n2)), (.pv (T_event_halves.pv t))])], [], []), .res ([(.agg [(.pv (.int .u64 n2)), (.pv (T_event_halves.pv t))])], [], []), .res ([(.agg [(.pv (.int .u64 n3)), (.pv (T_event_halves.pv t2))])], [], []), .res ([(.agg [(.pv (.int .u64 n3)), (.pv (T_event_halves.pv t2))])], [], []), .res ([(.agg [(.pv (.int .u64 n3)), (.pv (T_event_halves.pv t2))])], [], []), .res ([(.agg [(.pv (.int .u64 n2)), (.pv (T_event_halves.pv t))])], [], []), .res ([(.agg [(.pv (.int .u64 n3)), (.pv (T_event_halves.pv t2))])], [], []), .res ([(.one (.pv (.bool b)))], [], []), .br false, .res ([], [[(.own 0 0 (l_).length false), (.pv (.int .i64 n4))]], [(.ints .u8 l_)]), .res ([(.one (.pv (.int .u64 e)))], [], []), .br false, .br false, .res ([(.one (.pv (.int .u64 e)))], [], []), .br false, .br false, .res ([(.one (.pv (.int .u64 e)))], [], []), .br false, .res ([(.one (.pv (.bool b2)))], [], []), .br false, .res ([(.one (.pv (.bool b3)))], [], []), .br true, .res ([], [[(.own 0 0 (l_2).length false), (.pv (.int .i64 n5))]], [(.ints .u8 l_2)]), .res ([], [[(.own 0 0 (l_3).length false), (.pv (.int .i64 n6))]], [(.ints .u8 l_3)]), .res ([(.one (.pv (.int .u64 e)))], [], []), .br false, .lp (.exit 1) ⟨[], [(0, [(.own 0 0 (l_4).length false), (.pv (.int .i64 n7))])], [(0, (.live (.ints .u8 l_4))), (1, (.live (.recs 2 (List.map E_event_Event.pv [(E_event_Event.mk n2 t), (E_event_Event.mk n3 t2)]))))]⟩]) (([], [[(.own 0 0 (l_4).length false), (.pv (.int .i64 n7))]], [(.ints .u8 l_4)])) [
    Runs Try.prog 39 [(.agg [(.pv (.int .u64 e)), (.pv (T_event_halves.pv e2))])] [] [] ([(.agg [(.pv (.int .u64 n2)), (.pv (T_event_halves.pv t))])], [], []),
    Runs Try.prog 39 [(.agg [(.pv (.int .u64 e)), (.pv (T_event_halves.pv e2))])] [] [] ([(.agg [(.pv (.int .u64 n2)), (.pv (T_event_halves.pv t))])], [], []),
    Runs Try.prog 39 [(.agg [(.pv (.int .u64 e)), (.pv (T_event_halves.pv e2))])] [] [] ([(.agg [(.pv (.int .u64 n2)), (.pv (T_event_halves.pv t))])], [], []),
    Runs Try.prog 39 [(.agg [(.pv (.int .u64 e)), (.pv (T_event_halves.pv e2))])] [] [] ([(.agg [(.pv (.int .u64 n2)), (.pv (T_event_halves.pv t))])], [], []),
    Runs Try.prog 39 [(.agg [(.pv (.int .u64 e)), (.pv (T_event_halves.pv e2))])] [] [] ([(.agg [(.pv (.int .u64 n2)), (.pv (T_event_halves.pv t))])], [], []),
    Runs Try.prog 39 [(.agg [(.pv (.int .u64 e)), (.pv (T_event_halves.pv e2))])] [] [] ([(.agg [(.pv (.int .u64 n2)), (.pv (T_event_halves.pv t))])], [], []),
    Runs Try.prog 39 [(.agg [(.pv (.int .u64 e)), (.pv (T_event_halves.pv e2))])] [] [] ([(.agg [(.pv (.int .u64 n2)), (.pv (T_event_halves.pv t))])], [], []),
    Runs Try.prog 40 [(.agg [(.pv (.int .u64 e)), (.pv (T_event_halves.pv e2))])] [] [] ([(.agg [(.pv (.int .u64 n3)), (.pv (T_event_halves.pv t2))])], [], []),
    Runs Try.prog 40 [(.agg [(.pv (.int .u64 e)), (.pv (T_event_halves.pv e2))])] [] [] ([(.agg [(.pv (.int .u64 n3)), (.pv (T_event_halves.pv t2))])], [], []),
    Runs Try.prog 40 [(.agg [(.pv (.int .u64 e)), (.pv (T_event_halves.pv e2))])] [] [] ([(.agg [(.pv (.int .u64 n3)), (.pv (T_event_halves.pv t2))])], [], []),
    Runs Try.prog 39 [(.agg [(.pv (.int .u64 e)), (.pv (T_event_halves.pv e2))])] [] [] ([(.agg [(.pv (.int .u64 n2)), (.pv (T_event_halves.pv t))])], [], []),
    Runs Try.prog 40 [(.agg [(.pv (.int .u64 e)), (.pv (T_event_halves.pv e2))])] [] [] ([(.agg [(.pv (.int .u64 n3)), (.pv (T_event_halves.pv t2))])], [], []),
    Runs Try.prog 41 [(.agg [(.pv (.int .u64 e)), (.pv (T_event_halves.pv e2))])] [] [] ([(.one (.pv (.bool b)))], [], []),
    b = false,
    Runs Try.prog 18 [(.one (.ref 0 0)), (.one (.pv (.int .u64 0))), (.one (.pv (.int .i64 1)))] [[(.pv .nils), (.pv (.int .i64 n))]] [] ([], [[(.own 0 0 (l_).length false), (.pv (.int .i64 n4))]], [(.ints .u8 l_)]),
    Runs Try.prog 43 [(.agg [(.pv (.int .u64 e)), (.pv (T_event_halves.pv e2))])] [] [] ([(.one (.pv (.int .u64 e)))], [], []),
    (decide ((e : Int) = 0)) = false,
    false = false,
    Runs Try.prog 43 [(.agg [(.pv (.int .u64 e)), (.pv (T_event_halves.pv e2))])] [] [] ([(.one (.pv (.int .u64 e)))], [], []),
    (decide ((e : Int) = 0)) = false,
    false = false,
    Runs Try.prog 43 [(.agg [(.pv (.int .u64 e)), (.pv (T_event_halves.pv e2))])] [] [] ([(.one (.pv (.int .u64 e)))], [], []),
    (decide ((e : Int) = 0)) = false,
    Runs Try.prog 44 [(.agg [(.pv (.int .u64 n2)), (.pv (T_event_halves.pv t))])] [] [] ([(.one (.pv (.bool b2)))], [], []),
    b2 = false,
    Runs Try.prog 44 [(.agg [(.pv (.int .u64 n3)), (.pv (T_event_halves.pv t2))])] [] [] ([(.one (.pv (.bool b3)))], [], []),
    b3 = true,
    Runs Try.prog 18 [(.one (.ref 0 0)), (.one (.pv (.int .u64 3))), (.one (.pv (.int .i64 2)))] [[(.own 0 0 (l_).length false), (.pv (.int .i64 n4))]] [(.ints .u8 l_)] ([], [[(.own 0 0 (l_2).length false), (.pv (.int .i64 n5))]], [(.ints .u8 l_2)]),
    Runs Try.prog 18 [(.one (.ref 0 0)), (.one (.pv (.int .u64 1))), (.one (.pv (.int .i64 2)))] [[(.own 0 0 (l_2).length false), (.pv (.int .i64 n5))]] [(.ints .u8 l_2)] ([], [[(.own 0 0 (l_3).length false), (.pv (.int .i64 n6))]], [(.ints .u8 l_3)]),
    Runs Try.prog 43 [(.agg [(.pv (.int .u64 e)), (.pv (T_event_halves.pv e2))])] [] [] ([(.one (.pv (.int .u64 e)))], [], []),
    (decide ((0 : Int) < e)) = false,
    LRuns Try.prog (lEnv Try.prog cfg 16 1).nt 1 (.loop (loopAt Try.prog 16 0)) ⟨[(0, (.av (.one (.ref 0 0)))), (75, (.av (.one (.own 1 0 2 true)))), (76, (.av (.one (.pv (.int .i64 2))))), (77, (.av (.one (.pv (.int .i64 0)))))], [(0, [(.own 0 0 (l_3).length false), (.pv (.int .i64 n6))])], [(0, (.live (.ints .u8 l_3))), (1, (.live (.recs 2 [[(.int .u64 n2), (T_event_halves.pv t)], [(.int .u64 n3), (T_event_halves.pv t2)]])))]⟩ (.exit 1) ⟨[], [(0, [(.own 0 0 (l_4).length false), (.pv (.int .i64 n7))])], [(0, (.live (.ints .u8 l_4))), (1, (.live (.recs 2 (List.map E_event_Event.pv [(E_event_Event.mk n2 t), (E_event_Event.mk n3 t2)]))))]⟩] := ⟨by kernel_rfl, by kernel_rfl⟩
theorem code_PutEvent_2_p11 (e : Int) (e2 : T_event_halves) (n : Int) (n2 : Int) (t : T_event_halves) (n3 : Int) (t2 : T_event_halves) (b : Bool) (n4 : Int) (l_ : List Int) (b2 : Bool) (b3 : Bool) (n5 : Int) (l_2 : List Int) (n6 : Int) (l_3 : List Int) (n7 : Int) (l_4 : List Int) (n8 : Int) (l_5 : List Int) : both (evFn Try.prog cfg (Runs Try.prog) (LRuns Try.prog (lEnv Try.prog cfg 16 1).nt 1) 16 [(.one (.ref 0 0)), (.agg [(.pv (.int .u64 e)), (.pv (T_event_halves.pv e2))])] [[(.pv .nils), (.pv (.int .i64 n))]] []
    [.res ([(.agg [(.pv (.int .u64 n2)), (.pv (T_event_halves.pv t))])], [], []), .res ([(.agg [(.pv (.int .u64 n2)), (.pv (T_event_halves.pv t))])], [], []), .res ([(.agg [(.pv (.int .u64 n2)), (.pv (T_event_halves.pv t))])], [], []), .res ([(.agg [(.pv (.int .u64 n2)), (.pv (T_event_halves.pv t))])], [], []), .res ([(.agg [(.pv (.int .u64 n2)), (.pv (T_event_halves.pv t))])], [], []), .res ([(.agg [(.pv (.int .u64 n2)), (.pv (T_event_halves.pv t))])], [], []), .res ([(.agg [(.pv (.int .u64 n2)), (.pv (T_event_halves.pv t))])], [], []), .res ([(.agg [(.pv (.int .u64 n3)), (.pv (T_event_halves.pv t2))])], [], []), .res ([(.agg [(.pv (.int .u64 n3)), (.pv (T_event_halves.pv t2))])], [], []), .res ([(.agg [(.pv (.int .u64 n3)), (.pv (T_event_halves.pv t2))])], [], []), .res ([(.agg [(.pv (.int .u64 n2)), (.pv (T_event_halves.pv t))])], [], []), .res ([(.agg [(.pv (.int .u64 n3)), (.pv (T_event_halves.pv t2))])], [], []), .res ([(.one (.pv (.bool b)))], [], []), .br false, .res ([], [[(.own 0 0 (l_).length false), (.pv (.int .i64 n4))]], [(.ints .u8 l_)]), .res ([(.one (.pv (.int .u64 e)))], [], []), .br false, .br false, .res ([(.one (.pv (.int .u64 e)))], [], []), .br false, .br false, .res ([(.one (.pv (.int .u64 e)))], [], []), .br false, .res ([(.one (.pv (.bool b2)))], [], []), .br false, .res ([(.one (.pv (.bool b3)))], [], []), .br false, .res ([], [[(.own 0 0 (l_2).length false), (.pv (.int .i64 n5))]], [(.ints .u8 l_2)]), .res ([], [[(.own 0 0 (l_3).length false), (.pv (.int .i64 n6))]], [(.ints .u8 l_3)]), .res ([(.one (.pv (.int .u64 e)))], [], []), .br true, .res ([(.one (.pv (.int .u64 e)))], [], []), .res ([], [[(.own 0 0 (l_4).length false), (.pv (.int .i64 n7))]], [(.ints .u8 l_4)]), .lp (.exit 1) ⟨[], [(0, [(.own 0 0 (l_5).length false), (.pv (.int .i64 n8))])], [(0, (.live (.ints .u8 l_5))), (1, (.live (.recs 2 (List.map E_event_Event.pv [(E_event_Event.mk n2 t), (E_event_Event.mk n3 t2)]))))]⟩]) (([], [[(.own 0 0 (l_5).length false), (.pv (.int .i64 n8))]], [(.ints .u8 l_5)])) [
    Runs Try.prog 39 [(.agg [(.pv (.int .u64 e)), (.pv (T_event_halves.pv e2))])] [] [] ([(.agg [(.pv (.int .u64 n2)), (.pv (T_event_halves.pv t))])], [], []),
    Runs Try.prog 39 [(.agg [(.pv (.int .u64 e)), (.pv (T_event_halves.pv e2))])] [] [] ([(.agg [(.pv (.int .u64 n2)), (.pv (T_event_halves.pv t))])], [], []),
    Runs Try.prog 39 [(.agg [(.pv (.int .u64 e)), (.pv (T_event_halves.pv e2))])] [] [] ([(.agg [(.pv (.int .u64 n2)), (.pv (T_event_halves.pv t))])], [], []),
    Runs Try.prog 39 [(.agg [(.pv (.int .u64 e)), (.pv (T_event_halves.pv e2))])] [] [] ([(.agg [(.pv (.int .u64 n2)), (.pv (T_event_halves.pv t))])], [], []),
    Runs Try.prog 39 [(.agg [(.pv (.int .u64 e)), (.pv (T_event_halves.pv e2))])] [] [] ([(.agg [(.pv (.int .u64 n2)), (.pv (T_event_halves.pv t))])], [], []),
    Runs Try.prog 39 [(.agg [(.pv (.int .u64 e)), (.pv (T_event_halves.pv e2))])] [] [] ([(.agg [(.pv (.int .u64 n2)), (.pv (T_event_halves.pv t))])], [], []),
    Runs Try.prog 39 [(.agg [(.pv (.int .u64 e)), (.pv (T_event_halves.pv e2))])] [] [] ([(.agg [(.pv (.int .u64 n2)), (.pv (T_event_halves.pv t))])], [], []),
    Runs Try.prog 40 [(.agg [(.pv (.int .u64 e)), (.pv (T_event_halves.pv e2))])] [] [] ([(.agg [(.pv (.int .u64 n3)), (.pv (T_event_halves.pv t2))])], [], []),
    Runs Try.prog 40 [(.agg [(.pv (.int .u64 e)), (.pv (T_event_halves.pv e2))])] [] [] ([(.agg [(.pv (.int .u64 n3)), (.pv (T_event_halves.pv t2))])], [], []),
    Runs Try.prog 40 [(.agg [(.pv (.int .u64 e)), (.pv (T_event_halves.pv e2))])] [] [] ([(.agg [(.pv (.int .u64 n3)), (.pv (T_event_halves.pv t2))])], [], []),
    Runs Try.prog 39 [(.agg [(.pv (.int .u64 e)), (.pv (T_event_halves.pv e2))])] [] [] ([(.agg [(.pv (.int .u64 n2)), (.pv (T_event_halves.pv t))])], [], []),
    Runs Try.prog 40 [(.agg [(.pv (.int .u64 e)), (.pv (T_event_halves.pv e2))])] [] [] ([(.agg [(.pv (.int .u64 n3)), (.pv (T_event_halves.pv t2))])], [], []),
    Runs Try.prog 41 [(.agg [(.pv (.int .u64 e)), (.pv (T_event_halves.pv e2))])] [] [] ([(.one (.pv (.bool b)))], [], []),
    b = false,
    Runs Try.prog 18 [(.one (.ref 0 0)), (.one (.pv (.int .u64 0))), (.one (.pv (.int .i64 1)))] [[(.pv .nils), (.pv (.int .i64 n))]] [] ([], [[(.own 0 0 (l_).length false), (.pv (.int .i64 n4))]], [(.ints .u8 l_)]),
    Runs Try.prog 43 [(.agg [(.pv (.int .u64 e)), (.pv (T_event_halves.pv e2))])] [] [] ([(.one (.pv (.int .u64 e)))], [], []),
    (decide ((e : Int) = 0)) = false,
    false = false,
    Runs Try.prog 43 [(.agg [(.pv (.int .u64 e)), (.pv (T_event_halves.pv e2))])] [] [] ([(.one (.pv (.int .u64 e)))], [], []),
    (decide ((e : Int) = 0)) = false,
    false = false,
    Runs Try.prog 43 [(.agg [(.pv (.int .u64 e)), (.pv (T_event_halves.pv e2))])] [] [] ([(.one (.pv (.int .u64 e)))], [], []),
    (decide ((e : Int) = 0)) = false,
    Runs Try.prog 44 [(.agg [(.pv (.int .u64 n2)), (.pv (T_event_halves.pv t))])] [] [] ([(.one (.pv (.bool b2)))], [], []),
    b2 = false,
    Runs Try.prog 44 [(.agg [(.pv (.int .u64 n3)), (.pv (T_event_halves.pv t2))])] [] [] ([(.one (.pv (.bool b3)))], [], []),
    b3 = false,
    Runs Try.prog 18 [(.one (.ref 0 0)), (.one (.pv (.int .u64 3))), (.one (.pv (.int .i64 2)))] [[(.own 0 0 (l_).length false), (.pv (.int .i64 n4))]] [(.ints .u8 l_)] ([], [[(.own 0 0 (l_2).length false), (.pv (.int .i64 n5))]], [(.ints .u8 l_2)]),
    Runs Try.prog 18 [(.one (.ref 0 0)), (.one (.pv (.int .u64 1))), (.one (.pv (.int .i64 1)))] [[(.own 0 0 (l_2).length false), (.pv (.int .i64 n5))]] [(.ints .u8 l_2)] ([], [[(.own 0 0 (l_3).length false), (.pv (.int .i64 n6))]], [(.ints .u8 l_3)]),
    Runs Try.prog 43 [(.agg [(.pv (.int .u64 e)), (.pv (T_event_halves.pv e2))])] [] [] ([(.one (.pv (.int .u64 e)))], [], []),
    (decide ((0 : Int) < e)) = true,
    Runs Try.prog 43 [(.agg [(.pv (.int .u64 e)), (.pv (T_event_halves.pv e2))])] [] [] ([(.one (.pv (.int .u64 e)))], [], []),
    Runs Try.prog 42 [(.one (.ref 0 0)), (.one (.pv (.int .u64 e)))] [[(.own 0 0 (l_3).length false), (.pv (.int .i64 n6))]] [(.ints .u8 l_3)] ([], [[(.own 0 0 (l_4).length false), (.pv (.int .i64 n7))]], [(.ints .u8 l_4)]),
    LRuns Try.prog (lEnv Try.prog cfg 16 1).nt 1 (.loop (loopAt Try.prog 16 0)) ⟨[(0, (.av (.one (.ref 0 0)))), (75, (.av (.one (.own 1 0 2 true)))), (76, (.av (.one (.pv (.int .i64 2))))), (77, (.av (.one (.pv (.int .i64 0)))))], [(0, [(.own 0 0 (l_4).length false), (.pv (.int .i64 n7))])], [(0, (.live (.ints .u8 l_4))), (1, (.live (.recs 2 [[(.int .u64 n2), (T_event_halves.pv t)], [(.int .u64 n3), (T_event_halves.pv t2)]])))]⟩ (.exit 1) ⟨[], [(0, [(.own 0 0 (l_5).length false), (.pv (.int .i64 n8))])], [(0, (.live (.ints .u8 l_5))), (1, (.live (.recs 2 (List.map E_event_Event.pv [(E_event_Event.mk n2 t), (E_event_Event.mk n3 t2)]))))]⟩] := ⟨by kernel_rfl, by kernel_rfl⟩
theorem code_PutEvent_2_p12 (e : Int) (e2 : T_event_halves) (n : Int) (n2 : Int) (t : T_event_halves) (n3 : Int) (t2 : T_event_halves) (b : Bool) (n4 : Int) (l_ : List Int) (b2 : Bool) (b3 : Bool) (n5 : Int) (l_2 : List Int) (n6 : Int) (l_3 : List Int) (n7 : Int) (l_4 : List Int) : both (evFn Try.prog cfg (Runs Try.prog) (LRuns Try.prog (lEnv Try.prog cfg 16 1).nt 1) 16 [(.one (.ref 0 0)), (.agg [(.pv (.int .u64 e)), (.pv (T_event_halves.pv e2))])] [[(.pv .nils), (.pv (.int .i64 n))]] []
    [.res ([(.agg [(.pv (.int .u64 n2)), (.pv (T_event_halves.pv t))])], [], []), .res ([(.agg [(.pv (.int .u64 n2)), (.pv (T_event_halves.pv t))])], [], []), .res ([(.agg [(.pv (.int .u64 n2)), (.pv (T_event_halves.pv t))])], [], []), .res ([(.agg [(.pv (.int .u64 n2)), (.pv (T_event_halves.pv t))])], [], []), .res ([(.agg [(.pv (.int .u64 n2)), (.pv (T_event_halves.pv t))])], [], []), .res ([(.agg [(.pv (.int .u64 n2)), (.pv (T_event_halves.pv t))])], [], []), .res ([(.agg [(.pv (.int .u64 n2)), (.pv (T_event_halves.pv t))])], [], []), .res ([(.agg [(.pv (.int .u64 n3)), (.pv (T_event_halves.pv t2))])], [], []), .res ([(.agg [(.pv (.int .u64 n3)), (.pv (T_event_halves.pv t2))])], [], []), .res ([(.agg [(.pv (.int .u64 n3)), (.pv (T_event_halves.pv t2))])], [], []), .res ([(.agg [(.pv (.int .u64 n2)), (.pv (T_event_halves.pv t))])], [], []), .res ([(.agg [(.pv (.int .u64 n3)), (.pv (T_event_halves.pv t2))])], [], []), .res ([(.one (.pv (.bool b)))], [], []), .br false, .res ([], [[(.own 0 0 (l_).length false), (.pv (.int .i64 n4))]], [(.ints .u8 l_)]), .res ([(.one (.pv (.int .u64 e)))], [], []), .br false, .br false, .res ([(.one (.pv (.int .u64 e)))], [], []), .br false, .br false, .res ([(.one (.pv (.int .u64 e)))], [], []), .br false, .res ([(.one (.pv (.bool b2)))], [], []), .br false, .res ([(.one (.pv (.bool b3)))], [], []), .br false, .res ([], [[(.own 0 0 (l_2).length false), (.pv (.int .i64 n5))]], [(.ints .u8 l_2)]), .res ([], [[(.own 0 0 (l_3).length false), (.pv (.int .i64 n6))]], [(.ints .u8 l_3)]), .res ([(.one (.pv (.int .u64 e)))], [], []), .br false, .lp (.exit 1) ⟨[], [(0, [(.own 0 0 (l_4).length false), (.pv (.int .i64 n7))])], [(0, (.live (.ints .u8 l_4))), (1, (.live (.recs 2 (List.map E_event_Event.pv [(E_event_Event.mk n2 t), (E_event_Event.mk n3 t2)]))))]⟩]) (([], [[(.own 0 0 (l_4).length false), (.pv (.int .i64 n7))]], [(.ints .u8 l_4)])) [
    Runs Try.prog 39 [(.agg [(.pv (.int .u64 e)), (.pv (T_event_halves.pv e2))])] [] [] ([(.agg [(.pv (.int .u64 n2)), (.pv (T_event_halves.pv t))])], [], []),
    Runs Try.prog 39 [(.agg [(.pv (.int .u64 e)), (.pv (T_event_halves.pv e2))])] [] [] ([(.agg [(.pv (.int .u64 n2)), (.pv (T_event_halves.pv t))])], [], []),
    Runs Try.prog 39 [(.agg [(.pv (.int .u64 e)), (.pv (T_event_halves.pv e2))])] [] [] ([(.agg [(.pv (.int .u64 n2)), (.pv (T_event_halves.pv t))])], [], []),
    Runs Try.prog 39 [(.agg [(.pv (.int .u64 e)), (.pv (T_event_halves.pv e2))])] [] [] ([(.agg [(.pv (.int .u64 n2)), (.pv (T_event_halves.pv t))])], [], []),
    Runs Try.prog 39 [(.agg [(.pv (.int .u64 e)), (.pv (T_event_halves.pv e2))])] [] [] ([(.agg [(.pv (.int .u64 n2)), (.pv (T_event_halves.pv t))])], [], []),
    Runs Try.prog 39 [(.agg [(.pv (.int .u64 e)), (.pv (T_event_halves.pv e2))])] [] [] ([(.agg [(.pv (.int .u64 n2)), (.pv (T_event_halves.pv t))])], [], []),
    Runs Try.prog 39 [(.agg [(.pv (.int .u64 e)), (.pv (T_event_halves.pv e2))])] [] [] ([(.agg [(.pv (.int .u64 n2)), (.pv (T_event_halves.pv t))])], [], []),
    Runs Try.prog 40 [(.agg [(.pv (.int .u64 e)), (.pv (T_event_halves.pv e2))])] [] [] ([(.agg [(.pv (.int .u64 n3)), (.pv (T_event_halves.pv t2))])], [], []),
    Runs Try.prog 40 [(.agg [(.pv (.int .u64 e)), (.pv (T_event_halves.pv e2))])] [] [] ([(.agg [(.pv (.int .u64 n3)), (.pv (T_event_halves.pv t2))])], [], []),
    Runs Try.prog 40 [(.agg [(.pv (.int .u64 e)), (.pv (T_event_halves.pv e2))])] [] [] ([(.agg [(.pv (.int .u64 n3)), (.pv (T_event_halves.pv t2))])], [], []),
    Runs Try.prog 39 [(.agg [(.pv (.int .u64 e)), (.pv (T_event_halves.pv e2))])] [] [] ([(.agg [(.pv (.int .u64 n2)), (.pv (T_event_halves.pv t))])], [], []),
    Runs Try.prog 40 [(.agg [(.pv (.int .u64 e)), (.pv (T_event_halves.pv e2))])] [] [] ([(.agg [(.pv (.int .u64 n3)), (.pv (T_event_halves.pv t2))])], [], []),
    Runs Try.prog 41 [(.agg [(.pv (.int .u64 e)), (.pv (T_event_halves.pv e2))])] [] [] ([(.one (.pv (.bool b)))], [], []),
    b = false,
    Runs Try.prog 18 [(.one (.ref 0 0)), (.one (.pv (.int .u64 0))), (.one (.pv (.int .i64 1)))] [[(.pv .nils), (.pv (.int .i64 n))]] [] ([], [[(.own 0 0 (l_).length false), (.pv (.int .i64 n4))]], [(.ints .u8 l_)]),
    Runs Try.prog 43 [(.agg [(.pv (.int .u64 e)), (.pv (T_event_halves.pv e2))])] [] [] ([(.one (.pv (.int .u64 e)))], [], []),
    (decide ((e : Int) = 0)) = false,
    false = false,
    Runs Try.prog 43 [(.agg [(.pv (.int .u64 e)), (.pv (T_event_halves.pv e2))])] [] [] ([(.one (.pv (.int .u64 e)))], [], []),
    (decide ((e : Int) = 0)) = false,
    false = false,
    Runs Try.prog 43 [(.agg [(.pv (.int .u64 e)), (.pv (T_event_halves.pv e2))])] [] [] ([(.one (.pv (.int .u64 e)))], [], []),
    (decide ((e : Int) = 0)) = false,
    Runs Try.prog 44 [(.agg [(.pv (.int .u64 n2)), (.pv (T_event_halves.pv t))])] [] [] ([(.one (.pv (.bool b2)))], [], []),
    b2 = false,
    Runs Try.prog 44 [(.agg [(.pv (.int .u64 n3)), (.pv (T_event_halves.pv t2))])] [] [] ([(.one (.pv (.bool b3)))], [], []),
    b3 = false,
    Runs Try.prog 18 [(.one (.ref 0 0)), (.one (.pv (.int .u64 3))), (.one (.pv (.int .i64 2)))] [[(.own 0 0 (l_).length false), (.pv (.int .i64 n4))]] [(.ints .u8 l_)] ([], [[(.own 0 0 (l_2).length false), (.pv (.int .i64 n5))]], [(.ints .u8 l_2)]),
    Runs Try.prog 18 [(.one (.ref 0 0)), (.one (.pv (.int .u64 1))), (.one (.pv (.int .i64 1)))] [[(.own 0 0 (l_2).length false), (.pv (.int .i64 n5))]] [(.ints .u8 l_2)] ([], [[(.own 0 0 (l_3).length false), (.pv (.int .i64 n6))]], [(.ints .u8 l_3)]),
    Runs Try.prog 43 [(.agg [(.pv (.int .u64 e)), (.pv (T_event_halves.pv e2))])] [] [] ([(.one (.pv (.int .u64 e)))], [], []),
    (decide ((0 : Int) < e)) = false,
    LRuns Try.prog (lEnv Try.prog cfg 16 1).nt 1 (.loop (loopAt Try.prog 16 0)) ⟨[(0, (.av (.one (.ref 0 0)))), (75, (.av (.one (.own 1 0 2 true)))), (76, (.av (.one (.pv (.int .i64 2))))), (77, (.av (.one (.pv (.int .i64 0)))))], [(0, [(.own 0 0 (l_3).length false), (.pv (.int .i64 n6))])], [(0, (.live (.ints .u8 l_3))), (1, (.live (.recs 2 [[(.int .u64 n2), (T_event_halves.pv t)], [(.int .u64 n3), (T_event_halves.pv t2)]])))]⟩ (.exit 1) ⟨[], [(0, [(.own 0 0 (l_4).length false), (.pv (.int .i64 n7))])], [(0, (.live (.ints .u8 l_4))), (1, (.live (.recs 2 (List.map E_event_Event.pv [(E_event_Event.mk n2 t), (E_event_Event.mk n3 t2)]))))]⟩] := ⟨by kernel_rfl, by kernel_rfl⟩
noncomputable def code_PutEvent_2 (N : Nat) (e : Int) (e2 : T_event_halves) (n : Int) : Option (Int × List Int) :=
  (event_Event_Left e e2).bind fun (n2, t) =>
  (event_Event_Right e e2).bind fun (n3, t2) =>
  (event_Event_IsLeaf e e2).bind fun b =>
  bif b then
    (bits_Writer_Put 1 1 n).bind fun (n4, l_) =>
    (event_Event_Base e e2).bind fun _ =>
    (bits_Writer_Num e n4 l_).bind fun (n5, l_2) =>
    some (n5, l_2)
  else
    (bits_Writer_Put 0 1 n).bind fun (n4, l_) =>
    (event_Event_Base e e2).bind fun _ =>
    bif (decide ((e : Int) = 0)) then
      (code_zero n2 t).bind fun b2 =>
      bif b2 then
        (bits_Writer_Put_2 0 2 n4 l_).bind fun (n5, l_2) =>
        bif (decide ((0 : Int) < e)) then
          (bits_Writer_Num e n5 l_2).bind fun (n6, l_3) =>
          (runL (code_PutEvent_L0_step (code_PutEvent N) [(E_event_Event.mk n2 t), (E_event_Event.mk n3 t2)]) (0, n6, l_3)).bind fun (n7, l_4) =>
          some (n7, l_4)
        else
          (runL (code_PutEvent_L0_step (code_PutEvent N) [(E_event_Event.mk n2 t), (E_event_Event.mk n3 t2)]) (0, n5, l_2)).bind fun (n6, l_3) =>
          some (n6, l_3)
      else
        (code_zero n3 t2).bind fun b3 =>
        bif b3 then
          (bits_Writer_Put_2 1 2 n4 l_).bind fun (n5, l_2) =>
          bif (decide ((0 : Int) < e)) then
            (bits_Writer_Num e n5 l_2).bind fun (n6, l_3) =>
            (runL (code_PutEvent_L0_step (code_PutEvent N) [(E_event_Event.mk n2 t), (E_event_Event.mk n3 t2)]) (0, n6, l_3)).bind fun (n7, l_4) =>
            some (n7, l_4)
          else
            (runL (code_PutEvent_L0_step (code_PutEvent N) [(E_event_Event.mk n2 t), (E_event_Event.mk n3 t2)]) (0, n5, l_2)).bind fun (n6, l_3) =>
            some (n6, l_3)
        else
          (bits_Writer_Put_2 2 2 n4 l_).bind fun (n5, l_2) =>
          bif (decide ((0 : Int) < e)) then
            (bits_Writer_Num e n5 l_2).bind fun (n6, l_3) =>
            (runL (code_PutEvent_L0_step (code_PutEvent N) [(E_event_Event.mk n2 t), (E_event_Event.mk n3 t2)]) (0, n6, l_3)).bind fun (n7, l_4) =>
            some (n7, l_4)
          else
            (runL (code_PutEvent_L0_step (code_PutEvent N) [(E_event_Event.mk n2 t), (E_event_Event.mk n3 t2)]) (0, n5, l_2)).bind fun (n6, l_3) =>
            some (n6, l_3)
    else
      (code_zero n2 t).bind fun b2 =>
      bif b2 then
        (bits_Writer_Put_2 3 2 n4 l_).bind fun (n5, l_2) =>
        (bits_Writer_Put_2 0 2 n5 l_2).bind fun (n6, l_3) =>
        bif (decide ((0 : Int) < e)) then
          (bits_Writer_Num e n6 l_3).bind fun (n7, l_4) =>
          (runL (code_PutEvent_L0_step (code_PutEvent N) [(E_event_Event.mk n2 t), (E_event_Event.mk n3 t2)]) (0, n7, l_4)).bind fun (n8, l_5) =>
          some (n8, l_5)
        else
          (runL (code_PutEvent_L0_step (code_PutEvent N) [(E_event_Event.mk n2 t), (E_event_Event.mk n3 t2)]) (0, n6, l_3)).bind fun (n7, l_4) =>
          some (n7, l_4)
      else
        (code_zero n3 t2).bind fun b3 =>
        bif b3 then
          (bits_Writer_Put_2 3 2 n4 l_).bind fun (n5, l_2) =>
          (bits_Writer_Put_2 1 2 n5 l_2).bind fun (n6, l_3) =>
          bif (decide ((0 : Int) < e)) then
            (bits_Writer_Num e n6 l_3).bind fun (n7, l_4) =>
            (runL (code_PutEvent_L0_step (code_PutEvent N) [(E_event_Event.mk n2 t), (E_event_Event.mk n3 t2)]) (0, n7, l_4)).bind fun (n8, l_5) =>
            some (n8, l_5)
          else
            (runL (code_PutEvent_L0_step (code_PutEvent N) [(E_event_Event.mk n2 t), (E_event_Event.mk n3 t2)]) (0, n6, l_3)).bind fun (n7, l_4) =>
            some (n7, l_4)
        else
          (bits_Writer_Put_2 3 2 n4 l_).bind fun (n5, l_2) =>
          (bits_Writer_Put_2 1 1 n5 l_2).bind fun (n6, l_3) =>
          bif (decide ((0 : Int) < e)) then
            (bits_Writer_Num e n6 l_3).bind fun (n7, l_4) =>
            (runL (code_PutEvent_L0_step (code_PutEvent N) [(E_event_Event.mk n2 t), (E_event_Event.mk n3 t2)]) (0, n7, l_4)).bind fun (n8, l_5) =>
            some (n8, l_5)
          else
            (runL (code_PutEvent_L0_step (code_PutEvent N) [(E_event_Event.mk n2 t), (E_event_Event.mk n3 t2)]) (0, n6, l_3)).bind fun (n7, l_4) =>
            some (n7, l_4)
theorem code_PutEvent_2_runs (N : Nat) (e : Int) (e2 : T_event_halves) (n : Int) (r_ : Int × List Int) (h : code_PutEvent_2 N e e2 n = some r_) : Runs Try.prog 16 [(.one (.ref 0 0)), (.agg [(.pv (.int .u64 e)), (.pv (T_event_halves.pv e2))])] [[(.pv .nils), (.pv (.int .i64 n))]] [] (code_PutEvent_2_out e e2 n r_) := by
  unfold code_PutEvent_2 at h
  obtain ⟨⟨n2, t⟩, h1, h⟩ := bind_of h
  obtain ⟨⟨n3, t2⟩, h2, h⟩ := bind_of h
  obtain ⟨b, h3, h⟩ := bind_of h
  rcases cond_of h with ⟨h4, h⟩ | ⟨h4, h⟩
  · obtain ⟨⟨n4, l_⟩, h5, h⟩ := bind_of h
    obtain ⟨_, h6, h⟩ := bind_of h
    obtain ⟨⟨n5, l_2⟩, h7, h⟩ := bind_of h
    have h := some_of h
    subst h
    have e_ := code_PutEvent_2_p0 e e2 n n2 t n3 t2 b n4 l_ n5 l_2
    have e_ := runs_of (objs := [[(.pv .nils), (.pv (.int .i64 n))]]) (Says.of2 e_ ⟨(event_Event_Left_runs e e2 _ h1), (event_Event_Left_runs e e2 _ h1), (event_Event_Left_runs e e2 _ h1), (event_Event_Left_runs e e2 _ h1), (event_Event_Left_runs e e2 _ h1), (event_Event_Left_runs e e2 _ h1), (event_Event_Left_runs e e2 _ h1), (event_Event_Right_runs e e2 _ h2), (event_Event_Right_runs e e2 _ h2), (event_Event_Right_runs e e2 _ h2), (event_Event_Left_runs e e2 _ h1), (event_Event_Right_runs e e2 _ h2), (event_Event_IsLeaf_runs e e2 _ h3), h4, (bits_Writer_Put_runs 1 1 n _ h5), (event_Event_Base_runs e e2 _ h6), (bits_Writer_Num_runs e n4 l_ _ h7), trivial⟩)
    exact e_
  · obtain ⟨⟨n4, l_⟩, h5, h⟩ := bind_of h
    obtain ⟨_, h6, h⟩ := bind_of h
    rcases cond_of h with ⟨h7, h⟩ | ⟨h7, h⟩
    · obtain ⟨b2, h8, h⟩ := bind_of h
      rcases cond_of h with ⟨h9, h⟩ | ⟨h9, h⟩
      · obtain ⟨⟨n5, l_2⟩, h10, h⟩ := bind_of h
        rcases cond_of h with ⟨h11, h⟩ | ⟨h11, h⟩
        · obtain ⟨⟨n6, l_3⟩, h12, h⟩ := bind_of h
          obtain ⟨⟨n7, l_4⟩, h13, h⟩ := bind_of h
          have h := some_of h
          subst h
          have e_ := code_PutEvent_2_p1 e e2 n n2 t n3 t2 b n4 l_ b2 n5 l_2 n6 l_3 n7 l_4
          have e_ := runs_of (objs := [[(.pv .nils), (.pv (.int .i64 n))]]) (Says.of2 e_ ⟨(event_Event_Left_runs e e2 _ h1), (event_Event_Left_runs e e2 _ h1), (event_Event_Left_runs e e2 _ h1), (event_Event_Left_runs e e2 _ h1), (event_Event_Left_runs e e2 _ h1), (event_Event_Left_runs e e2 _ h1), (event_Event_Left_runs e e2 _ h1), (event_Event_Right_runs e e2 _ h2), (event_Event_Right_runs e e2 _ h2), (event_Event_Right_runs e e2 _ h2), (event_Event_Left_runs e e2 _ h1), (event_Event_Right_runs e e2 _ h2), (event_Event_IsLeaf_runs e e2 _ h3), h4, (bits_Writer_Put_runs 0 1 n _ h5), (event_Event_Base_runs e e2 _ h6), h7, (code_zero_runs n2 t _ h8), h9, (bits_Writer_Put_2_runs 0 2 n4 l_ _ h10), (event_Event_Base_runs e e2 _ h6), h11, (event_Event_Base_runs e e2 _ h6), (bits_Writer_Num_runs e n5 l_2 _ h12), ((code_PutEvent_L0_runs (code_PutEvent N) (code_PutEvent_runs N) [(E_event_Event.mk n2 t), (E_event_Event.mk n3 t2)] _ _ h13).coe ⟨⟨⟨_, rfl, .eq rfl⟩, ⟨_, rfl, .own (by first | rfl | (simp only [List.take_length]; done) | (simp only [List.take_length, List.length_append, List.drop_zero, List.map_append, List.map_take, List.map_drop, List.map_cons, List.map_nil, List.append_nil, List.nil_append, E_event_Event.pv]; done) | (simp; done))⟩, ⟨_, rfl, .eq rfl⟩, ⟨_, rfl, .eq rfl⟩, trivial⟩, ⟨⟨rfl, ⟨.eq rfl, .eq rfl, trivial⟩⟩, trivial⟩, ⟨⟨rfl, .eq rfl⟩, ⟨rfl, .recs (.cons (.cons (.eq rfl) (.cons (.eq rfl) (.nil))) (.cons (.cons (.eq rfl) (.cons (.eq rfl) (.nil))) (.nil)))⟩, trivial⟩⟩), trivial⟩)
          exact e_
        · obtain ⟨⟨n6, l_3⟩, h12, h⟩ := bind_of h
          have h := some_of h
          subst h
          have e_ := code_PutEvent_2_p2 e e2 n n2 t n3 t2 b n4 l_ b2 n5 l_2 n6 l_3
          have e_ := runs_of (objs := [[(.pv .nils), (.pv (.int .i64 n))]]) (Says.of2 e_ ⟨(event_Event_Left_runs e e2 _ h1), (event_Event_Left_runs e e2 _ h1), (event_Event_Left_runs e e2 _ h1), (event_Event_Left_runs e e2 _ h1), (event_Event_Left_runs e e2 _ h1), (event_Event_Left_runs e e2 _ h1), (event_Event_Left_runs e e2 _ h1), (event_Event_Right_runs e e2 _ h2), (event_Event_Right_runs e e2 _ h2), (event_Event_Right_runs e e2 _ h2), (event_Event_Left_runs e e2 _ h1), (event_Event_Right_runs e e2 _ h2), (event_Event_IsLeaf_runs e e2 _ h3), h4, (bits_Writer_Put_runs 0 1 n _ h5), (event_Event_Base_runs e e2 _ h6), h7, (code_zero_runs n2 t _ h8), h9, (bits_Writer_Put_2_runs 0 2 n4 l_ _ h10), (event_Event_Base_runs e e2 _ h6), h11, ((code_PutEvent_L0_runs (code_PutEvent N) (code_PutEvent_runs N) [(E_event_Event.mk n2 t), (E_event_Event.mk n3 t2)] _ _ h12).coe ⟨⟨⟨_, rfl, .eq rfl⟩, ⟨_, rfl, .own (by first | rfl | (simp only [List.take_length]; done) | (simp only [List.take_length, List.length_append, List.drop_zero, List.map_append, List.map_take, List.map_drop, List.map_cons, List.map_nil, List.append_nil, List.nil_append, E_event_Event.pv]; done) | (simp; done))⟩, ⟨_, rfl, .eq rfl⟩, ⟨_, rfl, .eq rfl⟩, trivial⟩, ⟨⟨rfl, ⟨.eq rfl, .eq rfl, trivial⟩⟩, trivial⟩, ⟨⟨rfl, .eq rfl⟩, ⟨rfl, .recs (.cons (.cons (.eq rfl) (.cons (.eq rfl) (.nil))) (.cons (.cons (.eq rfl) (.cons (.eq rfl) (.nil))) (.nil)))⟩, trivial⟩⟩), trivial⟩)
          exact e_
      · obtain ⟨b3, h10, h⟩ := bind_of h
        rcases cond_of h with ⟨h11, h⟩ | ⟨h11, h⟩
        · obtain ⟨⟨n5, l_2⟩, h12, h⟩ := bind_of h
          rcases cond_of h with ⟨h13, h⟩ | ⟨h13, h⟩
          · obtain ⟨⟨n6, l_3⟩, h14, h⟩ := bind_of h
            obtain ⟨⟨n7, l_4⟩, h15, h⟩ := bind_of h
            have h := some_of h
            subst h
            have e_ := code_PutEvent_2_p3 e e2 n n2 t n3 t2 b n4 l_ b2 b3 n5 l_2 n6 l_3 n7 l_4
            have e_ := runs_of (objs := [[(.pv .nils), (.pv (.int .i64 n))]]) (Says.of2 e_ ⟨(event_Event_Left_runs e e2 _ h1), (event_Event_Left_runs e e2 _ h1), (event_Event_Left_runs e e2 _ h1), (event_Event_Left_runs e e2 _ h1), (event_Event_Left_runs e e2 _ h1), (event_Event_Left_runs e e2 _ h1), (event_Event_Left_runs e e2 _ h1), (event_Event_Right_runs e e2 _ h2), (event_Event_Right_runs e e2 _ h2), (event_Event_Right_runs e e2 _ h2), (event_Event_Left_runs e e2 _ h1), (event_Event_Right_runs e e2 _ h2), (event_Event_IsLeaf_runs e e2 _ h3), h4, (bits_Writer_Put_runs 0 1 n _ h5), (event_Event_Base_runs e e2 _ h6), h7, (code_zero_runs n2 t _ h8), h9, (event_Event_Base_runs e e2 _ h6), h7, (code_zero_runs n3 t2 _ h10), h11, (bits_Writer_Put_2_runs 1 2 n4 l_ _ h12), (event_Event_Base_runs e e2 _ h6), h13, (event_Event_Base_runs e e2 _ h6), (bits_Writer_Num_runs e n5 l_2 _ h14), ((code_PutEvent_L0_runs (code_PutEvent N) (code_PutEvent_runs N) [(E_event_Event.mk n2 t), (E_event_Event.mk n3 t2)] _ _ h15).coe ⟨⟨⟨_, rfl, .eq rfl⟩, ⟨_, rfl, .own (by first | rfl | (simp only [List.take_length]; done) | (simp only [List.take_length, List.length_append, List.drop_zero, List.map_append, List.map_take, List.map_drop, List.map_cons, List.map_nil, List.append_nil, List.nil_append, E_event_Event.pv]; done) | (simp; done))⟩, ⟨_, rfl, .eq rfl⟩, ⟨_, rfl, .eq rfl⟩, trivial⟩, ⟨⟨rfl, ⟨.eq rfl, .eq rfl, trivial⟩⟩, trivial⟩, ⟨⟨rfl, .eq rfl⟩, ⟨rfl, .recs (.cons (.cons (.eq rfl) (.cons (.eq rfl) (.nil))) (.cons (.cons (.eq rfl) (.cons (.eq rfl) (.nil))) (.nil)))⟩, trivial⟩⟩), trivial⟩)
            exact e_
          · obtain ⟨⟨n6, l_3⟩, h14, h⟩ := bind_of h
            have h := some_of h
            subst h
            have e_ := code_PutEvent_2_p4 e e2 n n2 t n3 t2 b n4 l_ b2 b3 n5 l_2 n6 l_3
            have e_ := runs_of (objs := [[(.pv .nils), (.pv (.int .i64 n))]]) (Says.of2 e_ ⟨(event_Event_Left_runs e e2 _ h1), (event_Event_Left_runs e e2 _ h1), (event_Event_Left_runs e e2 _ h1), (event_Event_Left_runs e e2 _ h1), (event_Event_Left_runs e e2 _ h1), (event_Event_Left_runs e e2 _ h1), (event_Event_Left_runs e e2 _ h1), (event_Event_Right_runs e e2 _ h2), (event_Event_Right_runs e e2 _ h2), (event_Event_Right_runs e e2 _ h2), (event_Event_Left_runs e e2 _ h1), (event_Event_Right_runs e e2 _ h2), (event_Event_IsLeaf_runs e e2 _ h3), h4, (bits_Writer_Put_runs 0 1 n _ h5), (event_Event_Base_runs e e2 _ h6), h7, (code_zero_runs n2 t _ h8), h9, (event_Event_Base_runs e e2 _ h6), h7, (code_zero_runs n3 t2 _ h10), h11, (bits_Writer_Put_2_runs 1 2 n4 l_ _ h12), (event_Event_Base_runs e e2 _ h6), h13, ((code_PutEvent_L0_runs (code_PutEvent N) (code_PutEvent_runs N) [(E_event_Event.mk n2 t), (E_event_Event.mk n3 t2)] _ _ h14).coe ⟨⟨⟨_, rfl, .eq rfl⟩, ⟨_, rfl, .own (by first | rfl | (simp only [List.take_length]; done) | (simp only [List.take_length, List.length_append, List.drop_zero, List.map_append, List.map_take, List.map_drop, List.map_cons, List.map_nil, List.append_nil, List.nil_append, E_event_Event.pv]; done) | (simp; done))⟩, ⟨_, rfl, .eq rfl⟩, ⟨_, rfl, .eq rfl⟩, trivial⟩, ⟨⟨rfl, ⟨.eq rfl, .eq rfl, trivial⟩⟩, trivial⟩, ⟨⟨rfl, .eq rfl⟩, ⟨rfl, .recs (.cons (.cons (.eq rfl) (.cons (.eq rfl) (.nil))) (.cons (.cons (.eq rfl) (.cons (.eq rfl) (.nil))) (.nil)))⟩, trivial⟩⟩), trivial⟩)
            exact e_
        · obtain ⟨⟨n5, l_2⟩, h12, h⟩ := bind_of h
          rcases cond_of h with ⟨h13, h⟩ | ⟨h13, h⟩
          · obtain ⟨⟨n6, l_3⟩, h14, h⟩ := bind_of h
            obtain ⟨⟨n7, l_4⟩, h15, h⟩ := bind_of h
            have h := some_of h
            subst h
            have e_ := code_PutEvent_2_p5 e e2 n n2 t n3 t2 b n4 l_ b2 b3 n5 l_2 n6 l_3 n7 l_4
            have e_ := runs_of (objs := [[(.pv .nils), (.pv (.int .i64 n))]]) (Says.of2 e_ ⟨(event_Event_Left_runs e e2 _ h1), (event_Event_Left_runs e e2 _ h1), (event_Event_Left_runs e e2 _ h1), (event_Event_Left_runs e e2 _ h1), (event_Event_Left_runs e e2 _ h1), (event_Event_Left_runs e e2 _ h1), (event_Event_Left_runs e e2 _ h1), (event_Event_Right_runs e e2 _ h2), (event_Event_Right_runs e e2 _ h2), (event_Event_Right_runs e e2 _ h2), (event_Event_Left_runs e e2 _ h1), (event_Event_Right_runs e e2 _ h2), (event_Event_IsLeaf_runs e e2 _ h3), h4, (bits_Writer_Put_runs 0 1 n _ h5), (event_Event_Base_runs e e2 _ h6), h7, (code_zero_runs n2 t _ h8), h9, (event_Event_Base_runs e e2 _ h6), h7, (code_zero_runs n3 t2 _ h10), h11, (event_Event_Base_runs e e2 _ h6), h7, (bits_Writer_Put_2_runs 2 2 n4 l_ _ h12), (event_Event_Base_runs e e2 _ h6), h13, (event_Event_Base_runs e e2 _ h6), (bits_Writer_Num_runs e n5 l_2 _ h14), ((code_PutEvent_L0_runs (code_PutEvent N) (code_PutEvent_runs N) [(E_event_Event.mk n2 t), (E_event_Event.mk n3 t2)] _ _ h15).coe ⟨⟨⟨_, rfl, .eq rfl⟩, ⟨_, rfl, .own (by first | rfl | (simp only [List.take_length]; done) | (simp only [List.take_length, List.length_append, List.drop_zero, List.map_append, List.map_take, List.map_drop, List.map_cons, List.map_nil, List.append_nil, List.nil_append, E_event_Event.pv]; done) | (simp; done))⟩, ⟨_, rfl, .eq rfl⟩, ⟨_, rfl, .eq rfl⟩, trivial⟩, ⟨⟨rfl, ⟨.eq rfl, .eq rfl, trivial⟩⟩, trivial⟩, ⟨⟨rfl, .eq rfl⟩, ⟨rfl, .recs (.cons (.cons (.eq rfl) (.cons (.eq rfl) (.nil))) (.cons (.cons (.eq rfl) (.cons (.eq rfl) (.nil))) (.nil)))⟩, trivial⟩⟩), trivial⟩)
            exact e_
          · obtain ⟨⟨n6, l_3⟩, h14, h⟩ := bind_of h
            have h := some_of h
            subst h
            have e_ := code_PutEvent_2_p6 e e2 n n2 t n3 t2 b n4 l_ b2 b3 n5 l_2 n6 l_3
            have e_ := runs_of (objs := [[(.pv .nils), (.pv (.int .i64 n))]]) (Says.of2 e_ ⟨(event_Event_Left_runs e e2 _ h1), (event_Event_Left_runs e e2 _ h1), (event_Event_Left_runs e e2 _ h1), (event_Event_Left_runs e e2 _ h1), (event_Event_Left_runs e e2 _ h1), (event_Event_Left_runs e e2 _ h1), (event_Event_Left_runs e e2 _ h1), (event_Event_Right_runs e e2 _ h2), (event_Event_Right_runs e e2 _ h2), (event_Event_Right_runs e e2 _ h2), (event_Event_Left_runs e e2 _ h1), (event_Event_Right_runs e e2 _ h2), (event_Event_IsLeaf_runs e e2 _ h3), h4, (bits_Writer_Put_runs 0 1 n _ h5), (event_Event_Base_runs e e2 _ h6), h7, (code_zero_runs n2 t _ h8), h9, (event_Event_Base_runs e e2 _ h6), h7, (code_zero_runs n3 t2 _ h10), h11, (event_Event_Base_runs e e2 _ h6), h7, (bits_Writer_Put_2_runs 2 2 n4 l_ _ h12), (event_Event_Base_runs e e2 _ h6), h13, ((code_PutEvent_L0_runs (code_PutEvent N) (code_PutEvent_runs N) [(E_event_Event.mk n2 t), (E_event_Event.mk n3 t2)] _ _ h14).coe ⟨⟨⟨_, rfl, .eq rfl⟩, ⟨_, rfl, .own (by first | rfl | (simp only [List.take_length]; done) | (simp only [List.take_length, List.length_append, List.drop_zero, List.map_append, List.map_take, List.map_drop, List.map_cons, List.map_nil, List.append_nil, List.nil_append, E_event_Event.pv]; done) | (simp; done))⟩, ⟨_, rfl, .eq rfl⟩, ⟨_, rfl, .eq rfl⟩, trivial⟩, ⟨⟨rfl, ⟨.eq rfl, .eq rfl, trivial⟩⟩, trivial⟩, ⟨⟨rfl, .eq rfl⟩, ⟨rfl, .recs (.cons (.cons (.eq rfl) (.cons (.eq rfl) (.nil))) (.cons (.cons (.eq rfl) (.cons (.eq rfl) (.nil))) (.nil)))⟩, trivial⟩⟩), trivial⟩)
            exact e_
    · obtain ⟨b2, h8, h⟩ := bind_of h
      rcases cond_of h with ⟨h9, h⟩ | ⟨h9, h⟩
      · obtain ⟨⟨n5, l_2⟩, h10, h⟩ := bind_of h
        obtain ⟨⟨n6, l_3⟩, h11, h⟩ := bind_of h
        rcases cond_of h with ⟨h12, h⟩ | ⟨h12, h⟩
        · obtain ⟨⟨n7, l_4⟩, h13, h⟩ := bind_of h
          obtain ⟨⟨n8, l_5⟩, h14, h⟩ := bind_of h
          have h := some_of h
          subst h
          have e_ := code_PutEvent_2_p7 e e2 n n2 t n3 t2 b n4 l_ b2 n5 l_2 n6 l_3 n7 l_4 n8 l_5
          have e_ := runs_of (objs := [[(.pv .nils), (.pv (.int .i64 n))]]) (Says.of2 e_ ⟨(event_Event_Left_runs e e2 _ h1), (event_Event_Left_runs e e2 _ h1), (event_Event_Left_runs e e2 _ h1), (event_Event_Left_runs e e2 _ h1), (event_Event_Left_runs e e2 _ h1), (event_Event_Left_runs e e2 _ h1), (event_Event_Left_runs e e2 _ h1), (event_Event_Right_runs e e2 _ h2), (event_Event_Right_runs e e2 _ h2), (event_Event_Right_runs e e2 _ h2), (event_Event_Left_runs e e2 _ h1), (event_Event_Right_runs e e2 _ h2), (event_Event_IsLeaf_runs e e2 _ h3), h4, (bits_Writer_Put_runs 0 1 n _ h5), (event_Event_Base_runs e e2 _ h6), h7, rfl, (event_Event_Base_runs e e2 _ h6), h7, rfl, (event_Event_Base_runs e e2 _ h6), h7, (code_zero_runs n2 t _ h8), h9, (bits_Writer_Put_2_runs 3 2 n4 l_ _ h10), (bits_Writer_Put_2_runs 0 2 n5 l_2 _ h11), (event_Event_Base_runs e e2 _ h6), h12, (event_Event_Base_runs e e2 _ h6), (bits_Writer_Num_runs e n6 l_3 _ h13), ((code_PutEvent_L0_runs (code_PutEvent N) (code_PutEvent_runs N) [(E_event_Event.mk n2 t), (E_event_Event.mk n3 t2)] _ _ h14).coe ⟨⟨⟨_, rfl, .eq rfl⟩, ⟨_, rfl, .own (by first | rfl | (simp only [List.take_length]; done) | (simp only [List.take_length, List.length_append, List.drop_zero, List.map_append, List.map_take, List.map_drop, List.map_cons, List.map_nil, List.append_nil, List.nil_append, E_event_Event.pv]; done) | (simp; done))⟩, ⟨_, rfl, .eq rfl⟩, ⟨_, rfl, .eq rfl⟩, trivial⟩, ⟨⟨rfl, ⟨.eq rfl, .eq rfl, trivial⟩⟩, trivial⟩, ⟨⟨rfl, .eq rfl⟩, ⟨rfl, .recs (.cons (.cons (.eq rfl) (.cons (.eq rfl) (.nil))) (.cons (.cons (.eq rfl) (.cons (.eq rfl) (.nil))) (.nil)))⟩, trivial⟩⟩), trivial⟩)
          exact e_
        · obtain ⟨⟨n7, l_4⟩, h13, h⟩ := bind_of h
          have h := some_of h
          subst h
          have e_ := code_PutEvent_2_p8 e e2 n n2 t n3 t2 b n4 l_ b2 n5 l_2 n6 l_3 n7 l_4
          have e_ := runs_of (objs := [[(.pv .nils), (.pv (.int .i64 n))]]) (Says.of2 e_ ⟨(event_Event_Left_runs e e2 _ h1), (event_Event_Left_runs e e2 _ h1), (event_Event_Left_runs e e2 _ h1), (event_Event_Left_runs e e2 _ h1), (event_Event_Left_runs e e2 _ h1), (event_Event_Left_runs e e2 _ h1), (event_Event_Left_runs e e2 _ h1), (event_Event_Right_runs e e2 _ h2), (event_Event_Right_runs e e2 _ h2), (event_Event_Right_runs e e2 _ h2), (event_Event_Left_runs e e2 _ h1), (event_Event_Right_runs e e2 _ h2), (event_Event_IsLeaf_runs e e2 _ h3), h4, (bits_Writer_Put_runs 0 1 n _ h5), (event_Event_Base_runs e e2 _ h6), h7, rfl, (event_Event_Base_runs e e2 _ h6), h7, rfl, (event_Event_Base_runs e e2 _ h6), h7, (code_zero_runs n2 t _ h8), h9, (bits_Writer_Put_2_runs 3 2 n4 l_ _ h10), (bits_Writer_Put_2_runs 0 2 n5 l_2 _ h11), (event_Event_Base_runs e e2 _ h6), h12, ((code_PutEvent_L0_runs (code_PutEvent N) (code_PutEvent_runs N) [(E_event_Event.mk n2 t), (E_event_Event.mk n3 t2)] _ _ h13).coe ⟨⟨⟨_, rfl, .eq rfl⟩, ⟨_, rfl, .own (by first | rfl | (simp only [List.take_length]; done) | (simp only [List.take_length, List.length_append, List.drop_zero, List.map_append, List.map_take, List.map_drop, List.map_cons, List.map_nil, List.append_nil, List.nil_append, E_event_Event.pv]; done) | (simp; done))⟩, ⟨_, rfl, .eq rfl⟩, ⟨_, rfl, .eq rfl⟩, trivial⟩, ⟨⟨rfl, ⟨.eq rfl, .eq rfl, trivial⟩⟩, trivial⟩, ⟨⟨rfl, .eq rfl⟩, ⟨rfl, .recs (.cons (.cons (.eq rfl) (.cons (.eq rfl) (.nil))) (.cons (.cons (.eq rfl) (.cons (.eq rfl) (.nil))) (.nil)))⟩, trivial⟩⟩), trivial⟩)
          exact e_
      · obtain ⟨b3, h10, h⟩ := bind_of h
        rcases cond_of h with ⟨h11, h⟩ | ⟨h11, h⟩
        · obtain ⟨⟨n5, l_2⟩, h12, h⟩ := bind_of h
          obtain ⟨⟨n6, l_3⟩, h13, h⟩ := bind_of h
          rcases cond_of h with ⟨h14, h⟩ | ⟨h14, h⟩
          · obtain ⟨⟨n7, l_4⟩, h15, h⟩ := bind_of h
            obtain ⟨⟨n8, l_5⟩, h16, h⟩ := bind_of h
            have h := some_of h
            subst h
            have e_ := code_PutEvent_2_p9 e e2 n n2 t n3 t2 b n4 l_ b2 b3 n5 l_2 n6 l_3 n7 l_4 n8 l_5
            have e_ := runs_of (objs := [[(.pv .nils), (.pv (.int .i64 n))]]) (Says.of2 e_ ⟨(event_Event_Left_runs e e2 _ h1), (event_Event_Left_runs e e2 _ h1), (event_Event_Left_runs e e2 _ h1), (event_Event_Left_runs e e2 _ h1), (event_Event_Left_runs e e2 _ h1), (event_Event_Left_runs e e2 _ h1), (event_Event_Left_runs e e2 _ h1), (event_Event_Right_runs e e2 _ h2), (event_Event_Right_runs e e2 _ h2), (event_Event_Right_runs e e2 _ h2), (event_Event_Left_runs e e2 _ h1), (event_Event_Right_runs e e2 _ h2), (event_Event_IsLeaf_runs e e2 _ h3), h4, (bits_Writer_Put_runs 0 1 n _ h5), (event_Event_Base_runs e e2 _ h6), h7, rfl, (event_Event_Base_runs e e2 _ h6), h7, rfl, (event_Event_Base_runs e e2 _ h6), h7, (code_zero_runs n2 t _ h8), h9, (code_zero_runs n3 t2 _ h10), h11, (bits_Writer_Put_2_runs 3 2 n4 l_ _ h12), (bits_Writer_Put_2_runs 1 2 n5 l_2 _ h13), (event_Event_Base_runs e e2 _ h6), h14, (event_Event_Base_runs e e2 _ h6), (bits_Writer_Num_runs e n6 l_3 _ h15), ((code_PutEvent_L0_runs (code_PutEvent N) (code_PutEvent_runs N) [(E_event_Event.mk n2 t), (E_event_Event.mk n3 t2)] _ _ h16).coe ⟨⟨⟨_, rfl, .eq rfl⟩, ⟨_, rfl, .own (by first | rfl | (simp only [List.take_length]; done) | (simp only [List.take_length, List.length_append, List.drop_zero, List.map_append, List.map_take, List.map_drop, List.map_cons, List.map_nil, List.append_nil, List.nil_append, E_event_Event.pv]; done) | (simp; done))⟩, ⟨_, rfl, .eq rfl⟩, ⟨_, rfl, .eq rfl⟩, trivial⟩, ⟨⟨rfl, ⟨.eq rfl, .eq rfl, trivial⟩⟩, trivial⟩, ⟨⟨rfl, .eq rfl⟩, ⟨rfl, .recs (.cons (.cons (.eq rfl) (.cons (.eq rfl) (.nil))) (.cons (.cons (.eq rfl) (.cons (.eq rfl) (.nil))) (.nil)))⟩, trivial⟩⟩), trivial⟩)
            exact e_
          · obtain ⟨⟨n7, l_4⟩, h15, h⟩ := bind_of h
            have h := some_of h
            subst h
            have e_ := code_PutEvent_2_p10 e e2 n n2 t n3 t2 b n4 l_ b2 b3 n5 l_2 n6 l_3 n7 l_4
            have e_ := runs_of (objs := [[(.pv .nils), (.pv (.int .i64 n))]]) (Says.of2 e_ ⟨(event_Event_Left_runs e e2 _ h1), (event_Event_Left_runs e e2 _ h1), (event_Event_Left_runs e e2 _ h1), (event_Event_Left_runs e e2 _ h1), (event_Event_Left_runs e e2 _ h1), (event_Event_Left_runs e e2 _ h1), (event_Event_Left_runs e e2 _ h1), (event_Event_Right_runs e e2 _ h2), (event_Event_Right_runs e e2 _ h2), (event_Event_Right_runs e e2 _ h2), (event_Event_Left_runs e e2 _ h1), (event_Event_Right_runs e e2 _ h2), (event_Event_IsLeaf_runs e e2 _ h3), h4, (bits_Writer_Put_runs 0 1 n _ h5), (event_Event_Base_runs e e2 _ h6), h7, rfl, (event_Event_Base_runs e e2 _ h6), h7, rfl, (event_Event_Base_runs e e2 _ h6), h7, (code_zero_runs n2 t _ h8), h9, (code_zero_runs n3 t2 _ h10), h11, (bits_Writer_Put_2_runs 3 2 n4 l_ _ h12), (bits_Writer_Put_2_runs 1 2 n5 l_2 _ h13), (event_Event_Base_runs e e2 _ h6), h14, ((code_PutEvent_L0_runs (code_PutEvent N) (code_PutEvent_runs N) [(E_event_Event.mk n2 t), (E_event_Event.mk n3 t2)] _ _ h15).coe ⟨⟨⟨_, rfl, .eq rfl⟩, ⟨_, rfl, .own (by first | rfl | (simp only [List.take_length]; done) | (simp only [List.take_length, List.length_append, List.drop_zero, List.map_append, List.map_take, List.map_drop, List.map_cons, List.map_nil, List.append_nil, List.nil_append, E_event_Event.pv]; done) | (simp; done))⟩, ⟨_, rfl, .eq rfl⟩, ⟨_, rfl, .eq rfl⟩, trivial⟩, ⟨⟨rfl, ⟨.eq rfl, .eq rfl, trivial⟩⟩, trivial⟩, ⟨⟨rfl, .eq rfl⟩, ⟨rfl, .recs (.cons (.cons (.eq rfl) (.cons (.eq rfl) (.nil))) (.cons (.cons (.eq rfl) (.cons (.eq rfl) (.nil))) (.nil)))⟩, trivial⟩⟩), trivial⟩)
            exact e_
        · obtain ⟨⟨n5, l_2⟩, h12, h⟩ := bind_of h
          obtain ⟨⟨n6, l_3⟩, h13, h⟩ := bind_of h
          rcases cond_of h with ⟨h14, h⟩ | ⟨h14, h⟩
          · obtain ⟨⟨n7, l_4⟩, h15, h⟩ := bind_of h
            obtain ⟨⟨n8, l_5⟩, h16, h⟩ := bind_of h
            have h := some_of h
            subst h
            have e_ := code_PutEvent_2_p11 e e2 n n2 t n3 t2 b n4 l_ b2 b3 n5 l_2 n6 l_3 n7 l_4 n8 l_5
            have e_ := runs_of (objs := [[(.pv .nils), (.pv (.int .i64 n))]]) (Says.of2 e_ ⟨(event_Event_Left_runs e e2 _ h1), (event_Event_Left_runs e e2 _ h1), (event_Event_Left_runs e e2 _ h1), (event_Event_Left_runs e e2 _ h1), (event_Event_Left_runs e e2 _ h1), (event_Event_Left_runs e e2 _ h1), (event_Event_Left_runs e e2 _ h1), (event_Event_Right_runs e e2 _ h2), (event_Event_Right_runs e e2 _ h2), (event_Event_Right_runs e e2 _ h2), (event_Event_Left_runs e e2 _ h1), (event_Event_Right_runs e e2 _ h2), (event_Event_IsLeaf_runs e e2 _ h3), h4, (bits_Writer_Put_runs 0 1 n _ h5), (event_Event_Base_runs e e2 _ h6), h7, rfl, (event_Event_Base_runs e e2 _ h6), h7, rfl, (event_Event_Base_runs e e2 _ h6), h7, (code_zero_runs n2 t _ h8), h9, (code_zero_runs n3 t2 _ h10), h11, (bits_Writer_Put_2_runs 3 2 n4 l_ _ h12), (bits_Writer_Put_2_runs 1 1 n5 l_2 _ h13), (event_Event_Base_runs e e2 _ h6), h14, (event_Event_Base_runs e e2 _ h6), (bits_Writer_Num_runs e n6 l_3 _ h15), ((code_PutEvent_L0_runs (code_PutEvent N) (code_PutEvent_runs N) [(E_event_Event.mk n2 t), (E_event_Event.mk n3 t2)] _ _ h16).coe ⟨⟨⟨_, rfl, .eq rfl⟩, ⟨_, rfl, .own (by first | rfl | (simp only [List.take_length]; done) | (simp only [List.take_length, List.length_append, List.drop_zero, List.map_append, List.map_take, List.map_drop, List.map_cons, List.map_nil, List.append_nil, List.nil_append, E_event_Event.pv]; done) | (simp; done))⟩, ⟨_, rfl, .eq rfl⟩, ⟨_, rfl, .eq rfl⟩, trivial⟩, ⟨⟨rfl, ⟨.eq rfl, .eq rfl, trivial⟩⟩, trivial⟩, ⟨⟨rfl, .eq rfl⟩, ⟨rfl, .recs (.cons (.cons (.eq rfl) (.cons (.eq rfl) (.nil))) (.cons (.cons (.eq rfl) (.cons (.eq rfl) (.nil))) (.nil)))⟩, trivial⟩⟩), trivial⟩)
            exact e_
          · obtain ⟨⟨n7, l_4⟩, h15, h⟩ := bind_of h
            have h := some_of h
            subst h
            have e_ := code_PutEvent_2_p12 e e2 n n2 t n3 t2 b n4 l_ b2 b3 n5 l_2 n6 l_3 n7 l_4
            have e_ := runs_of (objs := [[(.pv .nils), (.pv (.int .i64 n))]]) (Says.of2 e_ ⟨(event_Event_Left_runs e e2 _ h1), (event_Event_Left_runs e e2 _ h1), (event_Event_Left_runs e e2 _ h1), (event_Event_Left_runs e e2 _ h1), (event_Event_Left_runs e e2 _ h1), (event_Event_Left_runs e e2 _ h1), (event_Event_Left_runs e e2 _ h1), (event_Event_Right_runs e e2 _ h2), (event_Event_Right_runs e e2 _ h2), (event_Event_Right_runs e e2 _ h2), (event_Event_Left_runs e e2 _ h1), (event_Event_Right_runs e e2 _ h2), (event_Event_IsLeaf_runs e e2 _ h3), h4, (bits_Writer_Put_runs 0 1 n _ h5), (event_Event_Base_runs e e2 _ h6), h7, rfl, (event_Event_Base_runs e e2 _ h6), h7, rfl, (event_Event_Base_runs e e2 _ h6), h7, (code_zero_runs n2 t _ h8), h9, (code_zero_runs n3 t2 _ h10), h11, (bits_Writer_Put_2_runs 3 2 n4 l_ _ h12), (bits_Writer_Put_2_runs 1 1 n5 l_2 _ h13), (event_Event_Base_runs e e2 _ h6), h14, ((code_PutEvent_L0_runs (code_PutEvent N) (code_PutEvent_runs N) [(E_event_Event.mk n2 t), (E_event_Event.mk n3 t2)] _ _ h15).coe ⟨⟨⟨_, rfl, .eq rfl⟩, ⟨_, rfl, .own (by first | rfl | (simp only [List.take_length]; done) | (simp only [List.take_length, List.length_append, List.drop_zero, List.map_append, List.map_take, List.map_drop, List.map_cons, List.map_nil, List.append_nil, List.nil_append, E_event_Event.pv]; done) | (simp; done))⟩, ⟨_, rfl, .eq rfl⟩, ⟨_, rfl, .eq rfl⟩, trivial⟩, ⟨⟨rfl, ⟨.eq rfl, .eq rfl, trivial⟩⟩, trivial⟩, ⟨⟨rfl, .eq rfl⟩, ⟨rfl, .recs (.cons (.cons (.eq rfl) (.cons (.eq rfl) (.nil))) (.cons (.cons (.eq rfl) (.cons (.eq rfl) (.nil))) (.nil)))⟩, trivial⟩⟩), trivial⟩)
            exact e_
/-! ### code_Event -/
theorem code_Event_p0 (e : Int) (e2 : T_event_halves) (n : Int) (l_ : List Int) : evFn Try.prog cfg (Runs Try.prog) (LRuns Try.prog (lEnv Try.prog cfg 13 0).nt 0) 13 [(.agg [(.pv (.int .u64 e)), (.pv (T_event_halves.pv e2))])] [] []
    [.res ([(.one (.ref 0 0))], [[(.pv .nils), (.pv (.int .i64 0))]], []), .res ([], [[(.own 0 0 (l_).length false), (.pv (.int .i64 n))]], [(.ints .u8 l_)]), .res ([(.one (.pv (.ints .u8 l_ false)))], [[(.pv (.ints .u8 l_ false)), (.pv (.int .i64 n))]], [])] =
  some (([(.one (.pv (.ints .u8 l_ false)))], [], []), obs [
    Runs Try.prog 15 [] [] [] ([(.one (.ref 0 0))], [[(.pv .nils), (.pv (.int .i64 0))]], []),
    Runs Try.prog 16 [(.one (.ref 0 0)), (.agg [(.pv (.int .u64 e)), (.pv (T_event_halves.pv e2))])] [[(.pv .nils), (.pv (.int .i64 0))]] [] ([], [[(.own 0 0 (l_).length false), (.pv (.int .i64 n))]], [(.ints .u8 l_)]),
    Runs Try.prog 20 [(.one (.ref 0 0))] [[(.own 0 0 (l_).length false), (.pv (.int .i64 n))]] [(.ints .u8 l_)] ([(.one (.pv (.ints .u8 l_ false)))], [[(.pv (.ints .u8 l_ false)), (.pv (.int .i64 n))]], [])]) := by kernel_rfl
noncomputable def code_Event (N : Nat) (e : Int) (e2 : T_event_halves) : Option (List Int) :=
  (bits_NewWriter).bind fun _ =>
  (code_PutEvent_2 N e e2 0).bind fun (n, l_) =>
  (bits_Writer_Bytes n l_).bind fun _ =>
  some l_
theorem code_Event_runs (N : Nat) (e : Int) (e2 : T_event_halves) (r_ : List Int) (h : code_Event N e e2 = some r_) : Runs Try.prog 13 [(.agg [(.pv (.int .u64 e)), (.pv (T_event_halves.pv e2))])] [] [] (code_Event_out e e2 r_) := by
  unfold code_Event at h
  obtain ⟨_, h1, h⟩ := bind_of h
  obtain ⟨⟨n, l_⟩, h2, h⟩ := bind_of h
  obtain ⟨_, h3, h⟩ := bind_of h
  have h := some_of h
  subst h
  have e_ := code_Event_p0 e e2 n l_
  have e_ := runs_of (objs := []) (Says.of e_ ⟨(bits_NewWriter_runs _ h1), (code_PutEvent_2_runs N e e2 0 _ h2), (bits_Writer_Bytes_runs n l_ _ h3), trivial⟩)
  exact e_

end Go.Proofs.Ytjjakdmcnkldoaa
