/- What walks give, path by path. -/
import Derived.Test.YtecblpgljmbpeaaKd
namespace Go.Proofs.Ytecblpgljmbpeaa
open Go.Ev

theorem f13_short (l : List Int) (t : Bool) : evFn Try.prog cfg (Runs Try.prog) (LRuns Try.prog (lEnv Try.prog cfg 13 0).nt 0) 13 [(.one (.pv (.ints .u8 l t)))] [] []
    [.br true] =
  some (([(.one (.pv .nils)), (.one (.pv (.int .i64 0))), (.one (.pv (.int .i64 6)))], [], []), [
    (decide ((((l).length : Int) : Int) < 8)) = true]) := by kernel_rfl

theorem f13_long (l : List Int) (t : Bool) : evFn Try.prog cfg (Runs Try.prog) (LRuns Try.prog (lEnv Try.prog cfg 13 0).nt 0) 13 [(.one (.pv (.ints .u8 l t)))] [] []
    [.br false, .res ([(.one (.pv (.int .u32 (take4 l))))], [], []), .br true] =
  some (([(.one (.pv .nils)), (.one (.pv (.int .i64 0))), (.one (.pv (.int .i64 9)))], [], []), [
    (decide ((((l).length : Int) : Int) < 8)) = false,
    Runs Try.prog 36 [(.one (.pv (.ints .u8 l t)))] [] [] ([(.one (.pv (.int .u32 (take4 l))))], [], []),
    (decide ((1048576 : Int) < (take4 l))) = true]) := by kernel_rfl

theorem f13_less (l : List Int) (t : Bool) : evFn Try.prog cfg (Runs Try.prog) (LRuns Try.prog (lEnv Try.prog cfg 13 0).nt 0) 13 [(.one (.pv (.ints .u8 l t)))] [] []
    [.br false, .res ([(.one (.pv (.int .u32 (take4 l))))], [], []), .br false, .br true] =
  some (([(.one (.pv .nils)), (.one (.pv (.int .i64 0))), (.one (.pv (.int .i64 6)))], [], []), [
    (decide ((((l).length : Int) : Int) < 8)) = false,
    Runs Try.prog 36 [(.one (.pv (.ints .u8 l t)))] [] [] ([(.one (.pv (.int .u32 (take4 l))))], [], []),
    (decide ((1048576 : Int) < (take4 l))) = false,
    (decide (((isub .i64 ((l).length : Int) 8) : Int) < (IntKind.i64.wrap (take4 l)))) = true]) := by kernel_rfl

theorem f13_bad0 (l : List Int) (t : Bool) : evFn Try.prog cfg (Runs Try.prog) (LRuns Try.prog (lEnv Try.prog cfg 13 0).nt 0) 13 [(.one (.pv (.ints .u8 l t)))] [] []
    [.br false, .res ([(.one (.pv (.int .u32 (take4 l))))], [], []), .br false, .br false, .res ([(.one (.pv (.ints .u8 (List.take ((iadd .i64 8 (IntKind.i64.wrap (take4 l))) - 8).toNat (List.drop 8 l)) false)))], [], []), .res ([(.one (.pv (.int .u32 (take4 (List.take (((l).length : Int) - 4).toNat (List.drop 4 l))))))], [], []), .br true, .res ([(.one (.pv (.int .u32 (wsum (List.take 4 l)))))], [], []), .br true] =
  some (([(.one (.pv .nils)), (.one (.pv (.int .i64 0))), (.one (.pv (.int .i64 13)))], [], []), [
    (decide ((((l).length : Int) : Int) < 8)) = false,
    Runs Try.prog 36 [(.one (.pv (.ints .u8 l t)))] [] [] ([(.one (.pv (.int .u32 (take4 l))))], [], []),
    (decide ((1048576 : Int) < (take4 l))) = false,
    (decide (((isub .i64 ((l).length : Int) 8) : Int) < (IntKind.i64.wrap (take4 l)))) = false,
    (decide ((0 : Int) ≤ 8) && decide ((8 : Int) ≤ (iadd .i64 8 (IntKind.i64.wrap (take4 l)))) && decide (((iadd .i64 8 (IntKind.i64.wrap (take4 l))) : Int) ≤ ((l).length : Int)) && decide (((iadd .i64 8 (IntKind.i64.wrap (take4 l))) : Int) = (iadd .i64 8 (IntKind.i64.wrap (take4 l))))) = true,
    Runs Try.prog 37 [(.one (.pv (.ints .u8 (List.take ((iadd .i64 8 (IntKind.i64.wrap (take4 l))) - 8).toNat (List.drop 8 l)) false)))] [] [] ([(.one (.pv (.ints .u8 (List.take ((iadd .i64 8 (IntKind.i64.wrap (take4 l))) - 8).toNat (List.drop 8 l)) false)))], [], []),
    (decide ((0 : Int) ≤ 4) && decide ((4 : Int) ≤ ((l).length : Int)) && decide ((((l).length : Int) : Int) ≤ ((l).length : Int)) && decide ((((l).length : Int) : Int) = ((l).length : Int))) = true,
    (decide ((0 : Int) ≤ 0) && decide ((0 : Int) ≤ 4) && decide ((4 : Int) ≤ ((l).length : Int)) && decide ((4 : Int) = 4)) = true,
    Runs Try.prog 36 [(.one (.pv (.ints .u8 (List.take (((l).length : Int) - 4).toNat (List.drop 4 l)) t)))] [] [] ([(.one (.pv (.int .u32 (take4 (List.take (((l).length : Int) - 4).toNat (List.drop 4 l))))))], [], []),
    (Nat.beq ((List.take ((iadd .i64 8 (IntKind.i64.wrap (take4 l))) - 8).toNat (List.drop 8 l))).length 0) = true,
    Runs Try.prog 11 [(.one (.pv (.ints .u8 (List.take 4 l) true)))] [] [] ([(.one (.pv (.int .u32 (wsum (List.take 4 l)))))], [], []),
    (!(decide (((take4 (List.take (((l).length : Int) - 4).toNat (List.drop 4 l))) : Int) = (wsum (List.take 4 l))))) = true]) := by kernel_rfl

theorem f13_bad1 (l : List Int) (t : Bool) : evFn Try.prog cfg (Runs Try.prog) (LRuns Try.prog (lEnv Try.prog cfg 13 0).nt 0) 13 [(.one (.pv (.ints .u8 l t)))] [] []
    [.br false, .res ([(.one (.pv (.int .u32 (take4 l))))], [], []), .br false, .br false, .res ([(.one (.pv (.ints .u8 (List.take ((iadd .i64 8 (IntKind.i64.wrap (take4 l))) - 8).toNat (List.drop 8 l)) false)))], [], []), .res ([(.one (.pv (.int .u32 (take4 (List.take (((l).length : Int) - 4).toNat (List.drop 4 l))))))], [], []), .br false, .res ([(.one (.pv (.int .u32 (wsum ((List.take 4 l) ++ (List.take ((iadd .i64 8 (IntKind.i64.wrap (take4 l))) - 8).toNat (List.drop 8 l)))))))], [], []), .br true] =
  some (([(.one (.pv .nils)), (.one (.pv (.int .i64 0))), (.one (.pv (.int .i64 13)))], [], []), [
    (decide ((((l).length : Int) : Int) < 8)) = false,
    Runs Try.prog 36 [(.one (.pv (.ints .u8 l t)))] [] [] ([(.one (.pv (.int .u32 (take4 l))))], [], []),
    (decide ((1048576 : Int) < (take4 l))) = false,
    (decide (((isub .i64 ((l).length : Int) 8) : Int) < (IntKind.i64.wrap (take4 l)))) = false,
    (decide ((0 : Int) ≤ 8) && decide ((8 : Int) ≤ (iadd .i64 8 (IntKind.i64.wrap (take4 l)))) && decide (((iadd .i64 8 (IntKind.i64.wrap (take4 l))) : Int) ≤ ((l).length : Int)) && decide (((iadd .i64 8 (IntKind.i64.wrap (take4 l))) : Int) = (iadd .i64 8 (IntKind.i64.wrap (take4 l))))) = true,
    Runs Try.prog 37 [(.one (.pv (.ints .u8 (List.take ((iadd .i64 8 (IntKind.i64.wrap (take4 l))) - 8).toNat (List.drop 8 l)) false)))] [] [] ([(.one (.pv (.ints .u8 (List.take ((iadd .i64 8 (IntKind.i64.wrap (take4 l))) - 8).toNat (List.drop 8 l)) false)))], [], []),
    (decide ((0 : Int) ≤ 4) && decide ((4 : Int) ≤ ((l).length : Int)) && decide ((((l).length : Int) : Int) ≤ ((l).length : Int)) && decide ((((l).length : Int) : Int) = ((l).length : Int))) = true,
    (decide ((0 : Int) ≤ 0) && decide ((0 : Int) ≤ 4) && decide ((4 : Int) ≤ ((l).length : Int)) && decide ((4 : Int) = 4)) = true,
    Runs Try.prog 36 [(.one (.pv (.ints .u8 (List.take (((l).length : Int) - 4).toNat (List.drop 4 l)) t)))] [] [] ([(.one (.pv (.int .u32 (take4 (List.take (((l).length : Int) - 4).toNat (List.drop 4 l))))))], [], []),
    (!(Nat.beq ((List.take ((iadd .i64 8 (IntKind.i64.wrap (take4 l))) - 8).toNat (List.drop 8 l))).length 0)) = true,
    (fits (((List.take 4 l) ++ (List.take ((iadd .i64 8 (IntKind.i64.wrap (take4 l))) - 8).toNat (List.drop 8 l)))).length) = true,
    Runs Try.prog 11 [(.one (.pv (.ints .u8 (List.take (((List.take 4 l) ++ (List.take ((iadd .i64 8 (IntKind.i64.wrap (take4 l))) - 8).toNat (List.drop 8 l)))).length ((List.take 4 l) ++ (List.take ((iadd .i64 8 (IntKind.i64.wrap (take4 l))) - 8).toNat (List.drop 8 l)))) false)))] [] [] ([(.one (.pv (.int .u32 (wsum ((List.take 4 l) ++ (List.take ((iadd .i64 8 (IntKind.i64.wrap (take4 l))) - 8).toNat (List.drop 8 l)))))))], [], []),
    (!(decide (((take4 (List.take (((l).length : Int) - 4).toNat (List.drop 4 l))) : Int) = (wsum ((List.take 4 l) ++ (List.take ((iadd .i64 8 (IntKind.i64.wrap (take4 l))) - 8).toNat (List.drop 8 l))))))) = true]) := by kernel_rfl

theorem f13_ok0 (l : List Int) (t : Bool) : evFn Try.prog cfg (Runs Try.prog) (LRuns Try.prog (lEnv Try.prog cfg 13 0).nt 0) 13 [(.one (.pv (.ints .u8 l t)))] [] []
    [.br false, .res ([(.one (.pv (.int .u32 (take4 l))))], [], []), .br false, .br false, .res ([(.one (.pv (.ints .u8 (List.take ((iadd .i64 8 (IntKind.i64.wrap (take4 l))) - 8).toNat (List.drop 8 l)) false)))], [], []), .res ([(.one (.pv (.int .u32 (take4 (List.take (((l).length : Int) - 4).toNat (List.drop 4 l))))))], [], []), .br true, .res ([(.one (.pv (.int .u32 (wsum (List.take 4 l)))))], [], []), .br false] =
  some (([(.one (.pv (.ints .u8 (List.take ((iadd .i64 8 (IntKind.i64.wrap (take4 l))) - 8).toNat (List.drop 8 l)) false))), (.one (.pv (.int .i64 (iadd .i64 8 (IntKind.i64.wrap (take4 l)))))), (.one (.pv (.int .i64 0)))], [], []), [
    (decide ((((l).length : Int) : Int) < 8)) = false,
    Runs Try.prog 36 [(.one (.pv (.ints .u8 l t)))] [] [] ([(.one (.pv (.int .u32 (take4 l))))], [], []),
    (decide ((1048576 : Int) < (take4 l))) = false,
    (decide (((isub .i64 ((l).length : Int) 8) : Int) < (IntKind.i64.wrap (take4 l)))) = false,
    (decide ((0 : Int) ≤ 8) && decide ((8 : Int) ≤ (iadd .i64 8 (IntKind.i64.wrap (take4 l)))) && decide (((iadd .i64 8 (IntKind.i64.wrap (take4 l))) : Int) ≤ ((l).length : Int)) && decide (((iadd .i64 8 (IntKind.i64.wrap (take4 l))) : Int) = (iadd .i64 8 (IntKind.i64.wrap (take4 l))))) = true,
    Runs Try.prog 37 [(.one (.pv (.ints .u8 (List.take ((iadd .i64 8 (IntKind.i64.wrap (take4 l))) - 8).toNat (List.drop 8 l)) false)))] [] [] ([(.one (.pv (.ints .u8 (List.take ((iadd .i64 8 (IntKind.i64.wrap (take4 l))) - 8).toNat (List.drop 8 l)) false)))], [], []),
    (decide ((0 : Int) ≤ 4) && decide ((4 : Int) ≤ ((l).length : Int)) && decide ((((l).length : Int) : Int) ≤ ((l).length : Int)) && decide ((((l).length : Int) : Int) = ((l).length : Int))) = true,
    (decide ((0 : Int) ≤ 0) && decide ((0 : Int) ≤ 4) && decide ((4 : Int) ≤ ((l).length : Int)) && decide ((4 : Int) = 4)) = true,
    Runs Try.prog 36 [(.one (.pv (.ints .u8 (List.take (((l).length : Int) - 4).toNat (List.drop 4 l)) t)))] [] [] ([(.one (.pv (.int .u32 (take4 (List.take (((l).length : Int) - 4).toNat (List.drop 4 l))))))], [], []),
    (Nat.beq ((List.take ((iadd .i64 8 (IntKind.i64.wrap (take4 l))) - 8).toNat (List.drop 8 l))).length 0) = true,
    Runs Try.prog 11 [(.one (.pv (.ints .u8 (List.take 4 l) true)))] [] [] ([(.one (.pv (.int .u32 (wsum (List.take 4 l)))))], [], []),
    (!(decide (((take4 (List.take (((l).length : Int) - 4).toNat (List.drop 4 l))) : Int) = (wsum (List.take 4 l))))) = false]) := by kernel_rfl

theorem f13_ok1 (l : List Int) (t : Bool) : evFn Try.prog cfg (Runs Try.prog) (LRuns Try.prog (lEnv Try.prog cfg 13 0).nt 0) 13 [(.one (.pv (.ints .u8 l t)))] [] []
    [.br false, .res ([(.one (.pv (.int .u32 (take4 l))))], [], []), .br false, .br false, .res ([(.one (.pv (.ints .u8 (List.take ((iadd .i64 8 (IntKind.i64.wrap (take4 l))) - 8).toNat (List.drop 8 l)) false)))], [], []), .res ([(.one (.pv (.int .u32 (take4 (List.take (((l).length : Int) - 4).toNat (List.drop 4 l))))))], [], []), .br false, .res ([(.one (.pv (.int .u32 (wsum ((List.take 4 l) ++ (List.take ((iadd .i64 8 (IntKind.i64.wrap (take4 l))) - 8).toNat (List.drop 8 l)))))))], [], []), .br false] =
  some (([(.one (.pv (.ints .u8 (List.take ((iadd .i64 8 (IntKind.i64.wrap (take4 l))) - 8).toNat (List.drop 8 l)) false))), (.one (.pv (.int .i64 (iadd .i64 8 (IntKind.i64.wrap (take4 l)))))), (.one (.pv (.int .i64 0)))], [], []), [
    (decide ((((l).length : Int) : Int) < 8)) = false,
    Runs Try.prog 36 [(.one (.pv (.ints .u8 l t)))] [] [] ([(.one (.pv (.int .u32 (take4 l))))], [], []),
    (decide ((1048576 : Int) < (take4 l))) = false,
    (decide (((isub .i64 ((l).length : Int) 8) : Int) < (IntKind.i64.wrap (take4 l)))) = false,
    (decide ((0 : Int) ≤ 8) && decide ((8 : Int) ≤ (iadd .i64 8 (IntKind.i64.wrap (take4 l)))) && decide (((iadd .i64 8 (IntKind.i64.wrap (take4 l))) : Int) ≤ ((l).length : Int)) && decide (((iadd .i64 8 (IntKind.i64.wrap (take4 l))) : Int) = (iadd .i64 8 (IntKind.i64.wrap (take4 l))))) = true,
    Runs Try.prog 37 [(.one (.pv (.ints .u8 (List.take ((iadd .i64 8 (IntKind.i64.wrap (take4 l))) - 8).toNat (List.drop 8 l)) false)))] [] [] ([(.one (.pv (.ints .u8 (List.take ((iadd .i64 8 (IntKind.i64.wrap (take4 l))) - 8).toNat (List.drop 8 l)) false)))], [], []),
    (decide ((0 : Int) ≤ 4) && decide ((4 : Int) ≤ ((l).length : Int)) && decide ((((l).length : Int) : Int) ≤ ((l).length : Int)) && decide ((((l).length : Int) : Int) = ((l).length : Int))) = true,
    (decide ((0 : Int) ≤ 0) && decide ((0 : Int) ≤ 4) && decide ((4 : Int) ≤ ((l).length : Int)) && decide ((4 : Int) = 4)) = true,
    Runs Try.prog 36 [(.one (.pv (.ints .u8 (List.take (((l).length : Int) - 4).toNat (List.drop 4 l)) t)))] [] [] ([(.one (.pv (.int .u32 (take4 (List.take (((l).length : Int) - 4).toNat (List.drop 4 l))))))], [], []),
    (!(Nat.beq ((List.take ((iadd .i64 8 (IntKind.i64.wrap (take4 l))) - 8).toNat (List.drop 8 l))).length 0)) = true,
    (fits (((List.take 4 l) ++ (List.take ((iadd .i64 8 (IntKind.i64.wrap (take4 l))) - 8).toNat (List.drop 8 l)))).length) = true,
    Runs Try.prog 11 [(.one (.pv (.ints .u8 (List.take (((List.take 4 l) ++ (List.take ((iadd .i64 8 (IntKind.i64.wrap (take4 l))) - 8).toNat (List.drop 8 l)))).length ((List.take 4 l) ++ (List.take ((iadd .i64 8 (IntKind.i64.wrap (take4 l))) - 8).toNat (List.drop 8 l)))) false)))] [] [] ([(.one (.pv (.int .u32 (wsum ((List.take 4 l) ++ (List.take ((iadd .i64 8 (IntKind.i64.wrap (take4 l))) - 8).toNat (List.drop 8 l)))))))], [], []),
    (!(decide (((take4 (List.take (((l).length : Int) - 4).toNat (List.drop 4 l))) : Int) = (wsum ((List.take 4 l) ++ (List.take ((iadd .i64 8 (IntKind.i64.wrap (take4 l))) - 8).toNat (List.drop 8 l))))))) = false]) := by kernel_rfl

theorem f14_short (l : List Int) (t : Bool) : evFn Try.prog cfg (Runs Try.prog) (LRuns Try.prog (lEnv Try.prog cfg 14 0).nt 0) 14 [(.one (.pv (.ints .u8 l t)))] [] []
    [.br true] =
  some (([(.one (.pv .nils)), (.one (.pv (.int .i64 0))), (.one (.pv (.int .i64 6)))], [], []), [
    (decide ((((l).length : Int) : Int) < 8)) = true]) := by kernel_rfl

theorem f14_long (l : List Int) (t : Bool) : evFn Try.prog cfg (Runs Try.prog) (LRuns Try.prog (lEnv Try.prog cfg 14 0).nt 0) 14 [(.one (.pv (.ints .u8 l t)))] [] []
    [.br false, .res ([(.one (.pv (.int .u32 (take4 l))))], [], []), .br true] =
  some (([(.one (.pv .nils)), (.one (.pv (.int .i64 0))), (.one (.pv (.int .i64 9)))], [], []), [
    (decide ((((l).length : Int) : Int) < 8)) = false,
    Runs Try.prog 38 [(.one (.pv (.ints .u8 l t)))] [] [] ([(.one (.pv (.int .u32 (take4 l))))], [], []),
    (decide ((1048576 : Int) < (take4 l))) = true]) := by kernel_rfl

theorem f14_less (l : List Int) (t : Bool) : evFn Try.prog cfg (Runs Try.prog) (LRuns Try.prog (lEnv Try.prog cfg 14 0).nt 0) 14 [(.one (.pv (.ints .u8 l t)))] [] []
    [.br false, .res ([(.one (.pv (.int .u32 (take4 l))))], [], []), .br false, .br true] =
  some (([(.one (.pv .nils)), (.one (.pv (.int .i64 0))), (.one (.pv (.int .i64 6)))], [], []), [
    (decide ((((l).length : Int) : Int) < 8)) = false,
    Runs Try.prog 38 [(.one (.pv (.ints .u8 l t)))] [] [] ([(.one (.pv (.int .u32 (take4 l))))], [], []),
    (decide ((1048576 : Int) < (take4 l))) = false,
    (decide ((((l).length : Int) : Int) < (iadd .i64 8 (IntKind.i64.wrap (take4 l))))) = true]) := by kernel_rfl

theorem f14_bad (l : List Int) (t : Bool) : evFn Try.prog cfg (Runs Try.prog) (LRuns Try.prog (lEnv Try.prog cfg 14 0).nt 0) 14 [(.one (.pv (.ints .u8 l t)))] [] []
    [.br false, .res ([(.one (.pv (.int .u32 (take4 l))))], [], []), .br false, .br false, .res ([(.one (.pv (.int .u32 (take4 (List.take (((l).length : Int) - 4).toNat (List.drop 4 l))))))], [], []), .res ([(.one (.pv (.ints .u8 ((List.take 4 l) ++ (List.take ((iadd .i64 8 (IntKind.i64.wrap (take4 l))) - 8).toNat (List.drop 8 l))) false)))], [], []), .res ([(.one (.pv (.int .u32 (wsum ((List.take 4 l) ++ (List.take ((iadd .i64 8 (IntKind.i64.wrap (take4 l))) - 8).toNat (List.drop 8 l)))))))], [], []), .res ([(.one (.pv (.int .u32 (take4 (List.take (((l).length : Int) - 4).toNat (List.drop 4 l))))))], [], []), .res ([(.one (.pv (.ints .u8 ((List.take 4 l) ++ (List.take ((iadd .i64 8 (IntKind.i64.wrap (take4 l))) - 8).toNat (List.drop 8 l))) false)))], [], []), .res ([(.one (.pv (.int .u32 (wsum ((List.take 4 l) ++ (List.take ((iadd .i64 8 (IntKind.i64.wrap (take4 l))) - 8).toNat (List.drop 8 l)))))))], [], []), .br true] =
  some (([(.one (.pv .nils)), (.one (.pv (.int .i64 0))), (.one (.pv (.int .i64 13)))], [], []), [
    (decide ((((l).length : Int) : Int) < 8)) = false,
    Runs Try.prog 38 [(.one (.pv (.ints .u8 l t)))] [] [] ([(.one (.pv (.int .u32 (take4 l))))], [], []),
    (decide ((1048576 : Int) < (take4 l))) = false,
    (decide ((((l).length : Int) : Int) < (iadd .i64 8 (IntKind.i64.wrap (take4 l))))) = false,
    (decide ((0 : Int) ≤ 4) && decide ((4 : Int) ≤ ((l).length : Int)) && decide ((((l).length : Int) : Int) ≤ ((l).length : Int)) && decide ((((l).length : Int) : Int) = ((l).length : Int))) = true,
    (decide ((0 : Int) ≤ 0) && decide ((0 : Int) ≤ 4) && decide ((4 : Int) ≤ ((l).length : Int)) && decide ((4 : Int) = 4)) = true,
    (decide ((0 : Int) ≤ 8) && decide ((8 : Int) ≤ (iadd .i64 8 (IntKind.i64.wrap (take4 l)))) && decide (((iadd .i64 8 (IntKind.i64.wrap (take4 l))) : Int) ≤ ((l).length : Int)) && decide (((iadd .i64 8 (IntKind.i64.wrap (take4 l))) : Int) = (iadd .i64 8 (IntKind.i64.wrap (take4 l))))) = true,
    Runs Try.prog 38 [(.one (.pv (.ints .u8 (List.take (((l).length : Int) - 4).toNat (List.drop 4 l)) t)))] [] [] ([(.one (.pv (.int .u32 (take4 (List.take (((l).length : Int) - 4).toNat (List.drop 4 l))))))], [], []),
    Runs Try.prog 33 [(.one (.pv (.recs 1 [[(.ints .u8 (List.take 4 l) false)], [(.ints .u8 (List.take ((iadd .i64 8 (IntKind.i64.wrap (take4 l))) - 8).toNat (List.drop 8 l)) false)]] true)))] [] [] ([(.one (.pv (.ints .u8 ((List.take 4 l) ++ (List.take ((iadd .i64 8 (IntKind.i64.wrap (take4 l))) - 8).toNat (List.drop 8 l))) false)))], [], []),
    Runs Try.prog 12 [(.one (.pv (.ints .u8 ((List.take 4 l) ++ (List.take ((iadd .i64 8 (IntKind.i64.wrap (take4 l))) - 8).toNat (List.drop 8 l))) false)))] [] [] ([(.one (.pv (.int .u32 (wsum ((List.take 4 l) ++ (List.take ((iadd .i64 8 (IntKind.i64.wrap (take4 l))) - 8).toNat (List.drop 8 l)))))))], [], []),
    Runs Try.prog 38 [(.one (.pv (.ints .u8 (List.take (((l).length : Int) - 4).toNat (List.drop 4 l)) t)))] [] [] ([(.one (.pv (.int .u32 (take4 (List.take (((l).length : Int) - 4).toNat (List.drop 4 l))))))], [], []),
    Runs Try.prog 33 [(.one (.pv (.recs 1 [[(.ints .u8 (List.take 4 l) false)], [(.ints .u8 (List.take ((iadd .i64 8 (IntKind.i64.wrap (take4 l))) - 8).toNat (List.drop 8 l)) false)]] true)))] [] [] ([(.one (.pv (.ints .u8 ((List.take 4 l) ++ (List.take ((iadd .i64 8 (IntKind.i64.wrap (take4 l))) - 8).toNat (List.drop 8 l))) false)))], [], []),
    Runs Try.prog 12 [(.one (.pv (.ints .u8 ((List.take 4 l) ++ (List.take ((iadd .i64 8 (IntKind.i64.wrap (take4 l))) - 8).toNat (List.drop 8 l))) false)))] [] [] ([(.one (.pv (.int .u32 (wsum ((List.take 4 l) ++ (List.take ((iadd .i64 8 (IntKind.i64.wrap (take4 l))) - 8).toNat (List.drop 8 l)))))))], [], []),
    (⟨[(0, (.av (.one (.pv (.ints .u8 l t))))), (6, (.av (.one (.pv (.int .i64 (iadd .i64 8 (IntKind.i64.wrap (take4 l)))))))), (32, (.av (.one (.pv (.bool (!(decide (((take4 (List.take (((l).length : Int) - 4).toNat (List.drop 4 l))) : Int) = (wsum ((List.take 4 l) ++ (List.take ((iadd .i64 8 (IntKind.i64.wrap (take4 l))) - 8).toNat (List.drop 8 l))))))))))))], [], []⟩ : St) = ⟨[(0, (.av (.one (.pv (.ints .u8 l t))))), (6, (.av (.one (.pv (.int .i64 (iadd .i64 8 (IntKind.i64.wrap (take4 l)))))))), (32, (.av (.one (.pv (.bool (!(decide (((take4 (List.take (((l).length : Int) - 4).toNat (List.drop 4 l))) : Int) = (wsum ((List.take 4 l) ++ (List.take ((iadd .i64 8 (IntKind.i64.wrap (take4 l))) - 8).toNat (List.drop 8 l))))))))))))], [], []⟩,
    (!(decide (((take4 (List.take (((l).length : Int) - 4).toNat (List.drop 4 l))) : Int) = (wsum ((List.take 4 l) ++ (List.take ((iadd .i64 8 (IntKind.i64.wrap (take4 l))) - 8).toNat (List.drop 8 l))))))) = true]) := by kernel_rfl

theorem f14_ok (l : List Int) (t : Bool) : evFn Try.prog cfg (Runs Try.prog) (LRuns Try.prog (lEnv Try.prog cfg 14 0).nt 0) 14 [(.one (.pv (.ints .u8 l t)))] [] []
    [.br false, .res ([(.one (.pv (.int .u32 (take4 l))))], [], []), .br false, .br false, .res ([(.one (.pv (.int .u32 (take4 (List.take (((l).length : Int) - 4).toNat (List.drop 4 l))))))], [], []), .res ([(.one (.pv (.ints .u8 ((List.take 4 l) ++ (List.take ((iadd .i64 8 (IntKind.i64.wrap (take4 l))) - 8).toNat (List.drop 8 l))) false)))], [], []), .res ([(.one (.pv (.int .u32 (wsum ((List.take 4 l) ++ (List.take ((iadd .i64 8 (IntKind.i64.wrap (take4 l))) - 8).toNat (List.drop 8 l)))))))], [], []), .res ([(.one (.pv (.int .u32 (take4 (List.take (((l).length : Int) - 4).toNat (List.drop 4 l))))))], [], []), .res ([(.one (.pv (.ints .u8 ((List.take 4 l) ++ (List.take ((iadd .i64 8 (IntKind.i64.wrap (take4 l))) - 8).toNat (List.drop 8 l))) false)))], [], []), .res ([(.one (.pv (.int .u32 (wsum ((List.take 4 l) ++ (List.take ((iadd .i64 8 (IntKind.i64.wrap (take4 l))) - 8).toNat (List.drop 8 l)))))))], [], []), .br false, .res ([(.one (.pv (.ints .u8 (List.take ((iadd .i64 8 (IntKind.i64.wrap (take4 l))) - 8).toNat (List.drop 8 l)) false)))], [], [])] =
  some (([(.one (.pv (.ints .u8 (List.take ((iadd .i64 8 (IntKind.i64.wrap (take4 l))) - 8).toNat (List.drop 8 l)) false))), (.one (.pv (.int .i64 (iadd .i64 8 (IntKind.i64.wrap (take4 l)))))), (.one (.pv (.int .i64 0)))], [], []), [
    (decide ((((l).length : Int) : Int) < 8)) = false,
    Runs Try.prog 38 [(.one (.pv (.ints .u8 l t)))] [] [] ([(.one (.pv (.int .u32 (take4 l))))], [], []),
    (decide ((1048576 : Int) < (take4 l))) = false,
    (decide ((((l).length : Int) : Int) < (iadd .i64 8 (IntKind.i64.wrap (take4 l))))) = false,
    (decide ((0 : Int) ≤ 4) && decide ((4 : Int) ≤ ((l).length : Int)) && decide ((((l).length : Int) : Int) ≤ ((l).length : Int)) && decide ((((l).length : Int) : Int) = ((l).length : Int))) = true,
    (decide ((0 : Int) ≤ 0) && decide ((0 : Int) ≤ 4) && decide ((4 : Int) ≤ ((l).length : Int)) && decide ((4 : Int) = 4)) = true,
    (decide ((0 : Int) ≤ 8) && decide ((8 : Int) ≤ (iadd .i64 8 (IntKind.i64.wrap (take4 l)))) && decide (((iadd .i64 8 (IntKind.i64.wrap (take4 l))) : Int) ≤ ((l).length : Int)) && decide (((iadd .i64 8 (IntKind.i64.wrap (take4 l))) : Int) = (iadd .i64 8 (IntKind.i64.wrap (take4 l))))) = true,
    Runs Try.prog 38 [(.one (.pv (.ints .u8 (List.take (((l).length : Int) - 4).toNat (List.drop 4 l)) t)))] [] [] ([(.one (.pv (.int .u32 (take4 (List.take (((l).length : Int) - 4).toNat (List.drop 4 l))))))], [], []),
    Runs Try.prog 33 [(.one (.pv (.recs 1 [[(.ints .u8 (List.take 4 l) false)], [(.ints .u8 (List.take ((iadd .i64 8 (IntKind.i64.wrap (take4 l))) - 8).toNat (List.drop 8 l)) false)]] true)))] [] [] ([(.one (.pv (.ints .u8 ((List.take 4 l) ++ (List.take ((iadd .i64 8 (IntKind.i64.wrap (take4 l))) - 8).toNat (List.drop 8 l))) false)))], [], []),
    Runs Try.prog 12 [(.one (.pv (.ints .u8 ((List.take 4 l) ++ (List.take ((iadd .i64 8 (IntKind.i64.wrap (take4 l))) - 8).toNat (List.drop 8 l))) false)))] [] [] ([(.one (.pv (.int .u32 (wsum ((List.take 4 l) ++ (List.take ((iadd .i64 8 (IntKind.i64.wrap (take4 l))) - 8).toNat (List.drop 8 l)))))))], [], []),
    Runs Try.prog 38 [(.one (.pv (.ints .u8 (List.take (((l).length : Int) - 4).toNat (List.drop 4 l)) t)))] [] [] ([(.one (.pv (.int .u32 (take4 (List.take (((l).length : Int) - 4).toNat (List.drop 4 l))))))], [], []),
    Runs Try.prog 33 [(.one (.pv (.recs 1 [[(.ints .u8 (List.take 4 l) false)], [(.ints .u8 (List.take ((iadd .i64 8 (IntKind.i64.wrap (take4 l))) - 8).toNat (List.drop 8 l)) false)]] true)))] [] [] ([(.one (.pv (.ints .u8 ((List.take 4 l) ++ (List.take ((iadd .i64 8 (IntKind.i64.wrap (take4 l))) - 8).toNat (List.drop 8 l))) false)))], [], []),
    Runs Try.prog 12 [(.one (.pv (.ints .u8 ((List.take 4 l) ++ (List.take ((iadd .i64 8 (IntKind.i64.wrap (take4 l))) - 8).toNat (List.drop 8 l))) false)))] [] [] ([(.one (.pv (.int .u32 (wsum ((List.take 4 l) ++ (List.take ((iadd .i64 8 (IntKind.i64.wrap (take4 l))) - 8).toNat (List.drop 8 l)))))))], [], []),
    (⟨[(0, (.av (.one (.pv (.ints .u8 l t))))), (6, (.av (.one (.pv (.int .i64 (iadd .i64 8 (IntKind.i64.wrap (take4 l)))))))), (32, (.av (.one (.pv (.bool (!(decide (((take4 (List.take (((l).length : Int) - 4).toNat (List.drop 4 l))) : Int) = (wsum ((List.take 4 l) ++ (List.take ((iadd .i64 8 (IntKind.i64.wrap (take4 l))) - 8).toNat (List.drop 8 l))))))))))))], [], []⟩ : St) = ⟨[(0, (.av (.one (.pv (.ints .u8 l t))))), (6, (.av (.one (.pv (.int .i64 (iadd .i64 8 (IntKind.i64.wrap (take4 l)))))))), (32, (.av (.one (.pv (.bool (!(decide (((take4 (List.take (((l).length : Int) - 4).toNat (List.drop 4 l))) : Int) = (wsum ((List.take 4 l) ++ (List.take ((iadd .i64 8 (IntKind.i64.wrap (take4 l))) - 8).toNat (List.drop 8 l))))))))))))], [], []⟩,
    (!(decide (((take4 (List.take (((l).length : Int) - 4).toNat (List.drop 4 l))) : Int) = (wsum ((List.take 4 l) ++ (List.take ((iadd .i64 8 (IntKind.i64.wrap (take4 l))) - 8).toNat (List.drop 8 l))))))) = false,
    (decide ((0 : Int) ≤ 8) && decide ((8 : Int) ≤ (iadd .i64 8 (IntKind.i64.wrap (take4 l)))) && decide (((iadd .i64 8 (IntKind.i64.wrap (take4 l))) : Int) ≤ ((l).length : Int)) && decide (((iadd .i64 8 (IntKind.i64.wrap (take4 l))) : Int) = (iadd .i64 8 (IntKind.i64.wrap (take4 l))))) = true,
    Runs Try.prog 33 [(.one (.pv (.recs 1 [[(.ints .u8 (List.take ((iadd .i64 8 (IntKind.i64.wrap (take4 l))) - 8).toNat (List.drop 8 l)) false)]] true)))] [] [] ([(.one (.pv (.ints .u8 (List.take ((iadd .i64 8 (IntKind.i64.wrap (take4 l))) - 8).toNat (List.drop 8 l)) false)))], [], [])]) := by kernel_rfl

theorem f16_1 (l : List Int) (t : Bool) : evFn Try.prog cfg (Runs Try.prog) (LRuns Try.prog (lEnv Try.prog cfg 16 0).nt 0) 16 [(.one (.pv (.ints .u8 l t)))] [] []
    [.res ([(.one (.own 0 0 4 false))], [], [(.ints .u8 (four4 (IntKind.u32.wrap ((l).length : Int))))]), .br false, .res ([(.one (.pv (.int .u32 (wsum ((four4 (IntKind.u32.wrap ((l).length : Int))) ++ l)))))], [], []), .res ([(.one (.own 0 0 ((four4 (IntKind.u32.wrap ((l).length : Int))).length + 4) false))], [], [(.ints .u8 ((four4 (IntKind.u32.wrap ((l).length : Int))) ++ (four4 (wsum ((four4 (IntKind.u32.wrap ((l).length : Int))) ++ l)))))])] =
  some (([(.one (.own 0 0 (((four4 (IntKind.u32.wrap ((l).length : Int))).length + 4) + (l).length) false))], [], [(.ints .u8 (((four4 (IntKind.u32.wrap ((l).length : Int))) ++ (four4 (wsum ((four4 (IntKind.u32.wrap ((l).length : Int))) ++ l)))) ++ l))]), [
    Runs Try.prog 39 [(.one (.pv .nils)), (.one (.pv (.int .u32 (IntKind.u32.wrap ((l).length : Int)))))] [] [] ([(.one (.own 0 0 4 false))], [], [(.ints .u8 (four4 (IntKind.u32.wrap ((l).length : Int))))]),
    true = true,
    true = true,
    (!(Nat.beq (l).length 0)) = true,
    (fits (((four4 (IntKind.u32.wrap ((l).length : Int))) ++ l)).length) = true,
    Runs Try.prog 11 [(.one (.pv (.ints .u8 (List.take (((four4 (IntKind.u32.wrap ((l).length : Int))) ++ l)).length ((four4 (IntKind.u32.wrap ((l).length : Int))) ++ l)) false)))] [] [] ([(.one (.pv (.int .u32 (wsum ((four4 (IntKind.u32.wrap ((l).length : Int))) ++ l)))))], [], []),
    Runs Try.prog 39 [(.one (.pv (.ints .u8 (four4 (IntKind.u32.wrap ((l).length : Int))) true))), (.one (.pv (.int .u32 (wsum ((four4 (IntKind.u32.wrap ((l).length : Int))) ++ l)))))] [] [] ([(.one (.own 0 0 ((four4 (IntKind.u32.wrap ((l).length : Int))).length + 4) false))], [], [(.ints .u8 ((four4 (IntKind.u32.wrap ((l).length : Int))) ++ (four4 (wsum ((four4 (IntKind.u32.wrap ((l).length : Int))) ++ l)))))]),
    (Nat.beq ((four4 (IntKind.u32.wrap ((l).length : Int))).length + 4) (((four4 (IntKind.u32.wrap ((l).length : Int))) ++ (four4 (wsum ((four4 (IntKind.u32.wrap ((l).length : Int))) ++ l))))).length) = true,
    (fits ((((four4 (IntKind.u32.wrap ((l).length : Int))) ++ (four4 (wsum ((four4 (IntKind.u32.wrap ((l).length : Int))) ++ l)))) ++ l)).length) = true]) := by kernel_rfl

theorem f16_0 (l : List Int) (t : Bool) : evFn Try.prog cfg (Runs Try.prog) (LRuns Try.prog (lEnv Try.prog cfg 16 0).nt 0) 16 [(.one (.pv (.ints .u8 l t)))] [] []
    [.res ([(.one (.own 0 0 4 false))], [], [(.ints .u8 (four4 (IntKind.u32.wrap ((l).length : Int))))]), .br true, .res ([(.one (.pv (.int .u32 (wsum (four4 (IntKind.u32.wrap ((l).length : Int)))))))], [], []), .res ([(.one (.own 0 0 ((four4 (IntKind.u32.wrap ((l).length : Int))).length + 4) false))], [], [(.ints .u8 ((four4 (IntKind.u32.wrap ((l).length : Int))) ++ (four4 (wsum (four4 (IntKind.u32.wrap ((l).length : Int)))))))])] =
  some (([(.one (.own 0 0 (((four4 (IntKind.u32.wrap ((l).length : Int))).length + 4) + (l).length) false))], [], [(.ints .u8 (((four4 (IntKind.u32.wrap ((l).length : Int))) ++ (four4 (wsum (four4 (IntKind.u32.wrap ((l).length : Int)))))) ++ l))]), [
    Runs Try.prog 39 [(.one (.pv .nils)), (.one (.pv (.int .u32 (IntKind.u32.wrap ((l).length : Int)))))] [] [] ([(.one (.own 0 0 4 false))], [], [(.ints .u8 (four4 (IntKind.u32.wrap ((l).length : Int))))]),
    true = true,
    true = true,
    (Nat.beq (l).length 0) = true,
    Runs Try.prog 11 [(.one (.pv (.ints .u8 (four4 (IntKind.u32.wrap ((l).length : Int))) false)))] [] [] ([(.one (.pv (.int .u32 (wsum (four4 (IntKind.u32.wrap ((l).length : Int)))))))], [], []),
    Runs Try.prog 39 [(.one (.pv (.ints .u8 (four4 (IntKind.u32.wrap ((l).length : Int))) true))), (.one (.pv (.int .u32 (wsum (four4 (IntKind.u32.wrap ((l).length : Int)))))))] [] [] ([(.one (.own 0 0 ((four4 (IntKind.u32.wrap ((l).length : Int))).length + 4) false))], [], [(.ints .u8 ((four4 (IntKind.u32.wrap ((l).length : Int))) ++ (four4 (wsum (four4 (IntKind.u32.wrap ((l).length : Int)))))))]),
    (Nat.beq ((four4 (IntKind.u32.wrap ((l).length : Int))).length + 4) (((four4 (IntKind.u32.wrap ((l).length : Int))) ++ (four4 (wsum (four4 (IntKind.u32.wrap ((l).length : Int))))))).length) = true,
    (fits ((((four4 (IntKind.u32.wrap ((l).length : Int))) ++ (four4 (wsum (four4 (IntKind.u32.wrap ((l).length : Int)))))) ++ l)).length) = true]) := by kernel_rfl

theorem f17_fn (l : List Int) (t : Bool) : evFn Try.prog cfg (Runs Try.prog) (LRuns Try.prog (lEnv Try.prog cfg 17 0).nt 0) 17 [(.one (.pv (.ints .u8 l t)))] [] []
    [.res ([(.one (.own 0 0 4 true))], [], [(.ints .u8 (four4 (IntKind.u32.wrap ((l).length : Int))))]), .res ([(.one (.pv (.ints .u8 ((four4 (IntKind.u32.wrap ((l).length : Int))) ++ l) false)))], [], []), .res ([(.one (.pv (.int .u32 (wsum ((four4 (IntKind.u32.wrap ((l).length : Int))) ++ l)))))], [], []), .res ([(.one (.own 0 0 4 true))], [], [(.ints .u8 (four4 (wsum ((four4 (IntKind.u32.wrap ((l).length : Int))) ++ l))))]), .res ([(.one (.pv (.ints .u8 (((four4 (IntKind.u32.wrap ((l).length : Int))) ++ (four4 (wsum ((four4 (IntKind.u32.wrap ((l).length : Int))) ++ l)))) ++ l) false)))], [], [])] =
  some (([(.one (.pv (.ints .u8 (((four4 (IntKind.u32.wrap ((l).length : Int))) ++ (four4 (wsum ((four4 (IntKind.u32.wrap ((l).length : Int))) ++ l)))) ++ l) false)))], [], []), [
    Runs Try.prog 40 [(.one (.pv (.int .u32 (IntKind.u32.wrap ((l).length : Int)))))] [] [] ([(.one (.own 0 0 4 true))], [], [(.ints .u8 (four4 (IntKind.u32.wrap ((l).length : Int))))]),
    Runs Try.prog 33 [(.one (.pv (.recs 1 [[(.ints .u8 (four4 (IntKind.u32.wrap ((l).length : Int))) true)], [(.ints .u8 l t)]] true)))] [] [] ([(.one (.pv (.ints .u8 ((four4 (IntKind.u32.wrap ((l).length : Int))) ++ l) false)))], [], []),
    Runs Try.prog 12 [(.one (.pv (.ints .u8 ((four4 (IntKind.u32.wrap ((l).length : Int))) ++ l) false)))] [] [] ([(.one (.pv (.int .u32 (wsum ((four4 (IntKind.u32.wrap ((l).length : Int))) ++ l)))))], [], []),
    Runs Try.prog 40 [(.one (.pv (.int .u32 (wsum ((four4 (IntKind.u32.wrap ((l).length : Int))) ++ l)))))] [] [] ([(.one (.own 0 0 4 true))], [], [(.ints .u8 (four4 (wsum ((four4 (IntKind.u32.wrap ((l).length : Int))) ++ l))))]),
    Runs Try.prog 33 [(.one (.pv (.recs 1 [[(.ints .u8 (four4 (IntKind.u32.wrap ((l).length : Int))) true)], [(.ints .u8 (four4 (wsum ((four4 (IntKind.u32.wrap ((l).length : Int))) ++ l))) true)], [(.ints .u8 l t)]] true)))] [] [] ([(.one (.pv (.ints .u8 (((four4 (IntKind.u32.wrap ((l).length : Int))) ++ (four4 (wsum ((four4 (IntKind.u32.wrap ((l).length : Int))) ++ l)))) ++ l) false)))], [], [])]) := by kernel_rfl

end Go.Proofs.Ytecblpgljmbpeaa
