/- What functions compute, and that they do. -/
import Derived.Test.YtecblpgljmbpeaaA2
set_option linter.unusedVariables false
set_option linter.unusedSimpArgs false
namespace Go.Proofs.Ytecblpgljmbpeaa
open Go.Ev

/-! ### kinfolklaw06_WireRows_L1 -/
def kinfolklaw06_WireRows_L1_st (r : List E_uint8) (n : Int) (l : List Int) : (Unit) ⊕ (List Int × Int) → St
  | .inl _ => ⟨[(3, (.av (.one (.own 0 0 (l).length false)))), (33, (.av (.one (.pv (.recs 1 (List.map E_uint8.pv r) false))))), (34, (.av (.one (.pv (.int .i64 n))))), (35, (.av (.one (.pv (.int .i64 0)))))], [], [(0, (.live (.ints .u8 l)))]⟩
  | .inr (l2, n2) => ⟨[(3, (.av (.one (.pv (.ints .u8 l2 false))))), (33, (.av (.one (.pv (.recs 1 (List.map E_uint8.pv r) false))))), (34, (.av (.one (.pv (.int .i64 n))))), (35, (.av (.one (.pv (.int .i64 n2)))))], [], []⟩
def kinfolklaw06_WireRows_L1_ex (r : List E_uint8) (n : Int) (l : List Int) : (Unit) ⊕ ((Unit) ⊕ (List Int)) → Ex × St
  | .inl _ => (.ret, ⟨[(2, (.av (.one (.pv (.bool false)))))], [], []⟩)
  | .inr (.inl _) => ((.exit 2), ⟨[(3, (.av (.one (.own 0 0 (l).length false))))], [], [(0, (.live (.ints .u8 l)))]⟩)
  | .inr (.inr r1) => ((.exit 2), ⟨[(3, (.av (.one (.pv (.ints .u8 r1 false)))))], [], []⟩)
theorem kinfolklaw06_WireRows_L1_q0_0 (r : List E_uint8) (n : Int) (l : List Int) (l_ : List Int) (l_2 : List Int) (n2 : Int) (n3 : Int) (l_3 : List Int) (b : Bool) : evRound (lEnv Try.prog cfg 6 0) (loopAt Try.prog 6 1) ⟨[(3, (.av (.one (.own 0 0 (l).length false)))), (33, (.av (.one (.pv (.recs 1 (List.map E_uint8.pv r) false))))), (34, (.av (.one (.pv (.int .i64 n))))), (35, (.av (.one (.pv (.int .i64 0)))))], [], [(0, (.live (.ints .u8 l)))]⟩
    [.br true, .el [(.ints .u8 l_ false)], .res ([(.one (.pv (.ints .u8 l_2 false))), (.one (.pv (.int .i64 n2))), (.one (.pv (.int .i64 n3)))], [], []), .br false, .res ([(.one (.own 0 0 (l_3).length false))], [], [(.ints .u8 l_3)]), .res ([(.one (.pv (.bool b)))], [], []), .br false, .br false] =
  some ((.normal, ⟨[(3, (.av (.one (.pv (.ints .u8 (List.take ((((List.take (l).length l)).length : Int) - n2).toNat (List.drop (n2).toNat (List.take (l).length l))) false))))), (33, (.av (.one (.pv (.recs 1 (List.map E_uint8.pv r) false))))), (34, (.av (.one (.pv (.int .i64 n))))), (35, (.av (.one (.pv (.int .i64 1)))))], [], []⟩), [
    (decide ((0 : Int) < n)) = true,
    (decide ((0 : Int) ≤ 0) && decide ((0 : Int) < (((List.map E_uint8.pv r)).length : Int))) = true,
    (List.map E_uint8.pv r).getD 0 [] = [(.ints .u8 l_ false)],
    Runs Try.prog 13 [(.one (.pv (.ints .u8 (List.take (l).length l) false)))] [] [] ([(.one (.pv (.ints .u8 l_2 false))), (.one (.pv (.int .i64 n2))), (.one (.pv (.int .i64 n3)))], [], []),
    (!(decide ((n3 : Int) = 0))) = false,
    Runs Try.prog 10 [(.one (.bor (.ints .u8 l_ false))), (.one (.pv (.int .i64 50)))] [] [] ([(.one (.own 0 0 (l_3).length false))], [], [(.ints .u8 l_3)]),
    Runs Try.prog 15 [(.one (.bor (.ints .u8 l_2 false))), (.one (.bor (.ints .u8 (List.take (l_3).length l_3) false)))] [] [] ([(.one (.pv (.bool b)))], [], []),
    (!b) = false,
    (!(decide ((n2 : Int) = (iadd .i64 8 ((l_2).length : Int))))) = false,
    (decide ((0 : Int) ≤ n2) && decide ((n2 : Int) ≤ (((List.take (l).length l)).length : Int)) && decide (((((List.take (l).length l)).length : Int) : Int) ≤ (((List.take (l).length l)).length : Int)) && decide (((((List.take (l).length l)).length : Int) : Int) = (((List.take (l).length l)).length : Int))) = true]) := by kernel_rfl
theorem kinfolklaw06_WireRows_L1_q0_1 (r : List E_uint8) (n : Int) (l : List Int) (l_ : List Int) (l_2 : List Int) (n2 : Int) (n3 : Int) (l_3 : List Int) (b : Bool) : evRound (lEnv Try.prog cfg 6 0) (loopAt Try.prog 6 1) ⟨[(3, (.av (.one (.own 0 0 (l).length false)))), (33, (.av (.one (.pv (.recs 1 (List.map E_uint8.pv r) false))))), (34, (.av (.one (.pv (.int .i64 n))))), (35, (.av (.one (.pv (.int .i64 0)))))], [], [(0, (.live (.ints .u8 l)))]⟩
    [.br true, .el [(.ints .u8 l_ false)], .res ([(.one (.pv (.ints .u8 l_2 false))), (.one (.pv (.int .i64 n2))), (.one (.pv (.int .i64 n3)))], [], []), .br false, .res ([(.one (.own 0 0 (l_3).length false))], [], [(.ints .u8 l_3)]), .res ([(.one (.pv (.bool b)))], [], []), .br false, .br true] =
  some ((.ret, ⟨[(2, (.av (.one (.pv (.bool false)))))], [], []⟩), [
    (decide ((0 : Int) < n)) = true,
    (decide ((0 : Int) ≤ 0) && decide ((0 : Int) < (((List.map E_uint8.pv r)).length : Int))) = true,
    (List.map E_uint8.pv r).getD 0 [] = [(.ints .u8 l_ false)],
    Runs Try.prog 13 [(.one (.pv (.ints .u8 (List.take (l).length l) false)))] [] [] ([(.one (.pv (.ints .u8 l_2 false))), (.one (.pv (.int .i64 n2))), (.one (.pv (.int .i64 n3)))], [], []),
    (!(decide ((n3 : Int) = 0))) = false,
    Runs Try.prog 10 [(.one (.bor (.ints .u8 l_ false))), (.one (.pv (.int .i64 50)))] [] [] ([(.one (.own 0 0 (l_3).length false))], [], [(.ints .u8 l_3)]),
    Runs Try.prog 15 [(.one (.bor (.ints .u8 l_2 false))), (.one (.bor (.ints .u8 (List.take (l_3).length l_3) false)))] [] [] ([(.one (.pv (.bool b)))], [], []),
    (!b) = false,
    (!(decide ((n2 : Int) = (iadd .i64 8 ((l_2).length : Int))))) = true]) := by kernel_rfl
theorem kinfolklaw06_WireRows_L1_q0_2 (r : List E_uint8) (n : Int) (l : List Int) (l_ : List Int) (l_2 : List Int) (n2 : Int) (n3 : Int) (l_3 : List Int) (b : Bool) : evRound (lEnv Try.prog cfg 6 0) (loopAt Try.prog 6 1) ⟨[(3, (.av (.one (.own 0 0 (l).length false)))), (33, (.av (.one (.pv (.recs 1 (List.map E_uint8.pv r) false))))), (34, (.av (.one (.pv (.int .i64 n))))), (35, (.av (.one (.pv (.int .i64 0)))))], [], [(0, (.live (.ints .u8 l)))]⟩
    [.br true, .el [(.ints .u8 l_ false)], .res ([(.one (.pv (.ints .u8 l_2 false))), (.one (.pv (.int .i64 n2))), (.one (.pv (.int .i64 n3)))], [], []), .br false, .res ([(.one (.own 0 0 (l_3).length false))], [], [(.ints .u8 l_3)]), .res ([(.one (.pv (.bool b)))], [], []), .br true, .br true] =
  some ((.ret, ⟨[(2, (.av (.one (.pv (.bool false)))))], [], []⟩), [
    (decide ((0 : Int) < n)) = true,
    (decide ((0 : Int) ≤ 0) && decide ((0 : Int) < (((List.map E_uint8.pv r)).length : Int))) = true,
    (List.map E_uint8.pv r).getD 0 [] = [(.ints .u8 l_ false)],
    Runs Try.prog 13 [(.one (.pv (.ints .u8 (List.take (l).length l) false)))] [] [] ([(.one (.pv (.ints .u8 l_2 false))), (.one (.pv (.int .i64 n2))), (.one (.pv (.int .i64 n3)))], [], []),
    (!(decide ((n3 : Int) = 0))) = false,
    Runs Try.prog 10 [(.one (.bor (.ints .u8 l_ false))), (.one (.pv (.int .i64 50)))] [] [] ([(.one (.own 0 0 (l_3).length false))], [], [(.ints .u8 l_3)]),
    Runs Try.prog 15 [(.one (.bor (.ints .u8 l_2 false))), (.one (.bor (.ints .u8 (List.take (l_3).length l_3) false)))] [] [] ([(.one (.pv (.bool b)))], [], []),
    (!b) = true,
    true = true]) := by kernel_rfl
theorem kinfolklaw06_WireRows_L1_q0_3 (r : List E_uint8) (n : Int) (l : List Int) (l_ : List Int) (l_2 : List Int) (n2 : Int) (n3 : Int) : evRound (lEnv Try.prog cfg 6 0) (loopAt Try.prog 6 1) ⟨[(3, (.av (.one (.own 0 0 (l).length false)))), (33, (.av (.one (.pv (.recs 1 (List.map E_uint8.pv r) false))))), (34, (.av (.one (.pv (.int .i64 n))))), (35, (.av (.one (.pv (.int .i64 0)))))], [], [(0, (.live (.ints .u8 l)))]⟩
    [.br true, .el [(.ints .u8 l_ false)], .res ([(.one (.pv (.ints .u8 l_2 false))), (.one (.pv (.int .i64 n2))), (.one (.pv (.int .i64 n3)))], [], []), .br true, .br true, .br true] =
  some ((.ret, ⟨[(2, (.av (.one (.pv (.bool false)))))], [], []⟩), [
    (decide ((0 : Int) < n)) = true,
    (decide ((0 : Int) ≤ 0) && decide ((0 : Int) < (((List.map E_uint8.pv r)).length : Int))) = true,
    (List.map E_uint8.pv r).getD 0 [] = [(.ints .u8 l_ false)],
    Runs Try.prog 13 [(.one (.pv (.ints .u8 (List.take (l).length l) false)))] [] [] ([(.one (.pv (.ints .u8 l_2 false))), (.one (.pv (.int .i64 n2))), (.one (.pv (.int .i64 n3)))], [], []),
    (!(decide ((n3 : Int) = 0))) = true,
    true = true,
    true = true]) := by kernel_rfl
theorem kinfolklaw06_WireRows_L1_q0_4 (r : List E_uint8) (n : Int) (l : List Int) : evRound (lEnv Try.prog cfg 6 0) (loopAt Try.prog 6 1) ⟨[(3, (.av (.one (.own 0 0 (l).length false)))), (33, (.av (.one (.pv (.recs 1 (List.map E_uint8.pv r) false))))), (34, (.av (.one (.pv (.int .i64 n))))), (35, (.av (.one (.pv (.int .i64 0)))))], [], [(0, (.live (.ints .u8 l)))]⟩
    [.br false] =
  some (((.exit 2), ⟨[(36, (.av (.one (.pv (.bool false))))), (3, (.av (.one (.own 0 0 (l).length false)))), (33, (.av (.one (.pv (.recs 1 (List.map E_uint8.pv r) false))))), (34, (.av (.one (.pv (.int .i64 n))))), (35, (.av (.one (.pv (.int .i64 0))))), (36, (.av (.one (.pv (.bool (decide ((0 : Int) < n)))))))], [], [(0, (.live (.ints .u8 l)))]⟩), [
    (decide ((0 : Int) < n)) = false]) := by kernel_rfl
theorem kinfolklaw06_WireRows_L1_q1_0 (r : List E_uint8) (n : Int) (l : List Int) (l2 : List Int) (n2 : Int) (l_ : List Int) (l_2 : List Int) (n3 : Int) (n4 : Int) (l_3 : List Int) (b : Bool) : evRound (lEnv Try.prog cfg 6 0) (loopAt Try.prog 6 1) ⟨[(3, (.av (.one (.pv (.ints .u8 l2 false))))), (33, (.av (.one (.pv (.recs 1 (List.map E_uint8.pv r) false))))), (34, (.av (.one (.pv (.int .i64 n))))), (35, (.av (.one (.pv (.int .i64 n2)))))], [], []⟩
    [.br true, .el [(.ints .u8 l_ false)], .res ([(.one (.pv (.ints .u8 l_2 false))), (.one (.pv (.int .i64 n3))), (.one (.pv (.int .i64 n4)))], [], []), .br false, .res ([(.one (.own 0 0 (l_3).length false))], [], [(.ints .u8 l_3)]), .res ([(.one (.pv (.bool b)))], [], []), .br false, .br false] =
  some ((.normal, ⟨[(3, (.av (.one (.pv (.ints .u8 (List.take (((l2).length : Int) - n3).toNat (List.drop (n3).toNat l2)) false))))), (33, (.av (.one (.pv (.recs 1 (List.map E_uint8.pv r) false))))), (34, (.av (.one (.pv (.int .i64 n))))), (35, (.av (.one (.pv (.int .i64 (iadd .i64 n2 1))))))], [], []⟩), [
    (decide ((n2 : Int) < n)) = true,
    (decide ((0 : Int) ≤ n2) && decide ((n2 : Int) < (((List.map E_uint8.pv r)).length : Int))) = true,
    (List.map E_uint8.pv r).getD (n2).toNat [] = [(.ints .u8 l_ false)],
    Runs Try.prog 13 [(.one (.pv (.ints .u8 l2 false)))] [] [] ([(.one (.pv (.ints .u8 l_2 false))), (.one (.pv (.int .i64 n3))), (.one (.pv (.int .i64 n4)))], [], []),
    (!(decide ((n4 : Int) = 0))) = false,
    Runs Try.prog 10 [(.one (.bor (.ints .u8 l_ false))), (.one (.pv (.int .i64 50)))] [] [] ([(.one (.own 0 0 (l_3).length false))], [], [(.ints .u8 l_3)]),
    Runs Try.prog 15 [(.one (.bor (.ints .u8 l_2 false))), (.one (.bor (.ints .u8 (List.take (l_3).length l_3) false)))] [] [] ([(.one (.pv (.bool b)))], [], []),
    (!b) = false,
    (!(decide ((n3 : Int) = (iadd .i64 8 ((l_2).length : Int))))) = false,
    (decide ((0 : Int) ≤ n3) && decide ((n3 : Int) ≤ ((l2).length : Int)) && decide ((((l2).length : Int) : Int) ≤ ((l2).length : Int)) && decide ((((l2).length : Int) : Int) = ((l2).length : Int))) = true]) := by kernel_rfl
theorem kinfolklaw06_WireRows_L1_q1_1 (r : List E_uint8) (n : Int) (l : List Int) (l2 : List Int) (n2 : Int) (l_ : List Int) (l_2 : List Int) (n3 : Int) (n4 : Int) (l_3 : List Int) (b : Bool) : evRound (lEnv Try.prog cfg 6 0) (loopAt Try.prog 6 1) ⟨[(3, (.av (.one (.pv (.ints .u8 l2 false))))), (33, (.av (.one (.pv (.recs 1 (List.map E_uint8.pv r) false))))), (34, (.av (.one (.pv (.int .i64 n))))), (35, (.av (.one (.pv (.int .i64 n2)))))], [], []⟩
    [.br true, .el [(.ints .u8 l_ false)], .res ([(.one (.pv (.ints .u8 l_2 false))), (.one (.pv (.int .i64 n3))), (.one (.pv (.int .i64 n4)))], [], []), .br false, .res ([(.one (.own 0 0 (l_3).length false))], [], [(.ints .u8 l_3)]), .res ([(.one (.pv (.bool b)))], [], []), .br false, .br true] =
  some ((.ret, ⟨[(2, (.av (.one (.pv (.bool false)))))], [], []⟩), [
    (decide ((n2 : Int) < n)) = true,
    (decide ((0 : Int) ≤ n2) && decide ((n2 : Int) < (((List.map E_uint8.pv r)).length : Int))) = true,
    (List.map E_uint8.pv r).getD (n2).toNat [] = [(.ints .u8 l_ false)],
    Runs Try.prog 13 [(.one (.pv (.ints .u8 l2 false)))] [] [] ([(.one (.pv (.ints .u8 l_2 false))), (.one (.pv (.int .i64 n3))), (.one (.pv (.int .i64 n4)))], [], []),
    (!(decide ((n4 : Int) = 0))) = false,
    Runs Try.prog 10 [(.one (.bor (.ints .u8 l_ false))), (.one (.pv (.int .i64 50)))] [] [] ([(.one (.own 0 0 (l_3).length false))], [], [(.ints .u8 l_3)]),
    Runs Try.prog 15 [(.one (.bor (.ints .u8 l_2 false))), (.one (.bor (.ints .u8 (List.take (l_3).length l_3) false)))] [] [] ([(.one (.pv (.bool b)))], [], []),
    (!b) = false,
    (!(decide ((n3 : Int) = (iadd .i64 8 ((l_2).length : Int))))) = true]) := by kernel_rfl
theorem kinfolklaw06_WireRows_L1_q1_2 (r : List E_uint8) (n : Int) (l : List Int) (l2 : List Int) (n2 : Int) (l_ : List Int) (l_2 : List Int) (n3 : Int) (n4 : Int) (l_3 : List Int) (b : Bool) : evRound (lEnv Try.prog cfg 6 0) (loopAt Try.prog 6 1) ⟨[(3, (.av (.one (.pv (.ints .u8 l2 false))))), (33, (.av (.one (.pv (.recs 1 (List.map E_uint8.pv r) false))))), (34, (.av (.one (.pv (.int .i64 n))))), (35, (.av (.one (.pv (.int .i64 n2)))))], [], []⟩
    [.br true, .el [(.ints .u8 l_ false)], .res ([(.one (.pv (.ints .u8 l_2 false))), (.one (.pv (.int .i64 n3))), (.one (.pv (.int .i64 n4)))], [], []), .br false, .res ([(.one (.own 0 0 (l_3).length false))], [], [(.ints .u8 l_3)]), .res ([(.one (.pv (.bool b)))], [], []), .br true, .br true] =
  some ((.ret, ⟨[(2, (.av (.one (.pv (.bool false)))))], [], []⟩), [
    (decide ((n2 : Int) < n)) = true,
    (decide ((0 : Int) ≤ n2) && decide ((n2 : Int) < (((List.map E_uint8.pv r)).length : Int))) = true,
    (List.map E_uint8.pv r).getD (n2).toNat [] = [(.ints .u8 l_ false)],
    Runs Try.prog 13 [(.one (.pv (.ints .u8 l2 false)))] [] [] ([(.one (.pv (.ints .u8 l_2 false))), (.one (.pv (.int .i64 n3))), (.one (.pv (.int .i64 n4)))], [], []),
    (!(decide ((n4 : Int) = 0))) = false,
    Runs Try.prog 10 [(.one (.bor (.ints .u8 l_ false))), (.one (.pv (.int .i64 50)))] [] [] ([(.one (.own 0 0 (l_3).length false))], [], [(.ints .u8 l_3)]),
    Runs Try.prog 15 [(.one (.bor (.ints .u8 l_2 false))), (.one (.bor (.ints .u8 (List.take (l_3).length l_3) false)))] [] [] ([(.one (.pv (.bool b)))], [], []),
    (!b) = true,
    true = true]) := by kernel_rfl
theorem kinfolklaw06_WireRows_L1_q1_3 (r : List E_uint8) (n : Int) (l : List Int) (l2 : List Int) (n2 : Int) (l_ : List Int) (l_2 : List Int) (n3 : Int) (n4 : Int) : evRound (lEnv Try.prog cfg 6 0) (loopAt Try.prog 6 1) ⟨[(3, (.av (.one (.pv (.ints .u8 l2 false))))), (33, (.av (.one (.pv (.recs 1 (List.map E_uint8.pv r) false))))), (34, (.av (.one (.pv (.int .i64 n))))), (35, (.av (.one (.pv (.int .i64 n2)))))], [], []⟩
    [.br true, .el [(.ints .u8 l_ false)], .res ([(.one (.pv (.ints .u8 l_2 false))), (.one (.pv (.int .i64 n3))), (.one (.pv (.int .i64 n4)))], [], []), .br true, .br true, .br true] =
  some ((.ret, ⟨[(2, (.av (.one (.pv (.bool false)))))], [], []⟩), [
    (decide ((n2 : Int) < n)) = true,
    (decide ((0 : Int) ≤ n2) && decide ((n2 : Int) < (((List.map E_uint8.pv r)).length : Int))) = true,
    (List.map E_uint8.pv r).getD (n2).toNat [] = [(.ints .u8 l_ false)],
    Runs Try.prog 13 [(.one (.pv (.ints .u8 l2 false)))] [] [] ([(.one (.pv (.ints .u8 l_2 false))), (.one (.pv (.int .i64 n3))), (.one (.pv (.int .i64 n4)))], [], []),
    (!(decide ((n4 : Int) = 0))) = true,
    true = true,
    true = true]) := by kernel_rfl
theorem kinfolklaw06_WireRows_L1_q1_4 (r : List E_uint8) (n : Int) (l : List Int) (l2 : List Int) (n2 : Int) : evRound (lEnv Try.prog cfg 6 0) (loopAt Try.prog 6 1) ⟨[(3, (.av (.one (.pv (.ints .u8 l2 false))))), (33, (.av (.one (.pv (.recs 1 (List.map E_uint8.pv r) false))))), (34, (.av (.one (.pv (.int .i64 n))))), (35, (.av (.one (.pv (.int .i64 n2)))))], [], []⟩
    [.br false] =
  some (((.exit 2), ⟨[(36, (.av (.one (.pv (.bool false))))), (3, (.av (.one (.pv (.ints .u8 l2 false))))), (33, (.av (.one (.pv (.recs 1 (List.map E_uint8.pv r) false))))), (34, (.av (.one (.pv (.int .i64 n))))), (35, (.av (.one (.pv (.int .i64 n2))))), (36, (.av (.one (.pv (.bool (decide ((n2 : Int) < n)))))))], [], []⟩), [
    (decide ((n2 : Int) < n)) = false]) := by kernel_rfl
noncomputable def kinfolklaw06_WireRows_L1_step (r : List E_uint8) (n : Int) (l : List Int) : (Unit) ⊕ (List Int × Int) → Option (((Unit) ⊕ (List Int × Int)) ⊕ ((Unit) ⊕ ((Unit) ⊕ (List Int))))
  | .inl _ =>
    bif (decide ((0 : Int) < n)) then
      bif decide ((0 : Int) ≤ 0) && decide ((0 : Int) < (((List.map E_uint8.pv r)).length : Int)) then
      (r[0]?).bind fun e_ => match e_ with
      | .mk l_ =>
      (wire_Open l).bind fun (l_2, n2, n3) =>
      bif (decide ((n3 : Int) = 0)) then
        (kinfolklaw06_cut l_ 50).bind fun l_3 =>
        (kinfolkref06_Same l_2 l_3).bind fun b =>
        bif b then
          bif (decide ((n2 : Int) = (iadd .i64 8 ((l_2).length : Int)))) then
            bif decide ((0 : Int) ≤ n2) && decide ((n2 : Int) ≤ (((List.take (l).length l)).length : Int)) && decide (((((List.take (l).length l)).length : Int) : Int) ≤ (((List.take (l).length l)).length : Int)) && decide (((((List.take (l).length l)).length : Int) : Int) = (((List.take (l).length l)).length : Int)) then
            some (.inl (.inr ((List.take (((l).length : Int) - n2).toNat (List.drop (n2).toNat l)), 1)))
            else none
          else
            some (.inr (.inl ()))
        else
          some (.inr (.inl ()))
      else
        some (.inr (.inl ()))
      else none
    else
      some (.inr (.inr (.inl ())))
  | .inr (l2, n2) =>
    bif (decide ((n2 : Int) < n)) then
      bif decide ((0 : Int) ≤ n2) && decide ((n2 : Int) < (((List.map E_uint8.pv r)).length : Int)) then
      (r[(n2).toNat]?).bind fun e_ => match e_ with
      | .mk l_ =>
      (wire_Open l2).bind fun (l_2, n3, n4) =>
      bif (decide ((n4 : Int) = 0)) then
        (kinfolklaw06_cut l_ 50).bind fun l_3 =>
        (kinfolkref06_Same l_2 l_3).bind fun b =>
        bif b then
          bif (decide ((n3 : Int) = (iadd .i64 8 ((l_2).length : Int)))) then
            bif decide ((0 : Int) ≤ n3) && decide ((n3 : Int) ≤ ((l2).length : Int)) && decide ((((l2).length : Int) : Int) ≤ ((l2).length : Int)) && decide ((((l2).length : Int) : Int) = ((l2).length : Int)) then
            some (.inl (.inr ((List.take (((l2).length : Int) - n3).toNat (List.drop (n3).toNat l2)), (iadd .i64 n2 1))))
            else none
          else
            some (.inr (.inl ()))
        else
          some (.inr (.inl ()))
      else
        some (.inr (.inl ()))
      else none
    else
      some (.inr (.inr (.inr l2)))
theorem kinfolklaw06_WireRows_L1_ok (r : List E_uint8) (n : Int) (l : List Int) (s_ : (Unit) ⊕ (List Int × Int)) (z_ : ((Unit) ⊕ (List Int × Int)) ⊕ ((Unit) ⊕ ((Unit) ⊕ (List Int)))) (h : kinfolklaw06_WireRows_L1_step r n l s_ = some z_) : RoundOk Try.prog cfg 6 0 (loopAt Try.prog 6 1) (kinfolklaw06_WireRows_L1_st r n l) (kinfolklaw06_WireRows_L1_ex r n l) s_ z_ := by
  rcases s_ with _ | ⟨l2, n2⟩
  · rcases cond_of h with ⟨h1, h⟩ | ⟨h1, h⟩
    · obtain ⟨h2, h⟩ := need_of h
      obtain ⟨⟨l_⟩, h3, h⟩ := bind_of h
      obtain ⟨⟨l_2, n2, n3⟩, h4, h⟩ := bind_of h
      rcases cond_of h with ⟨h5, h⟩ | ⟨h5, h⟩
      · obtain ⟨l_3, h6, h⟩ := bind_of h
        obtain ⟨b, h7, h⟩ := bind_of h
        rcases cond_of h with ⟨h8, h⟩ | ⟨h8, h⟩
        · rcases cond_of h with ⟨h9, h⟩ | ⟨h9, h⟩
          · obtain ⟨h10, h⟩ := need_of h
            have h := some_of h
            subst h
            have e_ := kinfolklaw06_WireRows_L1_q0_0 r n l l_ l_2 n2 n3 l_3 b
            have e_ := Says.of e_ ⟨h1, h2, (el_of h3), ((wire_Open_runs l _ h4).coe ⟨.pv (.ints (by first | rfl | (simp only [List.take_length]; done) | (simp only [List.take_length, List.length_append, List.drop_zero, List.map_append, List.map_take, List.map_drop, List.map_cons, List.map_nil, List.append_nil, List.nil_append, E_uint8.pv]; done) | (simp; done))), trivial⟩ trivial trivial), (not_of2 h5), (kinfolklaw06_cut_runs l_ 50 _ h6), ((kinfolkref06_Same_runs l_2 l_3 _ h7).coe ⟨.eq rfl, .bor (.ints (by first | rfl | (simp only [List.take_length]; done) | (simp only [List.take_length, List.length_append, List.drop_zero, List.map_append, List.map_take, List.map_drop, List.map_cons, List.map_nil, List.append_nil, List.nil_append, E_uint8.pv]; done) | (simp; done))), trivial⟩ trivial trivial), (not_of2 h8), (not_of2 h9), h10, trivial⟩
            exact ⟨_, _, e_, ⟨⟨⟨_, rfl, .pv (.ints (by first | rfl | (simp only [List.take_length]; done) | (simp only [List.take_length, List.length_append, List.drop_zero, List.map_append, List.map_take, List.map_drop, List.map_cons, List.map_nil, List.append_nil, List.nil_append, E_uint8.pv]; done) | (simp; done)))⟩, ⟨_, rfl, .eq rfl⟩, ⟨_, rfl, .eq rfl⟩, ⟨_, rfl, .eq rfl⟩, trivial⟩, trivial, trivial⟩⟩
          · have h := some_of h
            subst h
            have e_ := kinfolklaw06_WireRows_L1_q0_1 r n l l_ l_2 n2 n3 l_3 b
            have e_ := Says.of e_ ⟨h1, h2, (el_of h3), ((wire_Open_runs l _ h4).coe ⟨.pv (.ints (by first | rfl | (simp only [List.take_length]; done) | (simp only [List.take_length, List.length_append, List.drop_zero, List.map_append, List.map_take, List.map_drop, List.map_cons, List.map_nil, List.append_nil, List.nil_append, E_uint8.pv]; done) | (simp; done))), trivial⟩ trivial trivial), (not_of2 h5), (kinfolklaw06_cut_runs l_ 50 _ h6), ((kinfolkref06_Same_runs l_2 l_3 _ h7).coe ⟨.eq rfl, .bor (.ints (by first | rfl | (simp only [List.take_length]; done) | (simp only [List.take_length, List.length_append, List.drop_zero, List.map_append, List.map_take, List.map_drop, List.map_cons, List.map_nil, List.append_nil, List.nil_append, E_uint8.pv]; done) | (simp; done))), trivial⟩ trivial trivial), (not_of2 h8), (not_of h9), trivial⟩
            exact ⟨_, _, e_, ⟨⟨⟨_, rfl, .eq rfl⟩, trivial⟩, trivial, trivial⟩⟩
        · have h := some_of h
          subst h
          have e_ := kinfolklaw06_WireRows_L1_q0_2 r n l l_ l_2 n2 n3 l_3 b
          have e_ := Says.of e_ ⟨h1, h2, (el_of h3), ((wire_Open_runs l _ h4).coe ⟨.pv (.ints (by first | rfl | (simp only [List.take_length]; done) | (simp only [List.take_length, List.length_append, List.drop_zero, List.map_append, List.map_take, List.map_drop, List.map_cons, List.map_nil, List.append_nil, List.nil_append, E_uint8.pv]; done) | (simp; done))), trivial⟩ trivial trivial), (not_of2 h5), (kinfolklaw06_cut_runs l_ 50 _ h6), ((kinfolkref06_Same_runs l_2 l_3 _ h7).coe ⟨.eq rfl, .bor (.ints (by first | rfl | (simp only [List.take_length]; done) | (simp only [List.take_length, List.length_append, List.drop_zero, List.map_append, List.map_take, List.map_drop, List.map_cons, List.map_nil, List.append_nil, List.nil_append, E_uint8.pv]; done) | (simp; done))), trivial⟩ trivial trivial), (not_of h8), rfl, trivial⟩
          exact ⟨_, _, e_, ⟨⟨⟨_, rfl, .eq rfl⟩, trivial⟩, trivial, trivial⟩⟩
      · have h := some_of h
        subst h
        have e_ := kinfolklaw06_WireRows_L1_q0_3 r n l l_ l_2 n2 n3
        have e_ := Says.of e_ ⟨h1, h2, (el_of h3), ((wire_Open_runs l _ h4).coe ⟨.pv (.ints (by first | rfl | (simp only [List.take_length]; done) | (simp only [List.take_length, List.length_append, List.drop_zero, List.map_append, List.map_take, List.map_drop, List.map_cons, List.map_nil, List.append_nil, List.nil_append, E_uint8.pv]; done) | (simp; done))), trivial⟩ trivial trivial), (not_of h5), rfl, rfl, trivial⟩
        exact ⟨_, _, e_, ⟨⟨⟨_, rfl, .eq rfl⟩, trivial⟩, trivial, trivial⟩⟩
    · have h := some_of h
      subst h
      have e_ := kinfolklaw06_WireRows_L1_q0_4 r n l
      have e_ := Says.of e_ ⟨h1, trivial⟩
      exact ⟨_, _, e_, ⟨⟨⟨_, rfl, .eq rfl⟩, trivial⟩, trivial, ⟨⟨rfl, .eq rfl⟩, trivial⟩⟩⟩
  · rcases cond_of h with ⟨h1, h⟩ | ⟨h1, h⟩
    · obtain ⟨h2, h⟩ := need_of h
      obtain ⟨⟨l_⟩, h3, h⟩ := bind_of h
      obtain ⟨⟨l_2, n3, n4⟩, h4, h⟩ := bind_of h
      rcases cond_of h with ⟨h5, h⟩ | ⟨h5, h⟩
      · obtain ⟨l_3, h6, h⟩ := bind_of h
        obtain ⟨b, h7, h⟩ := bind_of h
        rcases cond_of h with ⟨h8, h⟩ | ⟨h8, h⟩
        · rcases cond_of h with ⟨h9, h⟩ | ⟨h9, h⟩
          · obtain ⟨h10, h⟩ := need_of h
            have h := some_of h
            subst h
            have e_ := kinfolklaw06_WireRows_L1_q1_0 r n l l2 n2 l_ l_2 n3 n4 l_3 b
            have e_ := Says.of e_ ⟨h1, h2, (el_of h3), (wire_Open_runs l2 _ h4), (not_of2 h5), (kinfolklaw06_cut_runs l_ 50 _ h6), ((kinfolkref06_Same_runs l_2 l_3 _ h7).coe ⟨.eq rfl, .bor (.ints (by first | rfl | (simp only [List.take_length]; done) | (simp only [List.take_length, List.length_append, List.drop_zero, List.map_append, List.map_take, List.map_drop, List.map_cons, List.map_nil, List.append_nil, List.nil_append, E_uint8.pv]; done) | (simp; done))), trivial⟩ trivial trivial), (not_of2 h8), (not_of2 h9), h10, trivial⟩
            exact ⟨_, _, e_, ⟨⟨⟨_, rfl, .eq rfl⟩, ⟨_, rfl, .eq rfl⟩, ⟨_, rfl, .eq rfl⟩, ⟨_, rfl, .eq rfl⟩, trivial⟩, trivial, trivial⟩⟩
          · have h := some_of h
            subst h
            have e_ := kinfolklaw06_WireRows_L1_q1_1 r n l l2 n2 l_ l_2 n3 n4 l_3 b
            have e_ := Says.of e_ ⟨h1, h2, (el_of h3), (wire_Open_runs l2 _ h4), (not_of2 h5), (kinfolklaw06_cut_runs l_ 50 _ h6), ((kinfolkref06_Same_runs l_2 l_3 _ h7).coe ⟨.eq rfl, .bor (.ints (by first | rfl | (simp only [List.take_length]; done) | (simp only [List.take_length, List.length_append, List.drop_zero, List.map_append, List.map_take, List.map_drop, List.map_cons, List.map_nil, List.append_nil, List.nil_append, E_uint8.pv]; done) | (simp; done))), trivial⟩ trivial trivial), (not_of2 h8), (not_of h9), trivial⟩
            exact ⟨_, _, e_, ⟨⟨⟨_, rfl, .eq rfl⟩, trivial⟩, trivial, trivial⟩⟩
        · have h := some_of h
          subst h
          have e_ := kinfolklaw06_WireRows_L1_q1_2 r n l l2 n2 l_ l_2 n3 n4 l_3 b
          have e_ := Says.of e_ ⟨h1, h2, (el_of h3), (wire_Open_runs l2 _ h4), (not_of2 h5), (kinfolklaw06_cut_runs l_ 50 _ h6), ((kinfolkref06_Same_runs l_2 l_3 _ h7).coe ⟨.eq rfl, .bor (.ints (by first | rfl | (simp only [List.take_length]; done) | (simp only [List.take_length, List.length_append, List.drop_zero, List.map_append, List.map_take, List.map_drop, List.map_cons, List.map_nil, List.append_nil, List.nil_append, E_uint8.pv]; done) | (simp; done))), trivial⟩ trivial trivial), (not_of h8), rfl, trivial⟩
          exact ⟨_, _, e_, ⟨⟨⟨_, rfl, .eq rfl⟩, trivial⟩, trivial, trivial⟩⟩
      · have h := some_of h
        subst h
        have e_ := kinfolklaw06_WireRows_L1_q1_3 r n l l2 n2 l_ l_2 n3 n4
        have e_ := Says.of e_ ⟨h1, h2, (el_of h3), (wire_Open_runs l2 _ h4), (not_of h5), rfl, rfl, trivial⟩
        exact ⟨_, _, e_, ⟨⟨⟨_, rfl, .eq rfl⟩, trivial⟩, trivial, trivial⟩⟩
    · have h := some_of h
      subst h
      have e_ := kinfolklaw06_WireRows_L1_q1_4 r n l l2 n2
      have e_ := Says.of e_ ⟨h1, trivial⟩
      exact ⟨_, _, e_, ⟨⟨⟨_, rfl, .eq rfl⟩, trivial⟩, trivial, trivial⟩⟩
theorem kinfolklaw06_WireRows_L1_runs (r : List E_uint8) (n : Int) (l : List Int) (s_ : (Unit) ⊕ (List Int × Int)) (r_ : (Unit) ⊕ ((Unit) ⊕ (List Int))) (h : runL (kinfolklaw06_WireRows_L1_step r n l) s_ = some r_) : LRuns Try.prog (lEnv Try.prog cfg 6 0).nt 0 (.loop (loopAt Try.prog 6 1)) (kinfolklaw06_WireRows_L1_st r n l s_) (kinfolklaw06_WireRows_L1_ex r n l r_).1 (kinfolklaw06_WireRows_L1_ex r n l r_).2 :=
  loop_run h (kinfolklaw06_WireRows_L1_ok r n l) (by intro r_; rcases r_ with _ | (_ | r1) <;> simp [kinfolklaw06_WireRows_L1_ex])
/-! ### kinfolklaw06_WireRows -/
def kinfolklaw06_WireRows_out (l : List E_uint8) : Bool → Res
  | r1 => ([(.one (.pv (.bool r1)))], [], [])
theorem kinfolklaw06_WireRows_p0 (l : List E_uint8) (b : Bool) (l_ : List Int) : evFn Try.prog cfg (Runs Try.prog) (LRuns Try.prog (lEnv Try.prog cfg 6 0).nt 0) 6 [(.one (.pv (.recs 1 (List.map E_uint8.pv l) false)))] [] []
    [.res ([(.one (.pv (.bool b)))], [], []), .br false, .lp (.exit 0) ⟨[(0, (.av (.one (.pv (.recs 1 (List.map E_uint8.pv (List.take ((if (8 : Int) < (((List.map E_uint8.pv l)).length : Int) then 8 else (((List.map E_uint8.pv l)).length : Int)) - 0).toNat l)) false))))), (3, (.av (.one (.own 0 0 (l_).length false))))], [], [(0, (.live (.ints .u8 l_)))]⟩, .lp .ret ⟨[(2, (.av (.one (.pv (.bool false)))))], [], []⟩] =
  some (([(.one (.pv (.bool false)))], [], []), [
    Runs Try.prog 9 [] [] [] ([(.one (.pv (.bool b)))], [], []),
    (!b) = false,
    (decide ((0 : Int) ≤ 0) && decide ((0 : Int) ≤ (if (8 : Int) < (((List.map E_uint8.pv l)).length : Int) then 8 else (((List.map E_uint8.pv l)).length : Int))) && decide (((if (8 : Int) < (((List.map E_uint8.pv l)).length : Int) then 8 else (((List.map E_uint8.pv l)).length : Int)) : Int) ≤ (((List.map E_uint8.pv l)).length : Int)) && decide (((if (8 : Int) < (((List.map E_uint8.pv l)).length : Int) then 8 else (((List.map E_uint8.pv l)).length : Int)) : Int) = (if (8 : Int) < (((List.map E_uint8.pv l)).length : Int) then 8 else (((List.map E_uint8.pv l)).length : Int)))) = true,
    LRuns Try.prog (lEnv Try.prog cfg 6 0).nt 0 (.loop (loopAt Try.prog 6 0)) ⟨[(0, (.av (.one (.pv (.recs 1 (List.take ((if (8 : Int) < (((List.map E_uint8.pv l)).length : Int) then 8 else (((List.map E_uint8.pv l)).length : Int)) - 0).toNat (List.map E_uint8.pv l)) false))))), (3, (.av (.one (.own 0 0 0 false)))), (21, (.av (.one (.pv (.recs 1 (List.take ((if (8 : Int) < (((List.map E_uint8.pv l)).length : Int) then 8 else (((List.map E_uint8.pv l)).length : Int)) - 0).toNat (List.map E_uint8.pv l)) false))))), (22, (.av (.one (.pv (.int .i64 (((List.take ((if (8 : Int) < (((List.map E_uint8.pv l)).length : Int) then 8 else (((List.map E_uint8.pv l)).length : Int)) - 0).toNat (List.map E_uint8.pv l))).length : Int)))))), (23, (.av (.one (.pv (.int .i64 0)))))], [], [(0, (.live (.ints .u8 [])))]⟩ (.exit 0) ⟨[(0, (.av (.one (.pv (.recs 1 (List.map E_uint8.pv (List.take ((if (8 : Int) < (((List.map E_uint8.pv l)).length : Int) then 8 else (((List.map E_uint8.pv l)).length : Int)) - 0).toNat l)) false))))), (3, (.av (.one (.own 0 0 (l_).length false))))], [], [(0, (.live (.ints .u8 l_)))]⟩,
    LRuns Try.prog (lEnv Try.prog cfg 6 0).nt 0 (.loop (loopAt Try.prog 6 1)) ⟨[(3, (.av (.one (.own 0 0 (l_).length false)))), (33, (.av (.one (.pv (.recs 1 (List.map E_uint8.pv (List.take ((if (8 : Int) < (((List.map E_uint8.pv l)).length : Int) then 8 else (((List.map E_uint8.pv l)).length : Int)) - 0).toNat l)) false))))), (34, (.av (.one (.pv (.int .i64 (((List.map E_uint8.pv (List.take ((if (8 : Int) < (((List.map E_uint8.pv l)).length : Int) then 8 else (((List.map E_uint8.pv l)).length : Int)) - 0).toNat l))).length : Int)))))), (35, (.av (.one (.pv (.int .i64 0)))))], [], [(0, (.live (.ints .u8 l_)))]⟩ .ret ⟨[(2, (.av (.one (.pv (.bool false)))))], [], []⟩]) := by kernel_rfl
theorem kinfolklaw06_WireRows_p1 (l : List E_uint8) (b : Bool) (l_ : List Int) (l_2 : List Int) (n : Int) (n2 : Int) : evFn Try.prog cfg (Runs Try.prog) (LRuns Try.prog (lEnv Try.prog cfg 6 0).nt 0) 6 [(.one (.pv (.recs 1 (List.map E_uint8.pv l) false)))] [] []
    [.res ([(.one (.pv (.bool b)))], [], []), .br false, .lp (.exit 0) ⟨[(0, (.av (.one (.pv (.recs 1 (List.map E_uint8.pv (List.take ((if (8 : Int) < (((List.map E_uint8.pv l)).length : Int) then 8 else (((List.map E_uint8.pv l)).length : Int)) - 0).toNat l)) false))))), (3, (.av (.one (.own 0 0 (l_).length false))))], [], [(0, (.live (.ints .u8 l_)))]⟩, .lp (.exit 2) ⟨[(3, (.av (.one (.own 0 0 (l_).length false))))], [], [(0, (.live (.ints .u8 l_)))]⟩, .res ([(.one (.pv (.ints .u8 l_2 false))), (.one (.pv (.int .i64 n))), (.one (.pv (.int .i64 n2)))], [], []), .br true] =
  some (([(.one (.pv (.bool (decide ((n2 : Int) = 6)))))], [], []), [
    Runs Try.prog 9 [] [] [] ([(.one (.pv (.bool b)))], [], []),
    (!b) = false,
    (decide ((0 : Int) ≤ 0) && decide ((0 : Int) ≤ (if (8 : Int) < (((List.map E_uint8.pv l)).length : Int) then 8 else (((List.map E_uint8.pv l)).length : Int))) && decide (((if (8 : Int) < (((List.map E_uint8.pv l)).length : Int) then 8 else (((List.map E_uint8.pv l)).length : Int)) : Int) ≤ (((List.map E_uint8.pv l)).length : Int)) && decide (((if (8 : Int) < (((List.map E_uint8.pv l)).length : Int) then 8 else (((List.map E_uint8.pv l)).length : Int)) : Int) = (if (8 : Int) < (((List.map E_uint8.pv l)).length : Int) then 8 else (((List.map E_uint8.pv l)).length : Int)))) = true,
    LRuns Try.prog (lEnv Try.prog cfg 6 0).nt 0 (.loop (loopAt Try.prog 6 0)) ⟨[(0, (.av (.one (.pv (.recs 1 (List.take ((if (8 : Int) < (((List.map E_uint8.pv l)).length : Int) then 8 else (((List.map E_uint8.pv l)).length : Int)) - 0).toNat (List.map E_uint8.pv l)) false))))), (3, (.av (.one (.own 0 0 0 false)))), (21, (.av (.one (.pv (.recs 1 (List.take ((if (8 : Int) < (((List.map E_uint8.pv l)).length : Int) then 8 else (((List.map E_uint8.pv l)).length : Int)) - 0).toNat (List.map E_uint8.pv l)) false))))), (22, (.av (.one (.pv (.int .i64 (((List.take ((if (8 : Int) < (((List.map E_uint8.pv l)).length : Int) then 8 else (((List.map E_uint8.pv l)).length : Int)) - 0).toNat (List.map E_uint8.pv l))).length : Int)))))), (23, (.av (.one (.pv (.int .i64 0)))))], [], [(0, (.live (.ints .u8 [])))]⟩ (.exit 0) ⟨[(0, (.av (.one (.pv (.recs 1 (List.map E_uint8.pv (List.take ((if (8 : Int) < (((List.map E_uint8.pv l)).length : Int) then 8 else (((List.map E_uint8.pv l)).length : Int)) - 0).toNat l)) false))))), (3, (.av (.one (.own 0 0 (l_).length false))))], [], [(0, (.live (.ints .u8 l_)))]⟩,
    LRuns Try.prog (lEnv Try.prog cfg 6 0).nt 0 (.loop (loopAt Try.prog 6 1)) ⟨[(3, (.av (.one (.own 0 0 (l_).length false)))), (33, (.av (.one (.pv (.recs 1 (List.map E_uint8.pv (List.take ((if (8 : Int) < (((List.map E_uint8.pv l)).length : Int) then 8 else (((List.map E_uint8.pv l)).length : Int)) - 0).toNat l)) false))))), (34, (.av (.one (.pv (.int .i64 (((List.map E_uint8.pv (List.take ((if (8 : Int) < (((List.map E_uint8.pv l)).length : Int) then 8 else (((List.map E_uint8.pv l)).length : Int)) - 0).toNat l))).length : Int)))))), (35, (.av (.one (.pv (.int .i64 0)))))], [], [(0, (.live (.ints .u8 l_)))]⟩ (.exit 2) ⟨[(3, (.av (.one (.own 0 0 (l_).length false))))], [], [(0, (.live (.ints .u8 l_)))]⟩,
    Runs Try.prog 13 [(.one (.pv (.ints .u8 (List.take (l_).length l_) false)))] [] [] ([(.one (.pv (.ints .u8 l_2 false))), (.one (.pv (.int .i64 n))), (.one (.pv (.int .i64 n2)))], [], []),
    (decide (((((List.take (l_).length l_)).length : Int) : Int) = 0)) = true]) := by kernel_rfl
theorem kinfolklaw06_WireRows_p2 (l : List E_uint8) (b : Bool) (l_ : List Int) (l_2 : List Int) (n : Int) (n2 : Int) : evFn Try.prog cfg (Runs Try.prog) (LRuns Try.prog (lEnv Try.prog cfg 6 0).nt 0) 6 [(.one (.pv (.recs 1 (List.map E_uint8.pv l) false)))] [] []
    [.res ([(.one (.pv (.bool b)))], [], []), .br false, .lp (.exit 0) ⟨[(0, (.av (.one (.pv (.recs 1 (List.map E_uint8.pv (List.take ((if (8 : Int) < (((List.map E_uint8.pv l)).length : Int) then 8 else (((List.map E_uint8.pv l)).length : Int)) - 0).toNat l)) false))))), (3, (.av (.one (.own 0 0 (l_).length false))))], [], [(0, (.live (.ints .u8 l_)))]⟩, .lp (.exit 2) ⟨[(3, (.av (.one (.own 0 0 (l_).length false))))], [], [(0, (.live (.ints .u8 l_)))]⟩, .res ([(.one (.pv (.ints .u8 l_2 false))), (.one (.pv (.int .i64 n))), (.one (.pv (.int .i64 n2)))], [], []), .br false] =
  some (([(.one (.pv (.bool false)))], [], []), [
    Runs Try.prog 9 [] [] [] ([(.one (.pv (.bool b)))], [], []),
    (!b) = false,
    (decide ((0 : Int) ≤ 0) && decide ((0 : Int) ≤ (if (8 : Int) < (((List.map E_uint8.pv l)).length : Int) then 8 else (((List.map E_uint8.pv l)).length : Int))) && decide (((if (8 : Int) < (((List.map E_uint8.pv l)).length : Int) then 8 else (((List.map E_uint8.pv l)).length : Int)) : Int) ≤ (((List.map E_uint8.pv l)).length : Int)) && decide (((if (8 : Int) < (((List.map E_uint8.pv l)).length : Int) then 8 else (((List.map E_uint8.pv l)).length : Int)) : Int) = (if (8 : Int) < (((List.map E_uint8.pv l)).length : Int) then 8 else (((List.map E_uint8.pv l)).length : Int)))) = true,
    LRuns Try.prog (lEnv Try.prog cfg 6 0).nt 0 (.loop (loopAt Try.prog 6 0)) ⟨[(0, (.av (.one (.pv (.recs 1 (List.take ((if (8 : Int) < (((List.map E_uint8.pv l)).length : Int) then 8 else (((List.map E_uint8.pv l)).length : Int)) - 0).toNat (List.map E_uint8.pv l)) false))))), (3, (.av (.one (.own 0 0 0 false)))), (21, (.av (.one (.pv (.recs 1 (List.take ((if (8 : Int) < (((List.map E_uint8.pv l)).length : Int) then 8 else (((List.map E_uint8.pv l)).length : Int)) - 0).toNat (List.map E_uint8.pv l)) false))))), (22, (.av (.one (.pv (.int .i64 (((List.take ((if (8 : Int) < (((List.map E_uint8.pv l)).length : Int) then 8 else (((List.map E_uint8.pv l)).length : Int)) - 0).toNat (List.map E_uint8.pv l))).length : Int)))))), (23, (.av (.one (.pv (.int .i64 0)))))], [], [(0, (.live (.ints .u8 [])))]⟩ (.exit 0) ⟨[(0, (.av (.one (.pv (.recs 1 (List.map E_uint8.pv (List.take ((if (8 : Int) < (((List.map E_uint8.pv l)).length : Int) then 8 else (((List.map E_uint8.pv l)).length : Int)) - 0).toNat l)) false))))), (3, (.av (.one (.own 0 0 (l_).length false))))], [], [(0, (.live (.ints .u8 l_)))]⟩,
    LRuns Try.prog (lEnv Try.prog cfg 6 0).nt 0 (.loop (loopAt Try.prog 6 1)) ⟨[(3, (.av (.one (.own 0 0 (l_).length false)))), (33, (.av (.one (.pv (.recs 1 (List.map E_uint8.pv (List.take ((if (8 : Int) < (((List.map E_uint8.pv l)).length : Int) then 8 else (((List.map E_uint8.pv l)).length : Int)) - 0).toNat l)) false))))), (34, (.av (.one (.pv (.int .i64 (((List.map E_uint8.pv (List.take ((if (8 : Int) < (((List.map E_uint8.pv l)).length : Int) then 8 else (((List.map E_uint8.pv l)).length : Int)) - 0).toNat l))).length : Int)))))), (35, (.av (.one (.pv (.int .i64 0)))))], [], [(0, (.live (.ints .u8 l_)))]⟩ (.exit 2) ⟨[(3, (.av (.one (.own 0 0 (l_).length false))))], [], [(0, (.live (.ints .u8 l_)))]⟩,
    Runs Try.prog 13 [(.one (.pv (.ints .u8 (List.take (l_).length l_) false)))] [] [] ([(.one (.pv (.ints .u8 l_2 false))), (.one (.pv (.int .i64 n))), (.one (.pv (.int .i64 n2)))], [], []),
    (decide (((((List.take (l_).length l_)).length : Int) : Int) = 0)) = false]) := by kernel_rfl
theorem kinfolklaw06_WireRows_p3 (l : List E_uint8) (b : Bool) (l_ : List Int) (l_2 : List Int) (l_3 : List Int) (n : Int) (n2 : Int) : evFn Try.prog cfg (Runs Try.prog) (LRuns Try.prog (lEnv Try.prog cfg 6 0).nt 0) 6 [(.one (.pv (.recs 1 (List.map E_uint8.pv l) false)))] [] []
    [.res ([(.one (.pv (.bool b)))], [], []), .br false, .lp (.exit 0) ⟨[(0, (.av (.one (.pv (.recs 1 (List.map E_uint8.pv (List.take ((if (8 : Int) < (((List.map E_uint8.pv l)).length : Int) then 8 else (((List.map E_uint8.pv l)).length : Int)) - 0).toNat l)) false))))), (3, (.av (.one (.own 0 0 (l_).length false))))], [], [(0, (.live (.ints .u8 l_)))]⟩, .lp (.exit 2) ⟨[(3, (.av (.one (.pv (.ints .u8 l_2 false)))))], [], []⟩, .res ([(.one (.pv (.ints .u8 l_3 false))), (.one (.pv (.int .i64 n))), (.one (.pv (.int .i64 n2)))], [], []), .br true] =
  some (([(.one (.pv (.bool (decide ((n2 : Int) = 6)))))], [], []), [
    Runs Try.prog 9 [] [] [] ([(.one (.pv (.bool b)))], [], []),
    (!b) = false,
    (decide ((0 : Int) ≤ 0) && decide ((0 : Int) ≤ (if (8 : Int) < (((List.map E_uint8.pv l)).length : Int) then 8 else (((List.map E_uint8.pv l)).length : Int))) && decide (((if (8 : Int) < (((List.map E_uint8.pv l)).length : Int) then 8 else (((List.map E_uint8.pv l)).length : Int)) : Int) ≤ (((List.map E_uint8.pv l)).length : Int)) && decide (((if (8 : Int) < (((List.map E_uint8.pv l)).length : Int) then 8 else (((List.map E_uint8.pv l)).length : Int)) : Int) = (if (8 : Int) < (((List.map E_uint8.pv l)).length : Int) then 8 else (((List.map E_uint8.pv l)).length : Int)))) = true,
    LRuns Try.prog (lEnv Try.prog cfg 6 0).nt 0 (.loop (loopAt Try.prog 6 0)) ⟨[(0, (.av (.one (.pv (.recs 1 (List.take ((if (8 : Int) < (((List.map E_uint8.pv l)).length : Int) then 8 else (((List.map E_uint8.pv l)).length : Int)) - 0).toNat (List.map E_uint8.pv l)) false))))), (3, (.av (.one (.own 0 0 0 false)))), (21, (.av (.one (.pv (.recs 1 (List.take ((if (8 : Int) < (((List.map E_uint8.pv l)).length : Int) then 8 else (((List.map E_uint8.pv l)).length : Int)) - 0).toNat (List.map E_uint8.pv l)) false))))), (22, (.av (.one (.pv (.int .i64 (((List.take ((if (8 : Int) < (((List.map E_uint8.pv l)).length : Int) then 8 else (((List.map E_uint8.pv l)).length : Int)) - 0).toNat (List.map E_uint8.pv l))).length : Int)))))), (23, (.av (.one (.pv (.int .i64 0)))))], [], [(0, (.live (.ints .u8 [])))]⟩ (.exit 0) ⟨[(0, (.av (.one (.pv (.recs 1 (List.map E_uint8.pv (List.take ((if (8 : Int) < (((List.map E_uint8.pv l)).length : Int) then 8 else (((List.map E_uint8.pv l)).length : Int)) - 0).toNat l)) false))))), (3, (.av (.one (.own 0 0 (l_).length false))))], [], [(0, (.live (.ints .u8 l_)))]⟩,
    LRuns Try.prog (lEnv Try.prog cfg 6 0).nt 0 (.loop (loopAt Try.prog 6 1)) ⟨[(3, (.av (.one (.own 0 0 (l_).length false)))), (33, (.av (.one (.pv (.recs 1 (List.map E_uint8.pv (List.take ((if (8 : Int) < (((List.map E_uint8.pv l)).length : Int) then 8 else (((List.map E_uint8.pv l)).length : Int)) - 0).toNat l)) false))))), (34, (.av (.one (.pv (.int .i64 (((List.map E_uint8.pv (List.take ((if (8 : Int) < (((List.map E_uint8.pv l)).length : Int) then 8 else (((List.map E_uint8.pv l)).length : Int)) - 0).toNat l))).length : Int)))))), (35, (.av (.one (.pv (.int .i64 0)))))], [], [(0, (.live (.ints .u8 l_)))]⟩ (.exit 2) ⟨[(3, (.av (.one (.pv (.ints .u8 l_2 false)))))], [], []⟩,
    Runs Try.prog 13 [(.one (.pv (.ints .u8 l_2 false)))] [] [] ([(.one (.pv (.ints .u8 l_3 false))), (.one (.pv (.int .i64 n))), (.one (.pv (.int .i64 n2)))], [], []),
    (decide ((((l_2).length : Int) : Int) = 0)) = true]) := by kernel_rfl
theorem kinfolklaw06_WireRows_p4 (l : List E_uint8) (b : Bool) (l_ : List Int) (l_2 : List Int) (l_3 : List Int) (n : Int) (n2 : Int) : evFn Try.prog cfg (Runs Try.prog) (LRuns Try.prog (lEnv Try.prog cfg 6 0).nt 0) 6 [(.one (.pv (.recs 1 (List.map E_uint8.pv l) false)))] [] []
    [.res ([(.one (.pv (.bool b)))], [], []), .br false, .lp (.exit 0) ⟨[(0, (.av (.one (.pv (.recs 1 (List.map E_uint8.pv (List.take ((if (8 : Int) < (((List.map E_uint8.pv l)).length : Int) then 8 else (((List.map E_uint8.pv l)).length : Int)) - 0).toNat l)) false))))), (3, (.av (.one (.own 0 0 (l_).length false))))], [], [(0, (.live (.ints .u8 l_)))]⟩, .lp (.exit 2) ⟨[(3, (.av (.one (.pv (.ints .u8 l_2 false)))))], [], []⟩, .res ([(.one (.pv (.ints .u8 l_3 false))), (.one (.pv (.int .i64 n))), (.one (.pv (.int .i64 n2)))], [], []), .br false] =
  some (([(.one (.pv (.bool false)))], [], []), [
    Runs Try.prog 9 [] [] [] ([(.one (.pv (.bool b)))], [], []),
    (!b) = false,
    (decide ((0 : Int) ≤ 0) && decide ((0 : Int) ≤ (if (8 : Int) < (((List.map E_uint8.pv l)).length : Int) then 8 else (((List.map E_uint8.pv l)).length : Int))) && decide (((if (8 : Int) < (((List.map E_uint8.pv l)).length : Int) then 8 else (((List.map E_uint8.pv l)).length : Int)) : Int) ≤ (((List.map E_uint8.pv l)).length : Int)) && decide (((if (8 : Int) < (((List.map E_uint8.pv l)).length : Int) then 8 else (((List.map E_uint8.pv l)).length : Int)) : Int) = (if (8 : Int) < (((List.map E_uint8.pv l)).length : Int) then 8 else (((List.map E_uint8.pv l)).length : Int)))) = true,
    LRuns Try.prog (lEnv Try.prog cfg 6 0).nt 0 (.loop (loopAt Try.prog 6 0)) ⟨[(0, (.av (.one (.pv (.recs 1 (List.take ((if (8 : Int) < (((List.map E_uint8.pv l)).length : Int) then 8 else (((List.map E_uint8.pv l)).length : Int)) - 0).toNat (List.map E_uint8.pv l)) false))))), (3, (.av (.one (.own 0 0 0 false)))), (21, (.av (.one (.pv (.recs 1 (List.take ((if (8 : Int) < (((List.map E_uint8.pv l)).length : Int) then 8 else (((List.map E_uint8.pv l)).length : Int)) - 0).toNat (List.map E_uint8.pv l)) false))))), (22, (.av (.one (.pv (.int .i64 (((List.take ((if (8 : Int) < (((List.map E_uint8.pv l)).length : Int) then 8 else (((List.map E_uint8.pv l)).length : Int)) - 0).toNat (List.map E_uint8.pv l))).length : Int)))))), (23, (.av (.one (.pv (.int .i64 0)))))], [], [(0, (.live (.ints .u8 [])))]⟩ (.exit 0) ⟨[(0, (.av (.one (.pv (.recs 1 (List.map E_uint8.pv (List.take ((if (8 : Int) < (((List.map E_uint8.pv l)).length : Int) then 8 else (((List.map E_uint8.pv l)).length : Int)) - 0).toNat l)) false))))), (3, (.av (.one (.own 0 0 (l_).length false))))], [], [(0, (.live (.ints .u8 l_)))]⟩,
    LRuns Try.prog (lEnv Try.prog cfg 6 0).nt 0 (.loop (loopAt Try.prog 6 1)) ⟨[(3, (.av (.one (.own 0 0 (l_).length false)))), (33, (.av (.one (.pv (.recs 1 (List.map E_uint8.pv (List.take ((if (8 : Int) < (((List.map E_uint8.pv l)).length : Int) then 8 else (((List.map E_uint8.pv l)).length : Int)) - 0).toNat l)) false))))), (34, (.av (.one (.pv (.int .i64 (((List.map E_uint8.pv (List.take ((if (8 : Int) < (((List.map E_uint8.pv l)).length : Int) then 8 else (((List.map E_uint8.pv l)).length : Int)) - 0).toNat l))).length : Int)))))), (35, (.av (.one (.pv (.int .i64 0)))))], [], [(0, (.live (.ints .u8 l_)))]⟩ (.exit 2) ⟨[(3, (.av (.one (.pv (.ints .u8 l_2 false)))))], [], []⟩,
    Runs Try.prog 13 [(.one (.pv (.ints .u8 l_2 false)))] [] [] ([(.one (.pv (.ints .u8 l_3 false))), (.one (.pv (.int .i64 n))), (.one (.pv (.int .i64 n2)))], [], []),
    (decide ((((l_2).length : Int) : Int) = 0)) = false]) := by kernel_rfl
theorem kinfolklaw06_WireRows_p5 (l : List E_uint8) (b : Bool) : evFn Try.prog cfg (Runs Try.prog) (LRuns Try.prog (lEnv Try.prog cfg 6 0).nt 0) 6 [(.one (.pv (.recs 1 (List.map E_uint8.pv l) false)))] [] []
    [.res ([(.one (.pv (.bool b)))], [], []), .br true] =
  some (([(.one (.pv (.bool false)))], [], []), [
    Runs Try.prog 9 [] [] [] ([(.one (.pv (.bool b)))], [], []),
    (!b) = true]) := by kernel_rfl
noncomputable def kinfolklaw06_WireRows (l : List E_uint8) : Option (Bool) :=
  (kinfolklaw06_awake).bind fun b =>
  bif b then
    bif decide ((0 : Int) ≤ 0) && decide ((0 : Int) ≤ (if (8 : Int) < (((List.map E_uint8.pv l)).length : Int) then 8 else (((List.map E_uint8.pv l)).length : Int))) && decide (((if (8 : Int) < (((List.map E_uint8.pv l)).length : Int) then 8 else (((List.map E_uint8.pv l)).length : Int)) : Int) ≤ (((List.map E_uint8.pv l)).length : Int)) && decide (((if (8 : Int) < (((List.map E_uint8.pv l)).length : Int) then 8 else (((List.map E_uint8.pv l)).length : Int)) : Int) = (if (8 : Int) < (((List.map E_uint8.pv l)).length : Int) then 8 else (((List.map E_uint8.pv l)).length : Int))) then
    (runL (kinfolklaw06_WireRows_L0_2_step (List.take ((if (8 : Int) < (((List.map E_uint8.pv l)).length : Int) then 8 else (((List.map E_uint8.pv l)).length : Int)) - 0).toNat l) (List.take ((if (8 : Int) < (((List.map E_uint8.pv l)).length : Int) then 8 else (((List.map E_uint8.pv l)).length : Int)) - 0).toNat l) (((List.take ((if (8 : Int) < (((List.map E_uint8.pv l)).length : Int) then 8 else (((List.map E_uint8.pv l)).length : Int)) - 0).toNat (List.map E_uint8.pv l))).length : Int)) (0, [])).bind fun l_ =>
    (runL (kinfolklaw06_WireRows_L1_step (List.take ((if (8 : Int) < (((List.map E_uint8.pv l)).length : Int) then 8 else (((List.map E_uint8.pv l)).length : Int)) - 0).toNat l) (((List.map E_uint8.pv (List.take ((if (8 : Int) < (((List.map E_uint8.pv l)).length : Int) then 8 else (((List.map E_uint8.pv l)).length : Int)) - 0).toNat l))).length : Int) l_) (.inl ())).bind fun z_ => match z_ with
    | .inl _ =>
      some false
    | .inr (.inl _) =>
      (wire_Open l_).bind fun (l_2, n, n2) =>
      bif (decide (((((List.take (l_).length l_)).length : Int) : Int) = 0)) then
        some (decide ((n2 : Int) = 6))
      else
        some false
    | .inr (.inr l_2) =>
      (wire_Open l_2).bind fun (l_3, n, n2) =>
      bif (decide ((((l_2).length : Int) : Int) = 0)) then
        some (decide ((n2 : Int) = 6))
      else
        some false
    else none
  else
    some false
theorem kinfolklaw06_WireRows_runs (l : List E_uint8) (r_ : Bool) (h : kinfolklaw06_WireRows l = some r_) : Runs Try.prog 6 [(.one (.pv (.recs 1 (List.map E_uint8.pv l) false)))] [] [] (kinfolklaw06_WireRows_out l r_) := by
  unfold kinfolklaw06_WireRows at h
  obtain ⟨b, h1, h⟩ := bind_of h
  rcases cond_of h with ⟨h2, h⟩ | ⟨h2, h⟩
  · obtain ⟨h3, h⟩ := need_of h
    obtain ⟨l_, h4, h⟩ := bind_of h
    obtain ⟨z_, h5, h⟩ := bind_of h
    rcases z_ with _ | (_ | l_2)
    · have h := some_of h
      subst h
      have e_ := kinfolklaw06_WireRows_p0 l b l_
      have e_ := runs_of (objs := []) (Says.of e_ ⟨(kinfolklaw06_awake_runs _ h1), (not_of2 h2), h3, ((kinfolklaw06_WireRows_L0_2_runs (List.take ((if (8 : Int) < (((List.map E_uint8.pv l)).length : Int) then 8 else (((List.map E_uint8.pv l)).length : Int)) - 0).toNat l) (List.take ((if (8 : Int) < (((List.map E_uint8.pv l)).length : Int) then 8 else (((List.map E_uint8.pv l)).length : Int)) - 0).toNat l) (((List.take ((if (8 : Int) < (((List.map E_uint8.pv l)).length : Int) then 8 else (((List.map E_uint8.pv l)).length : Int)) - 0).toNat (List.map E_uint8.pv l))).length : Int) _ _ h4).coe ⟨⟨⟨_, rfl, .pv (.recsT (.eq (by first | rfl | (simp only [List.take_length]; done) | (simp only [List.take_length, List.length_append, List.drop_zero, List.map_append, List.map_take, List.map_drop, List.map_cons, List.map_nil, List.append_nil, List.nil_append, E_uint8.pv]; done) | (simp; done))))⟩, ⟨_, rfl, .own (by first | rfl | (simp only [List.take_length]; done) | (simp only [List.take_length, List.length_append, List.drop_zero, List.map_append, List.map_take, List.map_drop, List.map_cons, List.map_nil, List.append_nil, List.nil_append, E_uint8.pv]; done) | (simp; done))⟩, ⟨_, rfl, .pv (.recsT (.eq (by first | rfl | (simp only [List.take_length]; done) | (simp only [List.take_length, List.length_append, List.drop_zero, List.map_append, List.map_take, List.map_drop, List.map_cons, List.map_nil, List.append_nil, List.nil_append, E_uint8.pv]; done) | (simp; done))))⟩, ⟨_, rfl, .eq rfl⟩, ⟨_, rfl, .eq rfl⟩, trivial⟩, trivial, ⟨⟨rfl, .eq rfl⟩, trivial⟩⟩), (kinfolklaw06_WireRows_L1_runs (List.take ((if (8 : Int) < (((List.map E_uint8.pv l)).length : Int) then 8 else (((List.map E_uint8.pv l)).length : Int)) - 0).toNat l) (((List.map E_uint8.pv (List.take ((if (8 : Int) < (((List.map E_uint8.pv l)).length : Int) then 8 else (((List.map E_uint8.pv l)).length : Int)) - 0).toNat l))).length : Int) l_ _ _ h5), trivial⟩)
      exact e_
    · obtain ⟨⟨l_2, n, n2⟩, h6, h⟩ := bind_of h
      rcases cond_of h with ⟨h7, h⟩ | ⟨h7, h⟩
      · have h := some_of h
        subst h
        have e_ := kinfolklaw06_WireRows_p1 l b l_ l_2 n n2
        have e_ := runs_of (objs := []) (Says.of e_ ⟨(kinfolklaw06_awake_runs _ h1), (not_of2 h2), h3, ((kinfolklaw06_WireRows_L0_2_runs (List.take ((if (8 : Int) < (((List.map E_uint8.pv l)).length : Int) then 8 else (((List.map E_uint8.pv l)).length : Int)) - 0).toNat l) (List.take ((if (8 : Int) < (((List.map E_uint8.pv l)).length : Int) then 8 else (((List.map E_uint8.pv l)).length : Int)) - 0).toNat l) (((List.take ((if (8 : Int) < (((List.map E_uint8.pv l)).length : Int) then 8 else (((List.map E_uint8.pv l)).length : Int)) - 0).toNat (List.map E_uint8.pv l))).length : Int) _ _ h4).coe ⟨⟨⟨_, rfl, .pv (.recsT (.eq (by first | rfl | (simp only [List.take_length]; done) | (simp only [List.take_length, List.length_append, List.drop_zero, List.map_append, List.map_take, List.map_drop, List.map_cons, List.map_nil, List.append_nil, List.nil_append, E_uint8.pv]; done) | (simp; done))))⟩, ⟨_, rfl, .own (by first | rfl | (simp only [List.take_length]; done) | (simp only [List.take_length, List.length_append, List.drop_zero, List.map_append, List.map_take, List.map_drop, List.map_cons, List.map_nil, List.append_nil, List.nil_append, E_uint8.pv]; done) | (simp; done))⟩, ⟨_, rfl, .pv (.recsT (.eq (by first | rfl | (simp only [List.take_length]; done) | (simp only [List.take_length, List.length_append, List.drop_zero, List.map_append, List.map_take, List.map_drop, List.map_cons, List.map_nil, List.append_nil, List.nil_append, E_uint8.pv]; done) | (simp; done))))⟩, ⟨_, rfl, .eq rfl⟩, ⟨_, rfl, .eq rfl⟩, trivial⟩, trivial, ⟨⟨rfl, .eq rfl⟩, trivial⟩⟩), (kinfolklaw06_WireRows_L1_runs (List.take ((if (8 : Int) < (((List.map E_uint8.pv l)).length : Int) then 8 else (((List.map E_uint8.pv l)).length : Int)) - 0).toNat l) (((List.map E_uint8.pv (List.take ((if (8 : Int) < (((List.map E_uint8.pv l)).length : Int) then 8 else (((List.map E_uint8.pv l)).length : Int)) - 0).toNat l))).length : Int) l_ _ _ h5), ((wire_Open_runs l_ _ h6).coe ⟨.pv (.ints (by first | rfl | (simp only [List.take_length]; done) | (simp only [List.take_length, List.length_append, List.drop_zero, List.map_append, List.map_take, List.map_drop, List.map_cons, List.map_nil, List.append_nil, List.nil_append, E_uint8.pv]; done) | (simp; done))), trivial⟩ trivial trivial), h7, trivial⟩)
        exact e_
      · have h := some_of h
        subst h
        have e_ := kinfolklaw06_WireRows_p2 l b l_ l_2 n n2
        have e_ := runs_of (objs := []) (Says.of e_ ⟨(kinfolklaw06_awake_runs _ h1), (not_of2 h2), h3, ((kinfolklaw06_WireRows_L0_2_runs (List.take ((if (8 : Int) < (((List.map E_uint8.pv l)).length : Int) then 8 else (((List.map E_uint8.pv l)).length : Int)) - 0).toNat l) (List.take ((if (8 : Int) < (((List.map E_uint8.pv l)).length : Int) then 8 else (((List.map E_uint8.pv l)).length : Int)) - 0).toNat l) (((List.take ((if (8 : Int) < (((List.map E_uint8.pv l)).length : Int) then 8 else (((List.map E_uint8.pv l)).length : Int)) - 0).toNat (List.map E_uint8.pv l))).length : Int) _ _ h4).coe ⟨⟨⟨_, rfl, .pv (.recsT (.eq (by first | rfl | (simp only [List.take_length]; done) | (simp only [List.take_length, List.length_append, List.drop_zero, List.map_append, List.map_take, List.map_drop, List.map_cons, List.map_nil, List.append_nil, List.nil_append, E_uint8.pv]; done) | (simp; done))))⟩, ⟨_, rfl, .own (by first | rfl | (simp only [List.take_length]; done) | (simp only [List.take_length, List.length_append, List.drop_zero, List.map_append, List.map_take, List.map_drop, List.map_cons, List.map_nil, List.append_nil, List.nil_append, E_uint8.pv]; done) | (simp; done))⟩, ⟨_, rfl, .pv (.recsT (.eq (by first | rfl | (simp only [List.take_length]; done) | (simp only [List.take_length, List.length_append, List.drop_zero, List.map_append, List.map_take, List.map_drop, List.map_cons, List.map_nil, List.append_nil, List.nil_append, E_uint8.pv]; done) | (simp; done))))⟩, ⟨_, rfl, .eq rfl⟩, ⟨_, rfl, .eq rfl⟩, trivial⟩, trivial, ⟨⟨rfl, .eq rfl⟩, trivial⟩⟩), (kinfolklaw06_WireRows_L1_runs (List.take ((if (8 : Int) < (((List.map E_uint8.pv l)).length : Int) then 8 else (((List.map E_uint8.pv l)).length : Int)) - 0).toNat l) (((List.map E_uint8.pv (List.take ((if (8 : Int) < (((List.map E_uint8.pv l)).length : Int) then 8 else (((List.map E_uint8.pv l)).length : Int)) - 0).toNat l))).length : Int) l_ _ _ h5), ((wire_Open_runs l_ _ h6).coe ⟨.pv (.ints (by first | rfl | (simp only [List.take_length]; done) | (simp only [List.take_length, List.length_append, List.drop_zero, List.map_append, List.map_take, List.map_drop, List.map_cons, List.map_nil, List.append_nil, List.nil_append, E_uint8.pv]; done) | (simp; done))), trivial⟩ trivial trivial), h7, trivial⟩)
        exact e_
    · obtain ⟨⟨l_3, n, n2⟩, h6, h⟩ := bind_of h
      rcases cond_of h with ⟨h7, h⟩ | ⟨h7, h⟩
      · have h := some_of h
        subst h
        have e_ := kinfolklaw06_WireRows_p3 l b l_ l_2 l_3 n n2
        have e_ := runs_of (objs := []) (Says.of e_ ⟨(kinfolklaw06_awake_runs _ h1), (not_of2 h2), h3, ((kinfolklaw06_WireRows_L0_2_runs (List.take ((if (8 : Int) < (((List.map E_uint8.pv l)).length : Int) then 8 else (((List.map E_uint8.pv l)).length : Int)) - 0).toNat l) (List.take ((if (8 : Int) < (((List.map E_uint8.pv l)).length : Int) then 8 else (((List.map E_uint8.pv l)).length : Int)) - 0).toNat l) (((List.take ((if (8 : Int) < (((List.map E_uint8.pv l)).length : Int) then 8 else (((List.map E_uint8.pv l)).length : Int)) - 0).toNat (List.map E_uint8.pv l))).length : Int) _ _ h4).coe ⟨⟨⟨_, rfl, .pv (.recsT (.eq (by first | rfl | (simp only [List.take_length]; done) | (simp only [List.take_length, List.length_append, List.drop_zero, List.map_append, List.map_take, List.map_drop, List.map_cons, List.map_nil, List.append_nil, List.nil_append, E_uint8.pv]; done) | (simp; done))))⟩, ⟨_, rfl, .own (by first | rfl | (simp only [List.take_length]; done) | (simp only [List.take_length, List.length_append, List.drop_zero, List.map_append, List.map_take, List.map_drop, List.map_cons, List.map_nil, List.append_nil, List.nil_append, E_uint8.pv]; done) | (simp; done))⟩, ⟨_, rfl, .pv (.recsT (.eq (by first | rfl | (simp only [List.take_length]; done) | (simp only [List.take_length, List.length_append, List.drop_zero, List.map_append, List.map_take, List.map_drop, List.map_cons, List.map_nil, List.append_nil, List.nil_append, E_uint8.pv]; done) | (simp; done))))⟩, ⟨_, rfl, .eq rfl⟩, ⟨_, rfl, .eq rfl⟩, trivial⟩, trivial, ⟨⟨rfl, .eq rfl⟩, trivial⟩⟩), (kinfolklaw06_WireRows_L1_runs (List.take ((if (8 : Int) < (((List.map E_uint8.pv l)).length : Int) then 8 else (((List.map E_uint8.pv l)).length : Int)) - 0).toNat l) (((List.map E_uint8.pv (List.take ((if (8 : Int) < (((List.map E_uint8.pv l)).length : Int) then 8 else (((List.map E_uint8.pv l)).length : Int)) - 0).toNat l))).length : Int) l_ _ _ h5), (wire_Open_runs l_2 _ h6), h7, trivial⟩)
        exact e_
      · have h := some_of h
        subst h
        have e_ := kinfolklaw06_WireRows_p4 l b l_ l_2 l_3 n n2
        have e_ := runs_of (objs := []) (Says.of e_ ⟨(kinfolklaw06_awake_runs _ h1), (not_of2 h2), h3, ((kinfolklaw06_WireRows_L0_2_runs (List.take ((if (8 : Int) < (((List.map E_uint8.pv l)).length : Int) then 8 else (((List.map E_uint8.pv l)).length : Int)) - 0).toNat l) (List.take ((if (8 : Int) < (((List.map E_uint8.pv l)).length : Int) then 8 else (((List.map E_uint8.pv l)).length : Int)) - 0).toNat l) (((List.take ((if (8 : Int) < (((List.map E_uint8.pv l)).length : Int) then 8 else (((List.map E_uint8.pv l)).length : Int)) - 0).toNat (List.map E_uint8.pv l))).length : Int) _ _ h4).coe ⟨⟨⟨_, rfl, .pv (.recsT (.eq (by first | rfl | (simp only [List.take_length]; done) | (simp only [List.take_length, List.length_append, List.drop_zero, List.map_append, List.map_take, List.map_drop, List.map_cons, List.map_nil, List.append_nil, List.nil_append, E_uint8.pv]; done) | (simp; done))))⟩, ⟨_, rfl, .own (by first | rfl | (simp only [List.take_length]; done) | (simp only [List.take_length, List.length_append, List.drop_zero, List.map_append, List.map_take, List.map_drop, List.map_cons, List.map_nil, List.append_nil, List.nil_append, E_uint8.pv]; done) | (simp; done))⟩, ⟨_, rfl, .pv (.recsT (.eq (by first | rfl | (simp only [List.take_length]; done) | (simp only [List.take_length, List.length_append, List.drop_zero, List.map_append, List.map_take, List.map_drop, List.map_cons, List.map_nil, List.append_nil, List.nil_append, E_uint8.pv]; done) | (simp; done))))⟩, ⟨_, rfl, .eq rfl⟩, ⟨_, rfl, .eq rfl⟩, trivial⟩, trivial, ⟨⟨rfl, .eq rfl⟩, trivial⟩⟩), (kinfolklaw06_WireRows_L1_runs (List.take ((if (8 : Int) < (((List.map E_uint8.pv l)).length : Int) then 8 else (((List.map E_uint8.pv l)).length : Int)) - 0).toNat l) (((List.map E_uint8.pv (List.take ((if (8 : Int) < (((List.map E_uint8.pv l)).length : Int) then 8 else (((List.map E_uint8.pv l)).length : Int)) - 0).toNat l))).length : Int) l_ _ _ h5), (wire_Open_runs l_2 _ h6), h7, trivial⟩)
        exact e_
  · have h := some_of h
    subst h
    have e_ := kinfolklaw06_WireRows_p5 l b
    have e_ := runs_of (objs := []) (Says.of e_ ⟨(kinfolklaw06_awake_runs _ h1), (not_of h2), trivial⟩)
    exact e_
/-! ### wire_Of -/
def wire_Of_out (p : List Int) : Unit → Res
  | _ => ([(.one (.ref 0 0))], [[(.pv (.ints .u8 p false)), (.pv (.int .i64 0))]], [])
theorem wire_Of_p0 (p : List Int) : evFn Try.prog cfg (Runs Try.prog) (LRuns Try.prog (lEnv Try.prog cfg 18 0).nt 0) 18 [(.one (.pv (.ints .u8 p false)))] [] []
    [.res ([(.one (.pv (.ints .u8 p false)))], [], [])] =
  some (([(.one (.ref 0 0))], [[(.pv (.ints .u8 p false)), (.pv (.int .i64 0))]], []), [
    Runs Try.prog 37 [(.one (.pv (.ints .u8 p false)))] [] [] ([(.one (.pv (.ints .u8 p false)))], [], [])]) := by kernel_rfl
noncomputable def wire_Of (p : List Int) : Option (Unit) :=
  bif fits (p).length then
  some ()
  else none
theorem wire_Of_runs (p : List Int) (r_ : Unit) (h : wire_Of p = some r_) : Runs Try.prog 18 [(.one (.pv (.ints .u8 p false)))] [] [] (wire_Of_out p r_) := by
  unfold wire_Of at h
  obtain ⟨h1, h⟩ := need_of h
  have h := some_of h
  subst h
  have e_ := wire_Of_p0 p
  have e_ := runs_of (objs := []) (Says.of e_ ⟨(bytes_Clone_runs h1), trivial⟩)
  exact e_
/-! ### wire_In_Err -/
def wire_In_Err_out (l : List Int) (n : Int) : Unit → Res
  | _ => ([(.one (.pv (.int .i64 n)))], [[(.pv (.ints .u8 l false)), (.pv (.int .i64 n))]], [])
theorem wire_In_Err_p0 (l : List Int) (n : Int) : evFn Try.prog cfg (Runs Try.prog) (LRuns Try.prog (lEnv Try.prog cfg 29 1).nt 1) 29 [(.one (.ref 0 0))] [[(.pv (.ints .u8 l false)), (.pv (.int .i64 n))]] []
    [.br false] =
  some (([(.one (.pv (.int .i64 n)))], [[(.pv (.ints .u8 l false)), (.pv (.int .i64 n))]], []), [
    false = false]) := by kernel_rfl
noncomputable def wire_In_Err (l : List Int) (n : Int) : Option (Unit) :=
  some ()
theorem wire_In_Err_runs (l : List Int) (n : Int) (r_ : Unit) (h : wire_In_Err l n = some r_) : Runs Try.prog 29 [(.one (.ref 0 0))] [[(.pv (.ints .u8 l false)), (.pv (.int .i64 n))]] [] (wire_In_Err_out l n r_) := by
  unfold wire_In_Err at h
  have h := some_of h
  subst h
  have e_ := wire_In_Err_p0 l n
  have e_ := runs_of (objs := [[(.pv (.ints .u8 l false)), (.pv (.int .i64 n))]]) (Says.of e_ ⟨rfl, trivial⟩)
  exact e_
/-! ### wire_In_Fail -/
def wire_In_Fail_out (e : Int) (l : List Int) (n : Int) : Int → Res
  | r1 => ([], [[(.pv (.ints .u8 l false)), (.pv (.int .i64 r1))]], [])
theorem wire_In_Fail_p0 (e : Int) (l : List Int) (n : Int) : evFn Try.prog cfg (Runs Try.prog) (LRuns Try.prog (lEnv Try.prog cfg 25 1).nt 1) 25 [(.one (.ref 0 0)), (.one (.pv (.int .i64 e)))] [[(.pv (.ints .u8 l false)), (.pv (.int .i64 n))]] []
    [.br true, .br true] =
  some (([], [[(.pv (.ints .u8 l false)), (.pv (.int .i64 e))]], []), [
    true = true,
    (decide ((n : Int) = 0)) = true]) := by kernel_rfl
theorem wire_In_Fail_p1 (e : Int) (l : List Int) (n : Int) : evFn Try.prog cfg (Runs Try.prog) (LRuns Try.prog (lEnv Try.prog cfg 25 1).nt 1) 25 [(.one (.ref 0 0)), (.one (.pv (.int .i64 e)))] [[(.pv (.ints .u8 l false)), (.pv (.int .i64 n))]] []
    [.br true, .br false] =
  some (([], [[(.pv (.ints .u8 l false)), (.pv (.int .i64 n))]], []), [
    true = true,
    (decide ((n : Int) = 0)) = false]) := by kernel_rfl
noncomputable def wire_In_Fail (e : Int) (l : List Int) (n : Int) : Option (Int) :=
  bif (decide ((n : Int) = 0)) then
    some e
  else
    some n
theorem wire_In_Fail_runs (e : Int) (l : List Int) (n : Int) (r_ : Int) (h : wire_In_Fail e l n = some r_) : Runs Try.prog 25 [(.one (.ref 0 0)), (.one (.pv (.int .i64 e)))] [[(.pv (.ints .u8 l false)), (.pv (.int .i64 n))]] [] (wire_In_Fail_out e l n r_) := by
  unfold wire_In_Fail at h
  rcases cond_of h with ⟨h1, h⟩ | ⟨h1, h⟩
  · have h := some_of h
    subst h
    have e_ := wire_In_Fail_p0 e l n
    have e_ := runs_of (objs := [[(.pv (.ints .u8 l false)), (.pv (.int .i64 n))]]) (Says.of e_ ⟨rfl, h1, trivial⟩)
    exact e_
  · have h := some_of h
    subst h
    have e_ := wire_In_Fail_p1 e l n
    have e_ := runs_of (objs := [[(.pv (.ints .u8 l false)), (.pv (.int .i64 n))]]) (Says.of e_ ⟨rfl, h1, trivial⟩)
    exact e_
/-! ### wire_In_Byte -/
def wire_In_Byte_out (l : List Int) (n : Int) : Int × List Int × Int → Res
  | (r1, r2, r3) => ([(.one (.pv (.int .u8 r1)))], [[(.pv (.ints .u8 r2 false)), (.pv (.int .i64 r3))]], [])
theorem wire_In_Byte_p0 (l : List Int) (n : Int) (n2 : Int) : evFn Try.prog cfg (Runs Try.prog) (LRuns Try.prog (lEnv Try.prog cfg 19 1).nt 1) 19 [(.one (.ref 0 0))] [[(.pv (.ints .u8 l false)), (.pv (.int .i64 n))]] []
    [.res ([(.one (.pv (.int .i64 n)))], [[(.pv (.ints .u8 l false)), (.pv (.int .i64 n))]], []), .br false, .br true, .res ([], [[(.pv (.ints .u8 l false)), (.pv (.int .i64 n2))]], [])] =
  some (([(.one (.pv (.int .u8 0)))], [[(.pv (.ints .u8 l false)), (.pv (.int .i64 n2))]], []), [
    Runs Try.prog 29 [(.one (.ref 0 0))] [[(.pv (.ints .u8 l false)), (.pv (.int .i64 n))]] [] ([(.one (.pv (.int .i64 n)))], [[(.pv (.ints .u8 l false)), (.pv (.int .i64 n))]], []),
    (!(decide ((n : Int) = 0))) = false,
    (decide ((((l).length : Int) : Int) = 0)) = true,
    Runs Try.prog 25 [(.one (.ref 0 0)), (.one (.pv (.int .i64 6)))] [[(.pv (.ints .u8 l false)), (.pv (.int .i64 n))]] [] ([], [[(.pv (.ints .u8 l false)), (.pv (.int .i64 n2))]], [])]) := by kernel_rfl
theorem wire_In_Byte_p1 (l : List Int) (n : Int) : evFn Try.prog cfg (Runs Try.prog) (LRuns Try.prog (lEnv Try.prog cfg 19 1).nt 1) 19 [(.one (.ref 0 0))] [[(.pv (.ints .u8 l false)), (.pv (.int .i64 n))]] []
    [.res ([(.one (.pv (.int .i64 n)))], [[(.pv (.ints .u8 l false)), (.pv (.int .i64 n))]], []), .br false, .br false] =
  some (([(.one (.pv (.int .u8 (l.getD 0 0))))], [[(.pv (.ints .u8 (List.take (((l).length : Int) - 1).toNat (List.drop 1 l)) false)), (.pv (.int .i64 n))]], []), [
    Runs Try.prog 29 [(.one (.ref 0 0))] [[(.pv (.ints .u8 l false)), (.pv (.int .i64 n))]] [] ([(.one (.pv (.int .i64 n)))], [[(.pv (.ints .u8 l false)), (.pv (.int .i64 n))]], []),
    (!(decide ((n : Int) = 0))) = false,
    (decide ((((l).length : Int) : Int) = 0)) = false,
    (decide ((0 : Int) ≤ 0) && decide ((0 : Int) < ((l).length : Int))) = true,
    (decide ((0 : Int) ≤ 1) && decide ((1 : Int) ≤ ((l).length : Int)) && decide ((((l).length : Int) : Int) ≤ ((l).length : Int)) && decide ((((l).length : Int) : Int) = ((l).length : Int))) = true]) := by kernel_rfl
theorem wire_In_Byte_p2 (l : List Int) (n : Int) (n2 : Int) : evFn Try.prog cfg (Runs Try.prog) (LRuns Try.prog (lEnv Try.prog cfg 19 1).nt 1) 19 [(.one (.ref 0 0))] [[(.pv (.ints .u8 l false)), (.pv (.int .i64 n))]] []
    [.res ([(.one (.pv (.int .i64 n)))], [[(.pv (.ints .u8 l false)), (.pv (.int .i64 n))]], []), .br true, .br true, .res ([], [[(.pv (.ints .u8 l false)), (.pv (.int .i64 n2))]], [])] =
  some (([(.one (.pv (.int .u8 0)))], [[(.pv (.ints .u8 l false)), (.pv (.int .i64 n2))]], []), [
    Runs Try.prog 29 [(.one (.ref 0 0))] [[(.pv (.ints .u8 l false)), (.pv (.int .i64 n))]] [] ([(.one (.pv (.int .i64 n)))], [[(.pv (.ints .u8 l false)), (.pv (.int .i64 n))]], []),
    (!(decide ((n : Int) = 0))) = true,
    true = true,
    Runs Try.prog 25 [(.one (.ref 0 0)), (.one (.pv (.int .i64 6)))] [[(.pv (.ints .u8 l false)), (.pv (.int .i64 n))]] [] ([], [[(.pv (.ints .u8 l false)), (.pv (.int .i64 n2))]], [])]) := by kernel_rfl
noncomputable def wire_In_Byte (l : List Int) (n : Int) : Option (Int × List Int × Int) :=
  (wire_In_Err l n).bind fun _ =>
  bif (decide ((n : Int) = 0)) then
    bif (decide ((((l).length : Int) : Int) = 0)) then
      (wire_In_Fail 6 l n).bind fun n2 =>
      some (0, l, n2)
    else
      bif decide ((0 : Int) ≤ 0) && decide ((0 : Int) < ((l).length : Int)) then
      bif decide ((0 : Int) ≤ 1) && decide ((1 : Int) ≤ ((l).length : Int)) && decide ((((l).length : Int) : Int) ≤ ((l).length : Int)) && decide ((((l).length : Int) : Int) = ((l).length : Int)) then
      some ((l.getD 0 0), (List.take (((l).length : Int) - 1).toNat (List.drop 1 l)), n)
      else none
      else none
  else
    (wire_In_Fail 6 l n).bind fun n2 =>
    some (0, l, n2)
theorem wire_In_Byte_runs (l : List Int) (n : Int) (r_ : Int × List Int × Int) (h : wire_In_Byte l n = some r_) : Runs Try.prog 19 [(.one (.ref 0 0))] [[(.pv (.ints .u8 l false)), (.pv (.int .i64 n))]] [] (wire_In_Byte_out l n r_) := by
  unfold wire_In_Byte at h
  obtain ⟨_, h1, h⟩ := bind_of h
  rcases cond_of h with ⟨h2, h⟩ | ⟨h2, h⟩
  · rcases cond_of h with ⟨h3, h⟩ | ⟨h3, h⟩
    · obtain ⟨n2, h4, h⟩ := bind_of h
      have h := some_of h
      subst h
      have e_ := wire_In_Byte_p0 l n n2
      have e_ := runs_of (objs := [[(.pv (.ints .u8 l false)), (.pv (.int .i64 n))]]) (Says.of e_ ⟨(wire_In_Err_runs l n _ h1), (not_of2 h2), h3, (wire_In_Fail_runs 6 l n _ h4), trivial⟩)
      exact e_
    · obtain ⟨h4, h⟩ := need_of h
      obtain ⟨h5, h⟩ := need_of h
      have h := some_of h
      subst h
      have e_ := wire_In_Byte_p1 l n
      have e_ := runs_of (objs := [[(.pv (.ints .u8 l false)), (.pv (.int .i64 n))]]) (Says.of e_ ⟨(wire_In_Err_runs l n _ h1), (not_of2 h2), h3, h4, h5, trivial⟩)
      exact e_
  · obtain ⟨n2, h3, h⟩ := bind_of h
    have h := some_of h
    subst h
    have e_ := wire_In_Byte_p2 l n n2
    have e_ := runs_of (objs := [[(.pv (.ints .u8 l false)), (.pv (.int .i64 n))]]) (Says.of e_ ⟨(wire_In_Err_runs l n _ h1), (not_of h2), rfl, (wire_In_Fail_runs 6 l n _ h3), trivial⟩)
    exact e_
/-! ### kinfolkref06_Byte -/
def kinfolkref06_Byte_out (l : List Int) (n : Int) (n2 : Int) : Int × Int × Int → Res
  | (r1, r2, r3) => ([(.one (.pv (.int .u8 r1)))], [[(.pv (.ints .u8 l false)), (.pv (.int .i64 r2)), (.pv (.int .i64 r3))]], [])
theorem kinfolkref06_Byte_p0 (l : List Int) (n : Int) (n2 : Int) : evFn Try.prog cfg (Runs Try.prog) (LRuns Try.prog (lEnv Try.prog cfg 20 1).nt 1) 20 [(.one (.ref 0 0))] [[(.pv (.ints .u8 l false)), (.pv (.int .i64 n)), (.pv (.int .i64 n2))]] []
    [.br false, .br true] =
  some (([(.one (.pv (.int .u8 0)))], [[(.pv (.ints .u8 l false)), (.pv (.int .i64 n)), (.pv (.int .i64 6))]], []), [
    (!(decide ((n2 : Int) = 0))) = false,
    (⟨[(0, (.av (.one (.ref 0 0)))), (17, (.av (.one (.pv (.bool (decide ((((l).length : Int) : Int) ≤ n)))))))], [(0, [(.pv (.ints .u8 l false)), (.pv (.int .i64 n)), (.pv (.int .i64 n2))])], []⟩ : St) = ⟨[(0, (.av (.one (.ref 0 0)))), (17, (.av (.one (.pv (.bool (decide ((((l).length : Int) : Int) ≤ n)))))))], [(0, [(.pv (.ints .u8 l false)), (.pv (.int .i64 n)), (.pv (.int .i64 n2))])], []⟩,
    (decide ((((l).length : Int) : Int) ≤ n)) = true]) := by kernel_rfl
theorem kinfolkref06_Byte_p1 (l : List Int) (n : Int) (n2 : Int) : evFn Try.prog cfg (Runs Try.prog) (LRuns Try.prog (lEnv Try.prog cfg 20 1).nt 1) 20 [(.one (.ref 0 0))] [[(.pv (.ints .u8 l false)), (.pv (.int .i64 n)), (.pv (.int .i64 n2))]] []
    [.br false, .br false] =
  some (([(.one (.pv (.int .u8 (l.getD ((isub .i64 (iadd .i64 n 1) 1)).toNat 0))))], [[(.pv (.ints .u8 l false)), (.pv (.int .i64 (iadd .i64 n 1))), (.pv (.int .i64 n2))]], []), [
    (!(decide ((n2 : Int) = 0))) = false,
    (⟨[(0, (.av (.one (.ref 0 0)))), (17, (.av (.one (.pv (.bool (decide ((((l).length : Int) : Int) ≤ n)))))))], [(0, [(.pv (.ints .u8 l false)), (.pv (.int .i64 n)), (.pv (.int .i64 n2))])], []⟩ : St) = ⟨[(0, (.av (.one (.ref 0 0)))), (17, (.av (.one (.pv (.bool (decide ((((l).length : Int) : Int) ≤ n)))))))], [(0, [(.pv (.ints .u8 l false)), (.pv (.int .i64 n)), (.pv (.int .i64 n2))])], []⟩,
    (decide ((((l).length : Int) : Int) ≤ n)) = false,
    (decide ((0 : Int) ≤ (isub .i64 (iadd .i64 n 1) 1)) && decide (((isub .i64 (iadd .i64 n 1) 1) : Int) < ((l).length : Int))) = true,
    (decide ((0 : Int) ≤ (isub .i64 (iadd .i64 n 1) 1)) && decide (((isub .i64 (iadd .i64 n 1) 1) : Int) < ((l).length : Int))) = true,
    (⟨[(2, (.av (.one (.pv (.int .u8 (l.getD ((isub .i64 (iadd .i64 n 1) 1)).toNat 0))))))], [(0, [(.pv (.ints .u8 l false)), (.pv (.int .i64 (iadd .i64 n 1))), (.pv (.int .i64 n2))])], []⟩ : St) = ⟨[(2, (.av (.one (.pv (.int .u8 (l.getD ((isub .i64 (iadd .i64 n 1) 1)).toNat 0))))))], [(0, [(.pv (.ints .u8 l false)), (.pv (.int .i64 (iadd .i64 n 1))), (.pv (.int .i64 n2))])], []⟩]) := by kernel_rfl
theorem kinfolkref06_Byte_p2 (l : List Int) (n : Int) (n2 : Int) : evFn Try.prog cfg (Runs Try.prog) (LRuns Try.prog (lEnv Try.prog cfg 20 1).nt 1) 20 [(.one (.ref 0 0))] [[(.pv (.ints .u8 l false)), (.pv (.int .i64 n)), (.pv (.int .i64 n2))]] []
    [.br true] =
  some (([(.one (.pv (.int .u8 0)))], [[(.pv (.ints .u8 l false)), (.pv (.int .i64 n)), (.pv (.int .i64 n2))]], []), [
    (!(decide ((n2 : Int) = 0))) = true]) := by kernel_rfl
noncomputable def kinfolkref06_Byte (l : List Int) (n : Int) (n2 : Int) : Option (Int × Int × Int) :=
  bif (decide ((n2 : Int) = 0)) then
    bif (decide ((((l).length : Int) : Int) ≤ n)) then
      some (0, n, 6)
    else
      bif decide ((0 : Int) ≤ (isub .i64 (iadd .i64 n 1) 1)) && decide (((isub .i64 (iadd .i64 n 1) 1) : Int) < ((l).length : Int)) then
      some ((l.getD ((isub .i64 (iadd .i64 n 1) 1)).toNat 0), (iadd .i64 n 1), n2)
      else none
  else
    some (0, n, n2)
theorem kinfolkref06_Byte_runs (l : List Int) (n : Int) (n2 : Int) (r_ : Int × Int × Int) (h : kinfolkref06_Byte l n n2 = some r_) : Runs Try.prog 20 [(.one (.ref 0 0))] [[(.pv (.ints .u8 l false)), (.pv (.int .i64 n)), (.pv (.int .i64 n2))]] [] (kinfolkref06_Byte_out l n n2 r_) := by
  unfold kinfolkref06_Byte at h
  rcases cond_of h with ⟨h1, h⟩ | ⟨h1, h⟩
  · rcases cond_of h with ⟨h2, h⟩ | ⟨h2, h⟩
    · have h := some_of h
      subst h
      have e_ := kinfolkref06_Byte_p0 l n n2
      have e_ := runs_of (objs := [[(.pv (.ints .u8 l false)), (.pv (.int .i64 n)), (.pv (.int .i64 n2))]]) (Says.of e_ ⟨(not_of2 h1), rfl, h2, trivial⟩)
      exact e_
    · obtain ⟨h3, h⟩ := need_of h
      have h := some_of h
      subst h
      have e_ := kinfolkref06_Byte_p1 l n n2
      have e_ := runs_of (objs := [[(.pv (.ints .u8 l false)), (.pv (.int .i64 n)), (.pv (.int .i64 n2))]]) (Says.of e_ ⟨(not_of2 h1), rfl, h2, h3, h3, rfl, trivial⟩)
      exact e_
  · have h := some_of h
    subst h
    have e_ := kinfolkref06_Byte_p2 l n n2
    have e_ := runs_of (objs := [[(.pv (.ints .u8 l false)), (.pv (.int .i64 n)), (.pv (.int .i64 n2))]]) (Says.of e_ ⟨(not_of h1), trivial⟩)
    exact e_
/-! ### wire_In_Left -/
def wire_In_Left_out (l : List Int) (n : Int) : Int → Res
  | r1 => ([(.one (.pv (.int .i64 r1)))], [[(.pv (.ints .u8 l false)), (.pv (.int .i64 n))]], [])
theorem wire_In_Left_p0 (l : List Int) (n : Int) : evFn Try.prog cfg (Runs Try.prog) (LRuns Try.prog (lEnv Try.prog cfg 30 1).nt 1) 30 [(.one (.ref 0 0))] [[(.pv (.ints .u8 l false)), (.pv (.int .i64 n))]] []
    [.br false] =
  some (([(.one (.pv (.int .i64 ((l).length : Int))))], [[(.pv (.ints .u8 l false)), (.pv (.int .i64 n))]], []), [
    false = false]) := by kernel_rfl
noncomputable def wire_In_Left (l : List Int) (n : Int) : Option (Int) :=
  some ((l).length : Int)
theorem wire_In_Left_runs (l : List Int) (n : Int) (r_ : Int) (h : wire_In_Left l n = some r_) : Runs Try.prog 30 [(.one (.ref 0 0))] [[(.pv (.ints .u8 l false)), (.pv (.int .i64 n))]] [] (wire_In_Left_out l n r_) := by
  unfold wire_In_Left at h
  have h := some_of h
  subst h
  have e_ := wire_In_Left_p0 l n
  have e_ := runs_of (objs := [[(.pv (.ints .u8 l false)), (.pv (.int .i64 n))]]) (Says.of e_ ⟨rfl, trivial⟩)
  exact e_
/-! ### wire_In_Num_L0 -/
def wire_In_Num_L0_st (l : List Int) (n : Int) (l2 : List Int) (n2 : Int) : Int × Int → St
  | (n3, n4) => ⟨[(0, (.av (.one (.ref 0 0)))), (3, (.av (.one (.pv (.int .u64 n3))))), (12, (.av (.one (.pv (.ints .u8 l false))))), (13, (.av (.one (.pv (.int .i64 n))))), (14, (.av (.one (.pv (.int .i64 n4)))))], [(0, [(.pv (.ints .u8 l2 false)), (.pv (.int .i64 n2))])], []⟩
def wire_In_Num_L0_ex (l : List Int) (n : Int) (l2 : List Int) (n2 : Int) : (Unit) ⊕ (Int × List Int) → Ex × St
  | .inl _ => ((.exit 0), ⟨[(0, (.av (.one (.ref 0 0))))], [(0, [(.pv (.ints .u8 l2 false)), (.pv (.int .i64 n2))])], []⟩)
  | .inr (r1, r2) => (.ret, ⟨[(2, (.av (.one (.pv (.int .u64 r1)))))], [(0, [(.pv (.ints .u8 r2 false)), (.pv (.int .i64 n2))])], []⟩)
theorem wire_In_Num_L0_q0_0 (l : List Int) (n : Int) (l2 : List Int) (n2 : Int) (n3 : Int) (n4 : Int) : evRound (lEnv Try.prog cfg 21 1) (loopAt Try.prog 21 0) ⟨[(0, (.av (.one (.ref 0 0)))), (3, (.av (.one (.pv (.int .u64 n3))))), (12, (.av (.one (.pv (.ints .u8 l false))))), (13, (.av (.one (.pv (.int .i64 n))))), (14, (.av (.one (.pv (.int .i64 n4)))))], [(0, [(.pv (.ints .u8 l2 false)), (.pv (.int .i64 n2))])], []⟩
    [.br true, .br true, .br true, .br true] =
  some (((.exit 0), ⟨[(32, (.av (.one (.pv (.bool true))))), (0, (.av (.one (.ref 0 0)))), (3, (.av (.one (.pv (.int .u64 n3))))), (4, (.av (.one (.pv (.int .i64 n4))))), (5, (.av (.one (.pv (.int .u8 (l.getD (n4).toNat 0)))))), (12, (.av (.one (.pv (.ints .u8 l false))))), (13, (.av (.one (.pv (.int .i64 n))))), (14, (.av (.one (.pv (.int .i64 n4))))), (32, (.av (.one (.pv (.bool true)))))], [(0, [(.pv (.ints .u8 l2 false)), (.pv (.int .i64 n2))])], []⟩), [
    (decide ((n4 : Int) < n)) = true,
    (decide ((0 : Int) ≤ n4) && decide ((n4 : Int) < ((l).length : Int))) = true,
    (decide ((n4 : Int) = 9)) = true,
    (decide ((1 : Int) < (l.getD (n4).toNat 0))) = true,
    true = true]) := by kernel_rfl
theorem wire_In_Num_L0_q0_1 (l : List Int) (n : Int) (l2 : List Int) (n2 : Int) (n3 : Int) (n4 : Int) : evRound (lEnv Try.prog cfg 21 1) (loopAt Try.prog 21 0) ⟨[(0, (.av (.one (.ref 0 0)))), (3, (.av (.one (.pv (.int .u64 n3))))), (12, (.av (.one (.pv (.ints .u8 l false))))), (13, (.av (.one (.pv (.int .i64 n))))), (14, (.av (.one (.pv (.int .i64 n4)))))], [(0, [(.pv (.ints .u8 l2 false)), (.pv (.int .i64 n2))])], []⟩
    [.br true, .br true, .br false, .br true, .br true] =
  some (((.exit 0), ⟨[(32, (.av (.one (.pv (.bool true))))), (0, (.av (.one (.ref 0 0)))), (3, (.av (.one (.pv (.int .u64 n3))))), (4, (.av (.one (.pv (.int .i64 n4))))), (5, (.av (.one (.pv (.int .u8 (l.getD (n4).toNat 0)))))), (12, (.av (.one (.pv (.ints .u8 l false))))), (13, (.av (.one (.pv (.int .i64 n))))), (14, (.av (.one (.pv (.int .i64 n4))))), (32, (.av (.one (.pv (.bool (decide ((0 : Int) < n4)))))))], [(0, [(.pv (.ints .u8 l2 false)), (.pv (.int .i64 n2))])], []⟩), [
    (decide ((n4 : Int) < n)) = true,
    (decide ((0 : Int) ≤ n4) && decide ((n4 : Int) < ((l).length : Int))) = true,
    (decide ((n4 : Int) = 9)) = true,
    (decide ((1 : Int) < (l.getD (n4).toNat 0))) = false,
    (decide (((l.getD (n4).toNat 0) : Int) = 0)) = true,
    (decide ((0 : Int) < n4)) = true]) := by kernel_rfl
theorem wire_In_Num_L0_q0_2 (l : List Int) (n : Int) (l2 : List Int) (n2 : Int) (n3 : Int) (n4 : Int) : evRound (lEnv Try.prog cfg 21 1) (loopAt Try.prog 21 0) ⟨[(0, (.av (.one (.ref 0 0)))), (3, (.av (.one (.pv (.int .u64 n3))))), (12, (.av (.one (.pv (.ints .u8 l false))))), (13, (.av (.one (.pv (.int .i64 n))))), (14, (.av (.one (.pv (.int .i64 n4)))))], [(0, [(.pv (.ints .u8 l2 false)), (.pv (.int .i64 n2))])], []⟩
    [.br true, .br true, .br false, .br true, .br false, .br true] =
  some ((.ret, ⟨[(2, (.av (.one (.pv (.int .u64 (ior .u64 n3 (ishl .u64 (IntKind.u64.wrap (iandnot .u8 (l.getD (n4).toNat 0) 128)) (imul .i64 7 n4))))))))], [(0, [(.pv (.ints .u8 (List.take (((l2).length : Int) - (iadd .i64 n4 1)).toNat (List.drop ((iadd .i64 n4 1)).toNat l2)) false)), (.pv (.int .i64 n2))])], []⟩), [
    (decide ((n4 : Int) < n)) = true,
    (decide ((0 : Int) ≤ n4) && decide ((n4 : Int) < ((l).length : Int))) = true,
    (decide ((n4 : Int) = 9)) = true,
    (decide ((1 : Int) < (l.getD (n4).toNat 0))) = false,
    (decide (((l.getD (n4).toNat 0) : Int) = 0)) = true,
    (decide ((0 : Int) < n4)) = false,
    (decide ((0 : Int) ≤ (imul .i64 7 n4))) = true,
    (decide (((l.getD (n4).toNat 0) : Int) < 128)) = true,
    (decide ((0 : Int) ≤ (iadd .i64 n4 1)) && decide (((iadd .i64 n4 1) : Int) ≤ ((l2).length : Int)) && decide ((((l2).length : Int) : Int) ≤ ((l2).length : Int)) && decide ((((l2).length : Int) : Int) = ((l2).length : Int))) = true]) := by kernel_rfl
theorem wire_In_Num_L0_q0_3 (l : List Int) (n : Int) (l2 : List Int) (n2 : Int) (n3 : Int) (n4 : Int) : evRound (lEnv Try.prog cfg 21 1) (loopAt Try.prog 21 0) ⟨[(0, (.av (.one (.ref 0 0)))), (3, (.av (.one (.pv (.int .u64 n3))))), (12, (.av (.one (.pv (.ints .u8 l false))))), (13, (.av (.one (.pv (.int .i64 n))))), (14, (.av (.one (.pv (.int .i64 n4)))))], [(0, [(.pv (.ints .u8 l2 false)), (.pv (.int .i64 n2))])], []⟩
    [.br true, .br true, .br false, .br true, .br false, .br false] =
  some ((.normal, ⟨[(0, (.av (.one (.ref 0 0)))), (3, (.av (.one (.pv (.int .u64 (ior .u64 n3 (ishl .u64 (IntKind.u64.wrap (iandnot .u8 (l.getD (n4).toNat 0) 128)) (imul .i64 7 n4)))))))), (12, (.av (.one (.pv (.ints .u8 l false))))), (13, (.av (.one (.pv (.int .i64 n))))), (14, (.av (.one (.pv (.int .i64 (iadd .i64 n4 1))))))], [(0, [(.pv (.ints .u8 l2 false)), (.pv (.int .i64 n2))])], []⟩), [
    (decide ((n4 : Int) < n)) = true,
    (decide ((0 : Int) ≤ n4) && decide ((n4 : Int) < ((l).length : Int))) = true,
    (decide ((n4 : Int) = 9)) = true,
    (decide ((1 : Int) < (l.getD (n4).toNat 0))) = false,
    (decide (((l.getD (n4).toNat 0) : Int) = 0)) = true,
    (decide ((0 : Int) < n4)) = false,
    (decide ((0 : Int) ≤ (imul .i64 7 n4))) = true,
    (decide (((l.getD (n4).toNat 0) : Int) < 128)) = false]) := by kernel_rfl
theorem wire_In_Num_L0_q0_4 (l : List Int) (n : Int) (l2 : List Int) (n2 : Int) (n3 : Int) (n4 : Int) : evRound (lEnv Try.prog cfg 21 1) (loopAt Try.prog 21 0) ⟨[(0, (.av (.one (.ref 0 0)))), (3, (.av (.one (.pv (.int .u64 n3))))), (12, (.av (.one (.pv (.ints .u8 l false))))), (13, (.av (.one (.pv (.int .i64 n))))), (14, (.av (.one (.pv (.int .i64 n4)))))], [(0, [(.pv (.ints .u8 l2 false)), (.pv (.int .i64 n2))])], []⟩
    [.br true, .br true, .br false, .br false, .br false, .br true] =
  some ((.ret, ⟨[(2, (.av (.one (.pv (.int .u64 (ior .u64 n3 (ishl .u64 (IntKind.u64.wrap (iandnot .u8 (l.getD (n4).toNat 0) 128)) (imul .i64 7 n4))))))))], [(0, [(.pv (.ints .u8 (List.take (((l2).length : Int) - (iadd .i64 n4 1)).toNat (List.drop ((iadd .i64 n4 1)).toNat l2)) false)), (.pv (.int .i64 n2))])], []⟩), [
    (decide ((n4 : Int) < n)) = true,
    (decide ((0 : Int) ≤ n4) && decide ((n4 : Int) < ((l).length : Int))) = true,
    (decide ((n4 : Int) = 9)) = true,
    (decide ((1 : Int) < (l.getD (n4).toNat 0))) = false,
    (decide (((l.getD (n4).toNat 0) : Int) = 0)) = false,
    false = false,
    (decide ((0 : Int) ≤ (imul .i64 7 n4))) = true,
    (decide (((l.getD (n4).toNat 0) : Int) < 128)) = true,
    (decide ((0 : Int) ≤ (iadd .i64 n4 1)) && decide (((iadd .i64 n4 1) : Int) ≤ ((l2).length : Int)) && decide ((((l2).length : Int) : Int) ≤ ((l2).length : Int)) && decide ((((l2).length : Int) : Int) = ((l2).length : Int))) = true]) := by kernel_rfl
theorem wire_In_Num_L0_q0_5 (l : List Int) (n : Int) (l2 : List Int) (n2 : Int) (n3 : Int) (n4 : Int) : evRound (lEnv Try.prog cfg 21 1) (loopAt Try.prog 21 0) ⟨[(0, (.av (.one (.ref 0 0)))), (3, (.av (.one (.pv (.int .u64 n3))))), (12, (.av (.one (.pv (.ints .u8 l false))))), (13, (.av (.one (.pv (.int .i64 n))))), (14, (.av (.one (.pv (.int .i64 n4)))))], [(0, [(.pv (.ints .u8 l2 false)), (.pv (.int .i64 n2))])], []⟩
    [.br true, .br true, .br false, .br false, .br false, .br false] =
  some ((.normal, ⟨[(0, (.av (.one (.ref 0 0)))), (3, (.av (.one (.pv (.int .u64 (ior .u64 n3 (ishl .u64 (IntKind.u64.wrap (iandnot .u8 (l.getD (n4).toNat 0) 128)) (imul .i64 7 n4)))))))), (12, (.av (.one (.pv (.ints .u8 l false))))), (13, (.av (.one (.pv (.int .i64 n))))), (14, (.av (.one (.pv (.int .i64 (iadd .i64 n4 1))))))], [(0, [(.pv (.ints .u8 l2 false)), (.pv (.int .i64 n2))])], []⟩), [
    (decide ((n4 : Int) < n)) = true,
    (decide ((0 : Int) ≤ n4) && decide ((n4 : Int) < ((l).length : Int))) = true,
    (decide ((n4 : Int) = 9)) = true,
    (decide ((1 : Int) < (l.getD (n4).toNat 0))) = false,
    (decide (((l.getD (n4).toNat 0) : Int) = 0)) = false,
    false = false,
    (decide ((0 : Int) ≤ (imul .i64 7 n4))) = true,
    (decide (((l.getD (n4).toNat 0) : Int) < 128)) = false]) := by kernel_rfl
theorem wire_In_Num_L0_q0_6 (l : List Int) (n : Int) (l2 : List Int) (n2 : Int) (n3 : Int) (n4 : Int) : evRound (lEnv Try.prog cfg 21 1) (loopAt Try.prog 21 0) ⟨[(0, (.av (.one (.ref 0 0)))), (3, (.av (.one (.pv (.int .u64 n3))))), (12, (.av (.one (.pv (.ints .u8 l false))))), (13, (.av (.one (.pv (.int .i64 n))))), (14, (.av (.one (.pv (.int .i64 n4)))))], [(0, [(.pv (.ints .u8 l2 false)), (.pv (.int .i64 n2))])], []⟩
    [.br true, .br false, .br false, .br true, .br true] =
  some (((.exit 0), ⟨[(32, (.av (.one (.pv (.bool true))))), (0, (.av (.one (.ref 0 0)))), (3, (.av (.one (.pv (.int .u64 n3))))), (4, (.av (.one (.pv (.int .i64 n4))))), (5, (.av (.one (.pv (.int .u8 (l.getD (n4).toNat 0)))))), (12, (.av (.one (.pv (.ints .u8 l false))))), (13, (.av (.one (.pv (.int .i64 n))))), (14, (.av (.one (.pv (.int .i64 n4))))), (32, (.av (.one (.pv (.bool (decide ((0 : Int) < n4)))))))], [(0, [(.pv (.ints .u8 l2 false)), (.pv (.int .i64 n2))])], []⟩), [
    (decide ((n4 : Int) < n)) = true,
    (decide ((0 : Int) ≤ n4) && decide ((n4 : Int) < ((l).length : Int))) = true,
    (decide ((n4 : Int) = 9)) = false,
    false = false,
    (decide (((l.getD (n4).toNat 0) : Int) = 0)) = true,
    (decide ((0 : Int) < n4)) = true]) := by kernel_rfl
theorem wire_In_Num_L0_q0_7 (l : List Int) (n : Int) (l2 : List Int) (n2 : Int) (n3 : Int) (n4 : Int) : evRound (lEnv Try.prog cfg 21 1) (loopAt Try.prog 21 0) ⟨[(0, (.av (.one (.ref 0 0)))), (3, (.av (.one (.pv (.int .u64 n3))))), (12, (.av (.one (.pv (.ints .u8 l false))))), (13, (.av (.one (.pv (.int .i64 n))))), (14, (.av (.one (.pv (.int .i64 n4)))))], [(0, [(.pv (.ints .u8 l2 false)), (.pv (.int .i64 n2))])], []⟩
    [.br true, .br false, .br false, .br true, .br false, .br true] =
  some ((.ret, ⟨[(2, (.av (.one (.pv (.int .u64 (ior .u64 n3 (ishl .u64 (IntKind.u64.wrap (iandnot .u8 (l.getD (n4).toNat 0) 128)) (imul .i64 7 n4))))))))], [(0, [(.pv (.ints .u8 (List.take (((l2).length : Int) - (iadd .i64 n4 1)).toNat (List.drop ((iadd .i64 n4 1)).toNat l2)) false)), (.pv (.int .i64 n2))])], []⟩), [
    (decide ((n4 : Int) < n)) = true,
    (decide ((0 : Int) ≤ n4) && decide ((n4 : Int) < ((l).length : Int))) = true,
    (decide ((n4 : Int) = 9)) = false,
    false = false,
    (decide (((l.getD (n4).toNat 0) : Int) = 0)) = true,
    (decide ((0 : Int) < n4)) = false,
    (decide ((0 : Int) ≤ (imul .i64 7 n4))) = true,
    (decide (((l.getD (n4).toNat 0) : Int) < 128)) = true,
    (decide ((0 : Int) ≤ (iadd .i64 n4 1)) && decide (((iadd .i64 n4 1) : Int) ≤ ((l2).length : Int)) && decide ((((l2).length : Int) : Int) ≤ ((l2).length : Int)) && decide ((((l2).length : Int) : Int) = ((l2).length : Int))) = true]) := by kernel_rfl
theorem wire_In_Num_L0_q0_8 (l : List Int) (n : Int) (l2 : List Int) (n2 : Int) (n3 : Int) (n4 : Int) : evRound (lEnv Try.prog cfg 21 1) (loopAt Try.prog 21 0) ⟨[(0, (.av (.one (.ref 0 0)))), (3, (.av (.one (.pv (.int .u64 n3))))), (12, (.av (.one (.pv (.ints .u8 l false))))), (13, (.av (.one (.pv (.int .i64 n))))), (14, (.av (.one (.pv (.int .i64 n4)))))], [(0, [(.pv (.ints .u8 l2 false)), (.pv (.int .i64 n2))])], []⟩
    [.br true, .br false, .br false, .br true, .br false, .br false] =
  some ((.normal, ⟨[(0, (.av (.one (.ref 0 0)))), (3, (.av (.one (.pv (.int .u64 (ior .u64 n3 (ishl .u64 (IntKind.u64.wrap (iandnot .u8 (l.getD (n4).toNat 0) 128)) (imul .i64 7 n4)))))))), (12, (.av (.one (.pv (.ints .u8 l false))))), (13, (.av (.one (.pv (.int .i64 n))))), (14, (.av (.one (.pv (.int .i64 (iadd .i64 n4 1))))))], [(0, [(.pv (.ints .u8 l2 false)), (.pv (.int .i64 n2))])], []⟩), [
    (decide ((n4 : Int) < n)) = true,
    (decide ((0 : Int) ≤ n4) && decide ((n4 : Int) < ((l).length : Int))) = true,
    (decide ((n4 : Int) = 9)) = false,
    false = false,
    (decide (((l.getD (n4).toNat 0) : Int) = 0)) = true,
    (decide ((0 : Int) < n4)) = false,
    (decide ((0 : Int) ≤ (imul .i64 7 n4))) = true,
    (decide (((l.getD (n4).toNat 0) : Int) < 128)) = false]) := by kernel_rfl
theorem wire_In_Num_L0_q0_9 (l : List Int) (n : Int) (l2 : List Int) (n2 : Int) (n3 : Int) (n4 : Int) : evRound (lEnv Try.prog cfg 21 1) (loopAt Try.prog 21 0) ⟨[(0, (.av (.one (.ref 0 0)))), (3, (.av (.one (.pv (.int .u64 n3))))), (12, (.av (.one (.pv (.ints .u8 l false))))), (13, (.av (.one (.pv (.int .i64 n))))), (14, (.av (.one (.pv (.int .i64 n4)))))], [(0, [(.pv (.ints .u8 l2 false)), (.pv (.int .i64 n2))])], []⟩
    [.br true, .br false, .br false, .br false, .br false, .br true] =
  some ((.ret, ⟨[(2, (.av (.one (.pv (.int .u64 (ior .u64 n3 (ishl .u64 (IntKind.u64.wrap (iandnot .u8 (l.getD (n4).toNat 0) 128)) (imul .i64 7 n4))))))))], [(0, [(.pv (.ints .u8 (List.take (((l2).length : Int) - (iadd .i64 n4 1)).toNat (List.drop ((iadd .i64 n4 1)).toNat l2)) false)), (.pv (.int .i64 n2))])], []⟩), [
    (decide ((n4 : Int) < n)) = true,
    (decide ((0 : Int) ≤ n4) && decide ((n4 : Int) < ((l).length : Int))) = true,
    (decide ((n4 : Int) = 9)) = false,
    false = false,
    (decide (((l.getD (n4).toNat 0) : Int) = 0)) = false,
    false = false,
    (decide ((0 : Int) ≤ (imul .i64 7 n4))) = true,
    (decide (((l.getD (n4).toNat 0) : Int) < 128)) = true,
    (decide ((0 : Int) ≤ (iadd .i64 n4 1)) && decide (((iadd .i64 n4 1) : Int) ≤ ((l2).length : Int)) && decide ((((l2).length : Int) : Int) ≤ ((l2).length : Int)) && decide ((((l2).length : Int) : Int) = ((l2).length : Int))) = true]) := by kernel_rfl
theorem wire_In_Num_L0_q0_10 (l : List Int) (n : Int) (l2 : List Int) (n2 : Int) (n3 : Int) (n4 : Int) : evRound (lEnv Try.prog cfg 21 1) (loopAt Try.prog 21 0) ⟨[(0, (.av (.one (.ref 0 0)))), (3, (.av (.one (.pv (.int .u64 n3))))), (12, (.av (.one (.pv (.ints .u8 l false))))), (13, (.av (.one (.pv (.int .i64 n))))), (14, (.av (.one (.pv (.int .i64 n4)))))], [(0, [(.pv (.ints .u8 l2 false)), (.pv (.int .i64 n2))])], []⟩
    [.br true, .br false, .br false, .br false, .br false, .br false] =
  some ((.normal, ⟨[(0, (.av (.one (.ref 0 0)))), (3, (.av (.one (.pv (.int .u64 (ior .u64 n3 (ishl .u64 (IntKind.u64.wrap (iandnot .u8 (l.getD (n4).toNat 0) 128)) (imul .i64 7 n4)))))))), (12, (.av (.one (.pv (.ints .u8 l false))))), (13, (.av (.one (.pv (.int .i64 n))))), (14, (.av (.one (.pv (.int .i64 (iadd .i64 n4 1))))))], [(0, [(.pv (.ints .u8 l2 false)), (.pv (.int .i64 n2))])], []⟩), [
    (decide ((n4 : Int) < n)) = true,
    (decide ((0 : Int) ≤ n4) && decide ((n4 : Int) < ((l).length : Int))) = true,
    (decide ((n4 : Int) = 9)) = false,
    false = false,
    (decide (((l.getD (n4).toNat 0) : Int) = 0)) = false,
    false = false,
    (decide ((0 : Int) ≤ (imul .i64 7 n4))) = true,
    (decide (((l.getD (n4).toNat 0) : Int) < 128)) = false]) := by kernel_rfl
theorem wire_In_Num_L0_q0_11 (l : List Int) (n : Int) (l2 : List Int) (n2 : Int) (n3 : Int) (n4 : Int) : evRound (lEnv Try.prog cfg 21 1) (loopAt Try.prog 21 0) ⟨[(0, (.av (.one (.ref 0 0)))), (3, (.av (.one (.pv (.int .u64 n3))))), (12, (.av (.one (.pv (.ints .u8 l false))))), (13, (.av (.one (.pv (.int .i64 n))))), (14, (.av (.one (.pv (.int .i64 n4)))))], [(0, [(.pv (.ints .u8 l2 false)), (.pv (.int .i64 n2))])], []⟩
    [.br false] =
  some (((.exit 0), ⟨[(15, (.av (.one (.pv (.bool false))))), (0, (.av (.one (.ref 0 0)))), (3, (.av (.one (.pv (.int .u64 n3))))), (12, (.av (.one (.pv (.ints .u8 l false))))), (13, (.av (.one (.pv (.int .i64 n))))), (14, (.av (.one (.pv (.int .i64 n4))))), (15, (.av (.one (.pv (.bool (decide ((n4 : Int) < n)))))))], [(0, [(.pv (.ints .u8 l2 false)), (.pv (.int .i64 n2))])], []⟩), [
    (decide ((n4 : Int) < n)) = false]) := by kernel_rfl
noncomputable def wire_In_Num_L0_step (l : List Int) (n : Int) (l2 : List Int) (n2 : Int) : Int × Int → Option ((Int × Int) ⊕ ((Unit) ⊕ (Int × List Int)))
  | (n3, n4) =>
  bif (decide ((n4 : Int) < n)) then
    bif decide ((0 : Int) ≤ n4) && decide ((n4 : Int) < ((l).length : Int)) then
    bif (decide ((n4 : Int) = 9)) then
      bif (decide ((1 : Int) < (l.getD (n4).toNat 0))) then
        some (.inr (.inl ()))
      else
        bif (decide (((l.getD (n4).toNat 0) : Int) = 0)) then
          bif (decide ((0 : Int) < n4)) then
            some (.inr (.inl ()))
          else
            bif decide ((0 : Int) ≤ (imul .i64 7 n4)) then
            bif (decide (((l.getD (n4).toNat 0) : Int) < 128)) then
              bif decide ((0 : Int) ≤ (iadd .i64 n4 1)) && decide (((iadd .i64 n4 1) : Int) ≤ ((l2).length : Int)) && decide ((((l2).length : Int) : Int) ≤ ((l2).length : Int)) && decide ((((l2).length : Int) : Int) = ((l2).length : Int)) then
              some (.inr (.inr ((ior .u64 n3 (ishl .u64 (IntKind.u64.wrap (iandnot .u8 (l.getD (n4).toNat 0) 128)) (imul .i64 7 n4))), (List.take (((l2).length : Int) - (iadd .i64 n4 1)).toNat (List.drop ((iadd .i64 n4 1)).toNat l2)))))
              else none
            else
              some (.inl ((ior .u64 n3 (ishl .u64 (IntKind.u64.wrap (iandnot .u8 (l.getD (n4).toNat 0) 128)) (imul .i64 7 n4))), (iadd .i64 n4 1)))
            else none
        else
          bif decide ((0 : Int) ≤ (imul .i64 7 n4)) then
          bif (decide (((l.getD (n4).toNat 0) : Int) < 128)) then
            bif decide ((0 : Int) ≤ (iadd .i64 n4 1)) && decide (((iadd .i64 n4 1) : Int) ≤ ((l2).length : Int)) && decide ((((l2).length : Int) : Int) ≤ ((l2).length : Int)) && decide ((((l2).length : Int) : Int) = ((l2).length : Int)) then
            some (.inr (.inr ((ior .u64 n3 (ishl .u64 (IntKind.u64.wrap (iandnot .u8 (l.getD (n4).toNat 0) 128)) (imul .i64 7 n4))), (List.take (((l2).length : Int) - (iadd .i64 n4 1)).toNat (List.drop ((iadd .i64 n4 1)).toNat l2)))))
            else none
          else
            some (.inl ((ior .u64 n3 (ishl .u64 (IntKind.u64.wrap (iandnot .u8 (l.getD (n4).toNat 0) 128)) (imul .i64 7 n4))), (iadd .i64 n4 1)))
          else none
    else
      bif (decide (((l.getD (n4).toNat 0) : Int) = 0)) then
        bif (decide ((0 : Int) < n4)) then
          some (.inr (.inl ()))
        else
          bif decide ((0 : Int) ≤ (imul .i64 7 n4)) then
          bif (decide (((l.getD (n4).toNat 0) : Int) < 128)) then
            bif decide ((0 : Int) ≤ (iadd .i64 n4 1)) && decide (((iadd .i64 n4 1) : Int) ≤ ((l2).length : Int)) && decide ((((l2).length : Int) : Int) ≤ ((l2).length : Int)) && decide ((((l2).length : Int) : Int) = ((l2).length : Int)) then
            some (.inr (.inr ((ior .u64 n3 (ishl .u64 (IntKind.u64.wrap (iandnot .u8 (l.getD (n4).toNat 0) 128)) (imul .i64 7 n4))), (List.take (((l2).length : Int) - (iadd .i64 n4 1)).toNat (List.drop ((iadd .i64 n4 1)).toNat l2)))))
            else none
          else
            some (.inl ((ior .u64 n3 (ishl .u64 (IntKind.u64.wrap (iandnot .u8 (l.getD (n4).toNat 0) 128)) (imul .i64 7 n4))), (iadd .i64 n4 1)))
          else none
      else
        bif decide ((0 : Int) ≤ (imul .i64 7 n4)) then
        bif (decide (((l.getD (n4).toNat 0) : Int) < 128)) then
          bif decide ((0 : Int) ≤ (iadd .i64 n4 1)) && decide (((iadd .i64 n4 1) : Int) ≤ ((l2).length : Int)) && decide ((((l2).length : Int) : Int) ≤ ((l2).length : Int)) && decide ((((l2).length : Int) : Int) = ((l2).length : Int)) then
          some (.inr (.inr ((ior .u64 n3 (ishl .u64 (IntKind.u64.wrap (iandnot .u8 (l.getD (n4).toNat 0) 128)) (imul .i64 7 n4))), (List.take (((l2).length : Int) - (iadd .i64 n4 1)).toNat (List.drop ((iadd .i64 n4 1)).toNat l2)))))
          else none
        else
          some (.inl ((ior .u64 n3 (ishl .u64 (IntKind.u64.wrap (iandnot .u8 (l.getD (n4).toNat 0) 128)) (imul .i64 7 n4))), (iadd .i64 n4 1)))
        else none
    else none
  else
    some (.inr (.inl ()))
theorem wire_In_Num_L0_ok (l : List Int) (n : Int) (l2 : List Int) (n2 : Int) (s_ : Int × Int) (z_ : (Int × Int) ⊕ ((Unit) ⊕ (Int × List Int))) (h : wire_In_Num_L0_step l n l2 n2 s_ = some z_) : RoundOk Try.prog cfg 21 1 (loopAt Try.prog 21 0) (wire_In_Num_L0_st l n l2 n2) (wire_In_Num_L0_ex l n l2 n2) s_ z_ := by
  rcases s_ with ⟨n3, n4⟩
  rcases cond_of h with ⟨h1, h⟩ | ⟨h1, h⟩
  · obtain ⟨h2, h⟩ := need_of h
    rcases cond_of h with ⟨h3, h⟩ | ⟨h3, h⟩
    · rcases cond_of h with ⟨h4, h⟩ | ⟨h4, h⟩
      · have h := some_of h
        subst h
        have e_ := wire_In_Num_L0_q0_0 l n l2 n2 n3 n4
        have e_ := Says.of e_ ⟨h1, h2, h3, h4, rfl, trivial⟩
        exact ⟨_, _, e_, ⟨⟨⟨_, rfl, .eq rfl⟩, trivial⟩, ⟨⟨rfl, ⟨.eq rfl, .eq rfl, trivial⟩⟩, trivial⟩, trivial⟩⟩
      · rcases cond_of h with ⟨h5, h⟩ | ⟨h5, h⟩
        · rcases cond_of h with ⟨h6, h⟩ | ⟨h6, h⟩
          · have h := some_of h
            subst h
            have e_ := wire_In_Num_L0_q0_1 l n l2 n2 n3 n4
            have e_ := Says.of e_ ⟨h1, h2, h3, h4, h5, h6, trivial⟩
            exact ⟨_, _, e_, ⟨⟨⟨_, rfl, .eq rfl⟩, trivial⟩, ⟨⟨rfl, ⟨.eq rfl, .eq rfl, trivial⟩⟩, trivial⟩, trivial⟩⟩
          · obtain ⟨h7, h⟩ := need_of h
            rcases cond_of h with ⟨h8, h⟩ | ⟨h8, h⟩
            · obtain ⟨h9, h⟩ := need_of h
              have h := some_of h
              subst h
              have e_ := wire_In_Num_L0_q0_2 l n l2 n2 n3 n4
              have e_ := Says.of e_ ⟨h1, h2, h3, h4, h5, h6, h7, h8, h9, trivial⟩
              exact ⟨_, _, e_, ⟨⟨⟨_, rfl, .eq rfl⟩, trivial⟩, ⟨⟨rfl, ⟨.eq rfl, .eq rfl, trivial⟩⟩, trivial⟩, trivial⟩⟩
            · have h := some_of h
              subst h
              have e_ := wire_In_Num_L0_q0_3 l n l2 n2 n3 n4
              have e_ := Says.of e_ ⟨h1, h2, h3, h4, h5, h6, h7, h8, trivial⟩
              exact ⟨_, _, e_, ⟨⟨⟨_, rfl, .eq rfl⟩, ⟨_, rfl, .eq rfl⟩, ⟨_, rfl, .eq rfl⟩, ⟨_, rfl, .eq rfl⟩, ⟨_, rfl, .eq rfl⟩, trivial⟩, ⟨⟨rfl, ⟨.eq rfl, .eq rfl, trivial⟩⟩, trivial⟩, trivial⟩⟩
        · obtain ⟨h6, h⟩ := need_of h
          rcases cond_of h with ⟨h7, h⟩ | ⟨h7, h⟩
          · obtain ⟨h8, h⟩ := need_of h
            have h := some_of h
            subst h
            have e_ := wire_In_Num_L0_q0_4 l n l2 n2 n3 n4
            have e_ := Says.of e_ ⟨h1, h2, h3, h4, h5, rfl, h6, h7, h8, trivial⟩
            exact ⟨_, _, e_, ⟨⟨⟨_, rfl, .eq rfl⟩, trivial⟩, ⟨⟨rfl, ⟨.eq rfl, .eq rfl, trivial⟩⟩, trivial⟩, trivial⟩⟩
          · have h := some_of h
            subst h
            have e_ := wire_In_Num_L0_q0_5 l n l2 n2 n3 n4
            have e_ := Says.of e_ ⟨h1, h2, h3, h4, h5, rfl, h6, h7, trivial⟩
            exact ⟨_, _, e_, ⟨⟨⟨_, rfl, .eq rfl⟩, ⟨_, rfl, .eq rfl⟩, ⟨_, rfl, .eq rfl⟩, ⟨_, rfl, .eq rfl⟩, ⟨_, rfl, .eq rfl⟩, trivial⟩, ⟨⟨rfl, ⟨.eq rfl, .eq rfl, trivial⟩⟩, trivial⟩, trivial⟩⟩
    · rcases cond_of h with ⟨h4, h⟩ | ⟨h4, h⟩
      · rcases cond_of h with ⟨h5, h⟩ | ⟨h5, h⟩
        · have h := some_of h
          subst h
          have e_ := wire_In_Num_L0_q0_6 l n l2 n2 n3 n4
          have e_ := Says.of e_ ⟨h1, h2, h3, rfl, h4, h5, trivial⟩
          exact ⟨_, _, e_, ⟨⟨⟨_, rfl, .eq rfl⟩, trivial⟩, ⟨⟨rfl, ⟨.eq rfl, .eq rfl, trivial⟩⟩, trivial⟩, trivial⟩⟩
        · obtain ⟨h6, h⟩ := need_of h
          rcases cond_of h with ⟨h7, h⟩ | ⟨h7, h⟩
          · obtain ⟨h8, h⟩ := need_of h
            have h := some_of h
            subst h
            have e_ := wire_In_Num_L0_q0_7 l n l2 n2 n3 n4
            have e_ := Says.of e_ ⟨h1, h2, h3, rfl, h4, h5, h6, h7, h8, trivial⟩
            exact ⟨_, _, e_, ⟨⟨⟨_, rfl, .eq rfl⟩, trivial⟩, ⟨⟨rfl, ⟨.eq rfl, .eq rfl, trivial⟩⟩, trivial⟩, trivial⟩⟩
          · have h := some_of h
            subst h
            have e_ := wire_In_Num_L0_q0_8 l n l2 n2 n3 n4
            have e_ := Says.of e_ ⟨h1, h2, h3, rfl, h4, h5, h6, h7, trivial⟩
            exact ⟨_, _, e_, ⟨⟨⟨_, rfl, .eq rfl⟩, ⟨_, rfl, .eq rfl⟩, ⟨_, rfl, .eq rfl⟩, ⟨_, rfl, .eq rfl⟩, ⟨_, rfl, .eq rfl⟩, trivial⟩, ⟨⟨rfl, ⟨.eq rfl, .eq rfl, trivial⟩⟩, trivial⟩, trivial⟩⟩
      · obtain ⟨h5, h⟩ := need_of h
        rcases cond_of h with ⟨h6, h⟩ | ⟨h6, h⟩
        · obtain ⟨h7, h⟩ := need_of h
          have h := some_of h
          subst h
          have e_ := wire_In_Num_L0_q0_9 l n l2 n2 n3 n4
          have e_ := Says.of e_ ⟨h1, h2, h3, rfl, h4, rfl, h5, h6, h7, trivial⟩
          exact ⟨_, _, e_, ⟨⟨⟨_, rfl, .eq rfl⟩, trivial⟩, ⟨⟨rfl, ⟨.eq rfl, .eq rfl, trivial⟩⟩, trivial⟩, trivial⟩⟩
        · have h := some_of h
          subst h
          have e_ := wire_In_Num_L0_q0_10 l n l2 n2 n3 n4
          have e_ := Says.of e_ ⟨h1, h2, h3, rfl, h4, rfl, h5, h6, trivial⟩
          exact ⟨_, _, e_, ⟨⟨⟨_, rfl, .eq rfl⟩, ⟨_, rfl, .eq rfl⟩, ⟨_, rfl, .eq rfl⟩, ⟨_, rfl, .eq rfl⟩, ⟨_, rfl, .eq rfl⟩, trivial⟩, ⟨⟨rfl, ⟨.eq rfl, .eq rfl, trivial⟩⟩, trivial⟩, trivial⟩⟩
  · have h := some_of h
    subst h
    have e_ := wire_In_Num_L0_q0_11 l n l2 n2 n3 n4
    have e_ := Says.of e_ ⟨h1, trivial⟩
    exact ⟨_, _, e_, ⟨⟨⟨_, rfl, .eq rfl⟩, trivial⟩, ⟨⟨rfl, ⟨.eq rfl, .eq rfl, trivial⟩⟩, trivial⟩, trivial⟩⟩
theorem wire_In_Num_L0_runs (l : List Int) (n : Int) (l2 : List Int) (n2 : Int) (s_ : Int × Int) (r_ : (Unit) ⊕ (Int × List Int)) (h : runL (wire_In_Num_L0_step l n l2 n2) s_ = some r_) : LRuns Try.prog (lEnv Try.prog cfg 21 1).nt 1 (.loop (loopAt Try.prog 21 0)) (wire_In_Num_L0_st l n l2 n2 s_) (wire_In_Num_L0_ex l n l2 n2 r_).1 (wire_In_Num_L0_ex l n l2 n2 r_).2 :=
  loop_run h (wire_In_Num_L0_ok l n l2 n2) (by intro r_; rcases r_ with _ | ⟨r1, r2⟩ <;> simp [wire_In_Num_L0_ex])
/-! ### wire_In_Num -/
def wire_In_Num_out (l : List Int) (n : Int) : Int × List Int × Int → Res
  | (r1, r2, r3) => ([(.one (.pv (.int .u64 r1)))], [[(.pv (.ints .u8 r2 false)), (.pv (.int .i64 r3))]], [])
theorem wire_In_Num_p0 (l : List Int) (n : Int) (n2 : Int) : evFn Try.prog cfg (Runs Try.prog) (LRuns Try.prog (lEnv Try.prog cfg 21 1).nt 1) 21 [(.one (.ref 0 0))] [[(.pv (.ints .u8 l false)), (.pv (.int .i64 n))]] []
    [.res ([(.one (.pv (.int .i64 n)))], [[(.pv (.ints .u8 l false)), (.pv (.int .i64 n))]], []), .br false, .lp (.exit 0) ⟨[(0, (.av (.one (.ref 0 0))))], [(0, [(.pv (.ints .u8 l false)), (.pv (.int .i64 n))])], []⟩, .res ([], [[(.pv (.ints .u8 l false)), (.pv (.int .i64 n2))]], [])] =
  some (([(.one (.pv (.int .u64 0)))], [[(.pv (.ints .u8 l false)), (.pv (.int .i64 n2))]], []), [
    Runs Try.prog 29 [(.one (.ref 0 0))] [[(.pv (.ints .u8 l false)), (.pv (.int .i64 n))]] [] ([(.one (.pv (.int .i64 n)))], [[(.pv (.ints .u8 l false)), (.pv (.int .i64 n))]], []),
    (!(decide ((n : Int) = 0))) = false,
    LRuns Try.prog (lEnv Try.prog cfg 21 1).nt 1 (.loop (loopAt Try.prog 21 0)) ⟨[(0, (.av (.one (.ref 0 0)))), (3, (.av (.one (.pv (.int .u64 0))))), (12, (.av (.one (.pv (.ints .u8 l false))))), (13, (.av (.one (.pv (.int .i64 ((l).length : Int)))))), (14, (.av (.one (.pv (.int .i64 0)))))], [(0, [(.pv (.ints .u8 l false)), (.pv (.int .i64 n))])], []⟩ (.exit 0) ⟨[(0, (.av (.one (.ref 0 0))))], [(0, [(.pv (.ints .u8 l false)), (.pv (.int .i64 n))])], []⟩,
    Runs Try.prog 25 [(.one (.ref 0 0)), (.one (.pv (.int .i64 6)))] [[(.pv (.ints .u8 l false)), (.pv (.int .i64 n))]] [] ([], [[(.pv (.ints .u8 l false)), (.pv (.int .i64 n2))]], [])]) := by kernel_rfl
theorem wire_In_Num_p1 (l : List Int) (n : Int) (n2 : Int) (l_ : List Int) : evFn Try.prog cfg (Runs Try.prog) (LRuns Try.prog (lEnv Try.prog cfg 21 1).nt 1) 21 [(.one (.ref 0 0))] [[(.pv (.ints .u8 l false)), (.pv (.int .i64 n))]] []
    [.res ([(.one (.pv (.int .i64 n)))], [[(.pv (.ints .u8 l false)), (.pv (.int .i64 n))]], []), .br false, .lp .ret ⟨[(2, (.av (.one (.pv (.int .u64 n2)))))], [(0, [(.pv (.ints .u8 l_ false)), (.pv (.int .i64 n))])], []⟩] =
  some (([(.one (.pv (.int .u64 n2)))], [[(.pv (.ints .u8 l_ false)), (.pv (.int .i64 n))]], []), [
    Runs Try.prog 29 [(.one (.ref 0 0))] [[(.pv (.ints .u8 l false)), (.pv (.int .i64 n))]] [] ([(.one (.pv (.int .i64 n)))], [[(.pv (.ints .u8 l false)), (.pv (.int .i64 n))]], []),
    (!(decide ((n : Int) = 0))) = false,
    LRuns Try.prog (lEnv Try.prog cfg 21 1).nt 1 (.loop (loopAt Try.prog 21 0)) ⟨[(0, (.av (.one (.ref 0 0)))), (3, (.av (.one (.pv (.int .u64 0))))), (12, (.av (.one (.pv (.ints .u8 l false))))), (13, (.av (.one (.pv (.int .i64 ((l).length : Int)))))), (14, (.av (.one (.pv (.int .i64 0)))))], [(0, [(.pv (.ints .u8 l false)), (.pv (.int .i64 n))])], []⟩ .ret ⟨[(2, (.av (.one (.pv (.int .u64 n2)))))], [(0, [(.pv (.ints .u8 l_ false)), (.pv (.int .i64 n))])], []⟩]) := by kernel_rfl
theorem wire_In_Num_p2 (l : List Int) (n : Int) : evFn Try.prog cfg (Runs Try.prog) (LRuns Try.prog (lEnv Try.prog cfg 21 1).nt 1) 21 [(.one (.ref 0 0))] [[(.pv (.ints .u8 l false)), (.pv (.int .i64 n))]] []
    [.res ([(.one (.pv (.int .i64 n)))], [[(.pv (.ints .u8 l false)), (.pv (.int .i64 n))]], []), .br true] =
  some (([(.one (.pv (.int .u64 0)))], [[(.pv (.ints .u8 l false)), (.pv (.int .i64 n))]], []), [
    Runs Try.prog 29 [(.one (.ref 0 0))] [[(.pv (.ints .u8 l false)), (.pv (.int .i64 n))]] [] ([(.one (.pv (.int .i64 n)))], [[(.pv (.ints .u8 l false)), (.pv (.int .i64 n))]], []),
    (!(decide ((n : Int) = 0))) = true]) := by kernel_rfl
noncomputable def wire_In_Num (l : List Int) (n : Int) : Option (Int × List Int × Int) :=
  (wire_In_Err l n).bind fun _ =>
  bif (decide ((n : Int) = 0)) then
    (runL (wire_In_Num_L0_step l ((l).length : Int) l n) (0, 0)).bind fun z_ => match z_ with
    | .inl _ =>
      (wire_In_Fail 6 l n).bind fun n2 =>
      some (0, l, n2)
    | .inr (n2, l_) =>
      some (n2, l_, n)
  else
    some (0, l, n)
theorem wire_In_Num_runs (l : List Int) (n : Int) (r_ : Int × List Int × Int) (h : wire_In_Num l n = some r_) : Runs Try.prog 21 [(.one (.ref 0 0))] [[(.pv (.ints .u8 l false)), (.pv (.int .i64 n))]] [] (wire_In_Num_out l n r_) := by
  unfold wire_In_Num at h
  obtain ⟨_, h1, h⟩ := bind_of h
  rcases cond_of h with ⟨h2, h⟩ | ⟨h2, h⟩
  · obtain ⟨z_, h3, h⟩ := bind_of h
    rcases z_ with _ | ⟨n2, l_⟩
    · obtain ⟨n2, h4, h⟩ := bind_of h
      have h := some_of h
      subst h
      have e_ := wire_In_Num_p0 l n n2
      have e_ := runs_of (objs := [[(.pv (.ints .u8 l false)), (.pv (.int .i64 n))]]) (Says.of e_ ⟨(wire_In_Err_runs l n _ h1), (not_of2 h2), (wire_In_Num_L0_runs l ((l).length : Int) l n _ _ h3), (wire_In_Fail_runs 6 l n _ h4), trivial⟩)
      exact e_
    · have h := some_of h
      subst h
      have e_ := wire_In_Num_p1 l n n2 l_
      have e_ := runs_of (objs := [[(.pv (.ints .u8 l false)), (.pv (.int .i64 n))]]) (Says.of e_ ⟨(wire_In_Err_runs l n _ h1), (not_of2 h2), (wire_In_Num_L0_runs l ((l).length : Int) l n _ _ h3), trivial⟩)
      exact e_
  · have h := some_of h
    subst h
    have e_ := wire_In_Num_p2 l n
    have e_ := runs_of (objs := [[(.pv (.ints .u8 l false)), (.pv (.int .i64 n))]]) (Says.of e_ ⟨(wire_In_Err_runs l n _ h1), (not_of h2), trivial⟩)
    exact e_
/-! ### kinfolkref06_number_L0 -/
def kinfolkref06_number_L0_st (p : List Int) (at_ : Int) : Int → St
  | k => ⟨[(0, (.av (.one (.pv (.ints .u8 p false))))), (1, (.av (.one (.pv (.int .i64 at_))))), (6, (.av (.one (.pv (.int .i64 k)))))], [], []⟩
def kinfolkref06_number_L0_ex (p : List Int) (at_ : Int) : Int → Ex × St
  | r1 => ((.exit 0), ⟨[(0, (.av (.one (.pv (.ints .u8 p false))))), (1, (.av (.one (.pv (.int .i64 at_))))), (6, (.av (.one (.pv (.int .i64 r1)))))], [], []⟩)
theorem kinfolkref06_number_L0_q0_0 (p : List Int) (at_ : Int) (k : Int) : evRound (lEnv Try.prog cfg 41 0) (loopAt Try.prog 41 0) ⟨[(0, (.av (.one (.pv (.ints .u8 p false))))), (1, (.av (.one (.pv (.int .i64 at_))))), (6, (.av (.one (.pv (.int .i64 k)))))], [], []⟩
    [.br true, .br true, .br true] =
  some ((.normal, ⟨[(0, (.av (.one (.pv (.ints .u8 p false))))), (1, (.av (.one (.pv (.int .i64 at_))))), (6, (.av (.one (.pv (.int .i64 (iadd .i64 k 1))))))], [], []⟩), [
    (decide ((k : Int) < ((p).length : Int))) = true,
    (decide ((k : Int) < (iadd .i64 at_ 9))) = true,
    (decide ((0 : Int) ≤ k) && decide ((k : Int) < ((p).length : Int))) = true,
    (decide ((127 : Int) < (p.getD (k).toNat 0))) = true]) := by kernel_rfl
theorem kinfolkref06_number_L0_q0_1 (p : List Int) (at_ : Int) (k : Int) : evRound (lEnv Try.prog cfg 41 0) (loopAt Try.prog 41 0) ⟨[(0, (.av (.one (.pv (.ints .u8 p false))))), (1, (.av (.one (.pv (.int .i64 at_))))), (6, (.av (.one (.pv (.int .i64 k)))))], [], []⟩
    [.br true, .br true, .br false] =
  some (((.exit 0), ⟨[(26, (.av (.one (.pv (.bool false))))), (0, (.av (.one (.pv (.ints .u8 p false))))), (1, (.av (.one (.pv (.int .i64 at_))))), (6, (.av (.one (.pv (.int .i64 k))))), (26, (.av (.one (.pv (.bool (decide ((127 : Int) < (p.getD (k).toNat 0))))))))], [], []⟩), [
    (decide ((k : Int) < ((p).length : Int))) = true,
    (decide ((k : Int) < (iadd .i64 at_ 9))) = true,
    (decide ((0 : Int) ≤ k) && decide ((k : Int) < ((p).length : Int))) = true,
    (decide ((127 : Int) < (p.getD (k).toNat 0))) = false]) := by kernel_rfl
theorem kinfolkref06_number_L0_q0_2 (p : List Int) (at_ : Int) (k : Int) : evRound (lEnv Try.prog cfg 41 0) (loopAt Try.prog 41 0) ⟨[(0, (.av (.one (.pv (.ints .u8 p false))))), (1, (.av (.one (.pv (.int .i64 at_))))), (6, (.av (.one (.pv (.int .i64 k)))))], [], []⟩
    [.br true, .br false, .br false] =
  some (((.exit 0), ⟨[(26, (.av (.one (.pv (.bool false))))), (0, (.av (.one (.pv (.ints .u8 p false))))), (1, (.av (.one (.pv (.int .i64 at_))))), (6, (.av (.one (.pv (.int .i64 k))))), (26, (.av (.one (.pv (.bool false)))))], [], []⟩), [
    (decide ((k : Int) < ((p).length : Int))) = true,
    (decide ((k : Int) < (iadd .i64 at_ 9))) = false,
    false = false]) := by kernel_rfl
theorem kinfolkref06_number_L0_q0_3 (p : List Int) (at_ : Int) (k : Int) : evRound (lEnv Try.prog cfg 41 0) (loopAt Try.prog 41 0) ⟨[(0, (.av (.one (.pv (.ints .u8 p false))))), (1, (.av (.one (.pv (.int .i64 at_))))), (6, (.av (.one (.pv (.int .i64 k)))))], [], []⟩
    [.br false, .br false, .br false] =
  some (((.exit 0), ⟨[(26, (.av (.one (.pv (.bool false))))), (0, (.av (.one (.pv (.ints .u8 p false))))), (1, (.av (.one (.pv (.int .i64 at_))))), (6, (.av (.one (.pv (.int .i64 k))))), (26, (.av (.one (.pv (.bool false)))))], [], []⟩), [
    (decide ((k : Int) < ((p).length : Int))) = false,
    false = false,
    false = false]) := by kernel_rfl
noncomputable def kinfolkref06_number_L0_step (p : List Int) (at_ : Int) : Int → Option ((Int) ⊕ (Int))
  | k =>
  bif (decide ((k : Int) < ((p).length : Int))) then
    bif (decide ((k : Int) < (iadd .i64 at_ 9))) then
      bif decide ((0 : Int) ≤ k) && decide ((k : Int) < ((p).length : Int)) then
      bif (decide ((127 : Int) < (p.getD (k).toNat 0))) then
        some (.inl (iadd .i64 k 1))
      else
        some (.inr k)
      else none
    else
      some (.inr k)
  else
    some (.inr k)
theorem kinfolkref06_number_L0_ok (p : List Int) (at_ : Int) (k : Int) (z_ : (Int) ⊕ (Int)) (h : kinfolkref06_number_L0_step p at_ k = some z_) : RoundOk Try.prog cfg 41 0 (loopAt Try.prog 41 0) (kinfolkref06_number_L0_st p at_) (kinfolkref06_number_L0_ex p at_) k z_ := by
  rcases cond_of h with ⟨h1, h⟩ | ⟨h1, h⟩
  · rcases cond_of h with ⟨h2, h⟩ | ⟨h2, h⟩
    · obtain ⟨h3, h⟩ := need_of h
      rcases cond_of h with ⟨h4, h⟩ | ⟨h4, h⟩
      · have h := some_of h
        subst h
        have e_ := kinfolkref06_number_L0_q0_0 p at_ k
        have e_ := Says.of e_ ⟨h1, h2, h3, h4, trivial⟩
        exact ⟨_, _, e_, ⟨⟨⟨_, rfl, .eq rfl⟩, ⟨_, rfl, .eq rfl⟩, ⟨_, rfl, .eq rfl⟩, trivial⟩, trivial, trivial⟩⟩
      · have h := some_of h
        subst h
        have e_ := kinfolkref06_number_L0_q0_1 p at_ k
        have e_ := Says.of e_ ⟨h1, h2, h3, h4, trivial⟩
        exact ⟨_, _, e_, ⟨⟨⟨_, rfl, .eq rfl⟩, ⟨_, rfl, .eq rfl⟩, ⟨_, rfl, .eq rfl⟩, trivial⟩, trivial, trivial⟩⟩
    · have h := some_of h
      subst h
      have e_ := kinfolkref06_number_L0_q0_2 p at_ k
      have e_ := Says.of e_ ⟨h1, h2, rfl, trivial⟩
      exact ⟨_, _, e_, ⟨⟨⟨_, rfl, .eq rfl⟩, ⟨_, rfl, .eq rfl⟩, ⟨_, rfl, .eq rfl⟩, trivial⟩, trivial, trivial⟩⟩
  · have h := some_of h
    subst h
    have e_ := kinfolkref06_number_L0_q0_3 p at_ k
    have e_ := Says.of e_ ⟨h1, rfl, rfl, trivial⟩
    exact ⟨_, _, e_, ⟨⟨⟨_, rfl, .eq rfl⟩, ⟨_, rfl, .eq rfl⟩, ⟨_, rfl, .eq rfl⟩, trivial⟩, trivial, trivial⟩⟩
theorem kinfolkref06_number_L0_runs (p : List Int) (at_ : Int) (s_ : Int) (r_ : Int) (h : runL (kinfolkref06_number_L0_step p at_) s_ = some r_) : LRuns Try.prog (lEnv Try.prog cfg 41 0).nt 0 (.loop (loopAt Try.prog 41 0)) (kinfolkref06_number_L0_st p at_ s_) (kinfolkref06_number_L0_ex p at_ r_).1 (kinfolkref06_number_L0_ex p at_ r_).2 :=
  loop_run h (kinfolkref06_number_L0_ok p at_) (by intro r_; rcases r_ with r1 <;> simp [kinfolkref06_number_L0_ex])
/-! ### kinfolkref06_number_L1 -/
def kinfolkref06_number_L1_st (p : List Int) (at_ : Int) (k : Int) : Int × Int → St
  | (n, i) => ⟨[(0, (.av (.one (.pv (.ints .u8 p false))))), (1, (.av (.one (.pv (.int .i64 at_))))), (6, (.av (.one (.pv (.int .i64 k))))), (7, (.av (.one (.pv (.int .u64 n))))), (8, (.av (.one (.pv (.int .i64 i)))))], [], []⟩
def kinfolkref06_number_L1_ex (p : List Int) (at_ : Int) (k : Int) : Int → Ex × St
  | r1 => ((.exit 2), ⟨[(1, (.av (.one (.pv (.int .i64 at_))))), (6, (.av (.one (.pv (.int .i64 k))))), (7, (.av (.one (.pv (.int .u64 r1)))))], [], []⟩)
theorem kinfolkref06_number_L1_q0_0 (p : List Int) (at_ : Int) (k : Int) (n : Int) (i : Int) : evRound (lEnv Try.prog cfg 41 0) (loopAt Try.prog 41 1) ⟨[(0, (.av (.one (.pv (.ints .u8 p false))))), (1, (.av (.one (.pv (.int .i64 at_))))), (6, (.av (.one (.pv (.int .i64 k))))), (7, (.av (.one (.pv (.int .u64 n))))), (8, (.av (.one (.pv (.int .i64 i)))))], [], []⟩
    [.br true] =
  some ((.normal, ⟨[(0, (.av (.one (.pv (.ints .u8 p false))))), (1, (.av (.one (.pv (.int .i64 at_))))), (6, (.av (.one (.pv (.int .i64 k))))), (7, (.av (.one (.pv (.int .u64 (iadd .u64 (imul .u64 128 n) (IntKind.u64.wrap (irem .u8 (p.getD (i).toNat 0) 128)))))))), (8, (.av (.one (.pv (.int .i64 (isub .i64 i 1))))))], [], []⟩), [
    (decide ((at_ : Int) ≤ i)) = true,
    (decide ((0 : Int) ≤ i) && decide ((i : Int) < ((p).length : Int))) = true,
    true = true]) := by kernel_rfl
theorem kinfolkref06_number_L1_q0_1 (p : List Int) (at_ : Int) (k : Int) (n : Int) (i : Int) : evRound (lEnv Try.prog cfg 41 0) (loopAt Try.prog 41 1) ⟨[(0, (.av (.one (.pv (.ints .u8 p false))))), (1, (.av (.one (.pv (.int .i64 at_))))), (6, (.av (.one (.pv (.int .i64 k))))), (7, (.av (.one (.pv (.int .u64 n))))), (8, (.av (.one (.pv (.int .i64 i)))))], [], []⟩
    [.br false] =
  some (((.exit 2), ⟨[(61, (.av (.one (.pv (.bool false))))), (0, (.av (.one (.pv (.ints .u8 p false))))), (1, (.av (.one (.pv (.int .i64 at_))))), (6, (.av (.one (.pv (.int .i64 k))))), (7, (.av (.one (.pv (.int .u64 n))))), (8, (.av (.one (.pv (.int .i64 i))))), (61, (.av (.one (.pv (.bool (decide ((at_ : Int) ≤ i)))))))], [], []⟩), [
    (decide ((at_ : Int) ≤ i)) = false]) := by kernel_rfl
noncomputable def kinfolkref06_number_L1_step (p : List Int) (at_ : Int) (k : Int) : Int × Int → Option ((Int × Int) ⊕ (Int))
  | (n, i) =>
  bif (decide ((at_ : Int) ≤ i)) then
    bif decide ((0 : Int) ≤ i) && decide ((i : Int) < ((p).length : Int)) then
    some (.inl ((iadd .u64 (imul .u64 128 n) (IntKind.u64.wrap (irem .u8 (p.getD (i).toNat 0) 128))), (isub .i64 i 1)))
    else none
  else
    some (.inr n)
theorem kinfolkref06_number_L1_ok (p : List Int) (at_ : Int) (k : Int) (s_ : Int × Int) (z_ : (Int × Int) ⊕ (Int)) (h : kinfolkref06_number_L1_step p at_ k s_ = some z_) : RoundOk Try.prog cfg 41 0 (loopAt Try.prog 41 1) (kinfolkref06_number_L1_st p at_ k) (kinfolkref06_number_L1_ex p at_ k) s_ z_ := by
  rcases s_ with ⟨n, i⟩
  rcases cond_of h with ⟨h1, h⟩ | ⟨h1, h⟩
  · obtain ⟨h2, h⟩ := need_of h
    have h := some_of h
    subst h
    have e_ := kinfolkref06_number_L1_q0_0 p at_ k n i
    have e_ := Says.of e_ ⟨h1, h2, rfl, trivial⟩
    exact ⟨_, _, e_, ⟨⟨⟨_, rfl, .eq rfl⟩, ⟨_, rfl, .eq rfl⟩, ⟨_, rfl, .eq rfl⟩, ⟨_, rfl, .eq rfl⟩, ⟨_, rfl, .eq rfl⟩, trivial⟩, trivial, trivial⟩⟩
  · have h := some_of h
    subst h
    have e_ := kinfolkref06_number_L1_q0_1 p at_ k n i
    have e_ := Says.of e_ ⟨h1, trivial⟩
    exact ⟨_, _, e_, ⟨⟨⟨_, rfl, .eq rfl⟩, ⟨_, rfl, .eq rfl⟩, ⟨_, rfl, .eq rfl⟩, trivial⟩, trivial, trivial⟩⟩
theorem kinfolkref06_number_L1_runs (p : List Int) (at_ : Int) (k : Int) (s_ : Int × Int) (r_ : Int) (h : runL (kinfolkref06_number_L1_step p at_ k) s_ = some r_) : LRuns Try.prog (lEnv Try.prog cfg 41 0).nt 0 (.loop (loopAt Try.prog 41 1)) (kinfolkref06_number_L1_st p at_ k s_) (kinfolkref06_number_L1_ex p at_ k r_).1 (kinfolkref06_number_L1_ex p at_ k r_).2 :=
  loop_run h (kinfolkref06_number_L1_ok p at_ k) (by intro r_; rcases r_ with r1 <;> simp [kinfolkref06_number_L1_ex])

end Go.Proofs.Ytecblpgljmbpeaa
