/- What walks give, path by path. -/
import Derived.Test.YtecblpgljmbpeaaKg
namespace Go.Proofs.Ytecblpgljmbpeaa
open Go.Ev

/-- A number's bytes, seven bits each. -/
def vnat : Nat → Nat → List Int
  | 0, n => [(n : Int)]
  | f + 1, n => if n < 128 then [(n : Int)] else ((n % 128 + 128 : Nat) : Int) :: vnat f (n / 128)
def varint (n : Int) : List Int := vnat 9 n.toNat

abbrev S32t (l : List Int) (n : Int) : St := ⟨[(0, (.av (.one (.pv (.ints .u8 l true))))), (1, (.av (.one (.pv (.int .u64 n)))))], [], []⟩

abbrev S32 (l : List Int) (n : Int) : St := ⟨[(0, (.av (.one (.own 0 0 l.length false)))), (1, (.av (.one (.pv (.int .u64 n)))))], [], [(0, (.live (.ints .u8 l)))]⟩

abbrev E32t (l : List Int) (n : Int) : St := ⟨[(0, (.av (.one (.pv (.ints .u8 l true))))), (1, (.av (.one (.pv (.int .u64 n))))), (12, (.av (.one (.pv (.bool (decide (128 ≤ n)))))))], [], []⟩

abbrev E32 (l : List Int) (n : Int) : St := ⟨[(0, (.av (.one (.own 0 0 l.length false)))), (1, (.av (.one (.pv (.int .u64 n))))), (12, (.av (.one (.pv (.bool (decide (128 ≤ n)))))))], [], [(0, (.live (.ints .u8 l)))]⟩

theorem f32_first (l : List Int) (n : Int) : evRound (lEnv Try.prog cfg 32 0) (loopAt Try.prog 32 0) ⟨[(0, (.av (.one (.pv (.ints .u8 l true))))), (1, (.av (.one (.pv (.int .u64 n)))))], [], []⟩
    [.br true, .br false] =
  some ((.normal, ⟨[(0, (.av (.one (.own 0 0 ((l ++ [(ior .u8 (IntKind.u8.wrap n) 128)])).length false)))), (1, (.av (.one (.pv (.int .u64 (ishr .u64 n 7))))))], [], [(0, (.live (.ints .u8 (l ++ [(ior .u8 (IntKind.u8.wrap n) 128)]))))]⟩), [
    (decide ((128 : Int) ≤ n)) = true,
    true = true,
    (fits ((l ++ [(ior .u8 (IntKind.u8.wrap n) 128)])).length) = true,
    true = true]) := by kernel_rfl

theorem f32_round (l : List Int) (n : Int) : evRound (lEnv Try.prog cfg 32 0) (loopAt Try.prog 32 0) ⟨[(0, (.av (.one (.own 0 0 l.length false)))), (1, (.av (.one (.pv (.int .u64 n)))))], [], [(0, (.live (.ints .u8 l)))]⟩
    [.br true] =
  some ((.normal, ⟨[(0, (.av (.one (.own 0 0 (l.length + 1) false)))), (1, (.av (.one (.pv (.int .u64 (ishr .u64 n 7))))))], [], [(0, (.live (.ints .u8 (l ++ [(ior .u8 (IntKind.u8.wrap n) 128)]))))]⟩), [
    (decide ((128 : Int) ≤ n)) = true,
    (Nat.beq l.length (l).length) = true,
    (fits ((l ++ [(ior .u8 (IntKind.u8.wrap n) 128)])).length) = true,
    true = true]) := by kernel_rfl

theorem f32_out0 (l : List Int) (n : Int) : evRound (lEnv Try.prog cfg 32 0) (loopAt Try.prog 32 0) ⟨[(0, (.av (.one (.pv (.ints .u8 l true))))), (1, (.av (.one (.pv (.int .u64 n)))))], [], []⟩
    [.br false] =
  some (((.exit 0), ⟨[(0, (.av (.one (.pv (.ints .u8 l true))))), (1, (.av (.one (.pv (.int .u64 n))))), (12, (.av (.one (.pv (.bool (decide ((128 : Int) ≤ n)))))))], [], []⟩), [
    (decide ((128 : Int) ≤ n)) = false]) := by kernel_rfl

theorem f32_out (l : List Int) (n : Int) : evRound (lEnv Try.prog cfg 32 0) (loopAt Try.prog 32 0) ⟨[(0, (.av (.one (.own 0 0 l.length false)))), (1, (.av (.one (.pv (.int .u64 n)))))], [], [(0, (.live (.ints .u8 l)))]⟩
    [.br false] =
  some (((.exit 0), ⟨[(0, (.av (.one (.own 0 0 l.length false)))), (1, (.av (.one (.pv (.int .u64 n))))), (12, (.av (.one (.pv (.bool (decide ((128 : Int) ≤ n)))))))], [], [(0, (.live (.ints .u8 l)))]⟩), [
    (decide ((128 : Int) ≤ n)) = false]) := by kernel_rfl

theorem f32_small (l : List Int) (t : Bool) (n : Int) : evFn Try.prog cfg (Runs Try.prog) (LRuns Try.prog (lEnv Try.prog cfg 32 0).nt 0) 32 [(.one (.pv (.ints .u8 l t))), (.one (.pv (.int .u64 n)))] [] []
    [.lp (.exit 0) ⟨[(0, (.av (.one (.pv (.ints .u8 (List.take (((l).length : Int) - 0).toNat l) true))))), (1, (.av (.one (.pv (.int .u64 n))))), (12, (.av (.one (.pv (.bool (decide ((128 : Int) ≤ n)))))))], [], []⟩, .br false] =
  some (([(.one (.own 0 0 (((List.take (((l).length : Int) - 0).toNat l) ++ [(IntKind.u8.wrap n)])).length false))], [], [(.ints .u8 ((List.take (((l).length : Int) - 0).toNat l) ++ [(IntKind.u8.wrap n)]))]), [
    (decide ((0 : Int) ≤ 0) && decide ((0 : Int) ≤ ((l).length : Int)) && decide ((((l).length : Int) : Int) ≤ ((l).length : Int)) && decide ((((l).length : Int) : Int) = ((l).length : Int))) = true,
    LRuns Try.prog (lEnv Try.prog cfg 32 0).nt 0 (.loop (loopAt Try.prog 32 0)) ⟨[(0, (.av (.one (.pv (.ints .u8 (List.take (((l).length : Int) - 0).toNat l) true))))), (1, (.av (.one (.pv (.int .u64 n)))))], [], []⟩ (.exit 0) ⟨[(0, (.av (.one (.pv (.ints .u8 (List.take (((l).length : Int) - 0).toNat l) true))))), (1, (.av (.one (.pv (.int .u64 n))))), (12, (.av (.one (.pv (.bool (decide ((128 : Int) ≤ n)))))))], [], []⟩,
    true = true,
    (fits (((List.take (((l).length : Int) - 0).toNat l) ++ [(IntKind.u8.wrap n)])).length) = true]) := by kernel_rfl

theorem f32_big (l m : List Int) (t : Bool) (n z : Int) : evFn Try.prog cfg (Runs Try.prog) (LRuns Try.prog (lEnv Try.prog cfg 32 0).nt 0) 32 [(.one (.pv (.ints .u8 l t))), (.one (.pv (.int .u64 n)))] [] []
    [.lp (.exit 0) ⟨[(0, (.av (.one (.own 0 0 m.length false)))), (1, (.av (.one (.pv (.int .u64 z))))), (12, (.av (.one (.pv (.bool (decide ((128 : Int) ≤ z)))))))], [], [(0, (.live (.ints .u8 m)))]⟩] =
  some (([(.one (.own 0 0 (m.length + 1) false))], [], [(.ints .u8 (m ++ [(IntKind.u8.wrap z)]))]), [
    (decide ((0 : Int) ≤ 0) && decide ((0 : Int) ≤ ((l).length : Int)) && decide ((((l).length : Int) : Int) ≤ ((l).length : Int)) && decide ((((l).length : Int) : Int) = ((l).length : Int))) = true,
    LRuns Try.prog (lEnv Try.prog cfg 32 0).nt 0 (.loop (loopAt Try.prog 32 0)) ⟨[(0, (.av (.one (.pv (.ints .u8 (List.take (((l).length : Int) - 0).toNat l) true))))), (1, (.av (.one (.pv (.int .u64 n)))))], [], []⟩ (.exit 0) ⟨[(0, (.av (.one (.own 0 0 m.length false)))), (1, (.av (.one (.pv (.int .u64 z))))), (12, (.av (.one (.pv (.bool (decide ((128 : Int) ≤ z)))))))], [], [(0, (.live (.ints .u8 m)))]⟩,
    (Nat.beq m.length (m).length) = true,
    (fits ((m ++ [(IntKind.u8.wrap z)])).length) = true]) := by kernel_rfl

theorem f9_fn  : evFn Try.prog cfg (Runs Try.prog) (LRuns Try.prog (lEnv Try.prog cfg 9 0).nt 0) 9 [] [] []
    [.res ([(.one (.pv (.int .u32 (wsum [49, 50, 51, 52, 53, 54, 55, 56, 57]))))], [], []), .br true, .res ([(.one (.own 0 0 (varint 300).length false))], [], [(.ints .u8 (varint 300))]), .res ([(.one (.pv (.bool (decide ((varint 300) = [172, 2])))))], [], [])] =
  some (([(.one (.pv (.bool (decide ((varint 300) = [172, 2])))))], [], []), [
    Runs Try.prog 11 [(.one (.pv (.ints .u8 [49, 50, 51, 52, 53, 54, 55, 56, 57] true)))] [] [] ([(.one (.pv (.int .u32 (wsum [49, 50, 51, 52, 53, 54, 55, 56, 57]))))], [], []),
    (decide (((wsum [49, 50, 51, 52, 53, 54, 55, 56, 57]) : Int) = 3421780262)) = true,
    Runs Try.prog 32 [(.one (.pv .nils)), (.one (.pv (.int .u64 300)))] [] [] ([(.one (.own 0 0 (varint 300).length false))], [], [(.ints .u8 (varint 300))]),
    Runs Try.prog 15 [(.one (.bor (.ints .u8 (List.take (varint 300).length (varint 300)) false))), (.one (.bor (.ints .u8 [172, 2] true)))] [] [] ([(.one (.pv (.bool (decide ((varint 300) = [172, 2])))))], [], [])]) := by kernel_rfl

end Go.Proofs.Ytecblpgljmbpeaa
