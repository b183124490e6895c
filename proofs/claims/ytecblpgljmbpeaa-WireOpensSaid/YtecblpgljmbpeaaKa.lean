/- What walks give, path by path. -/
import Derived.Test.YtecblpgljmbpeaaCfg
namespace Go.Proofs.Ytecblpgljmbpeaa
open Go.Ev

def iter {α : Type} (f : α → α) : Nat → α → α
  | 0, x => x
  | n + 1, x => iter f n (f x)
def wstep (r : Int) : Int := if iand .u32 r 1 = 1 then ixor .u32 (ishr .u32 r 1) 3988292384 else ishr .u32 r 1
def wfold (l : List Int) (r : Int) : Int := l.foldl (fun r b => iter wstep 8 (ixor .u32 r (IntKind.u32.wrap b))) r
def rstep (z : Int × Int) : Int × Int := (if irem .u32 z.1 2 = IntKind.u32.wrap (irem .u8 z.2 2) then iquo .u32 z.1 2 else ixor .u32 (iquo .u32 z.1 2) 3988292384, iquo .u8 z.2 2)
def rfold (l : List Int) (r : Int) : Int := l.foldl (fun r b => (iter rstep 8 (r, b)).1) r
def take4 (l : List Int) : Int := l.getD 0 0 + 256 * l.getD 1 0 + 65536 * l.getD 2 0 + 16777216 * l.getD 3 0
def four4 (n : Int) : List Int := [n % 256, n / 256 % 256, n / 65536 % 256, n / 16777216 % 256]
/-- A slice in a row. -/
def ent (z : List Int × Bool) : List PV := [.ints .u8 z.1 z.2]
abbrev LR (f i : Nat) : St → Ex → St → Prop := LRuns Try.prog (lEnv Try.prog cfg f 0).nt 0 (.loop (loopAt Try.prog f i))

abbrev S11i (l : List Int) (t : Bool) (r i k : Int) : St := ⟨[(3, (.av (.one (.pv (.int .u32 r))))), (6, (.av (.one (.pv (.ints .u8 l t))))), (7, (.av (.one (.pv (.int .i64 ((l).length : Int)))))), (8, (.av (.one (.pv (.int .i64 i))))), (16, (.av (.one (.pv (.int .i64 k)))))], [], []⟩

abbrev S11o (l : List Int) (t : Bool) (r i : Int) : St := ⟨[(3, (.av (.one (.pv (.int .u32 r))))), (6, (.av (.one (.pv (.ints .u8 l t))))), (7, (.av (.one (.pv (.int .i64 ((l).length : Int)))))), (8, (.av (.one (.pv (.int .i64 i)))))], [], []⟩

abbrev E11i (l : List Int) (t : Bool) (r i k : Int) : St := ⟨[(3, (.av (.one (.pv (.int .u32 r))))), (6, (.av (.one (.pv (.ints .u8 l t))))), (7, (.av (.one (.pv (.int .i64 ((l).length : Int)))))), (8, (.av (.one (.pv (.int .i64 i))))), (16, (.av (.one (.pv (.int .i64 k))))), (17, (.av (.one (.pv (.bool (decide (k < 8)))))))], [], []⟩

abbrev E11o (l : List Int) (t : Bool) (r i : Int) : St := ⟨[(3, (.av (.one (.pv (.int .u32 r))))), (6, (.av (.one (.pv (.ints .u8 l t))))), (7, (.av (.one (.pv (.int .i64 ((l).length : Int)))))), (8, (.av (.one (.pv (.int .i64 i))))), (9, (.av (.one (.pv (.bool (decide (i < ((l).length : Int))))))))], [], []⟩

theorem f11_odd (l : List Int) (t : Bool) (r i k : Int) : evRound (lEnv Try.prog cfg 11 0) (loopAt Try.prog 11 1) ⟨[(3, (.av (.one (.pv (.int .u32 r))))), (6, (.av (.one (.pv (.ints .u8 l t))))), (7, (.av (.one (.pv (.int .i64 ((l).length : Int)))))), (8, (.av (.one (.pv (.int .i64 i))))), (16, (.av (.one (.pv (.int .i64 k)))))], [], []⟩
    [.br true, .br true] =
  some ((.normal, ⟨[(3, (.av (.one (.pv (.int .u32 (ixor .u32 (ishr .u32 r 1) 3988292384)))))), (6, (.av (.one (.pv (.ints .u8 l t))))), (7, (.av (.one (.pv (.int .i64 ((l).length : Int)))))), (8, (.av (.one (.pv (.int .i64 i))))), (16, (.av (.one (.pv (.int .i64 (iadd .i64 k 1))))))], [], []⟩), [
    (decide ((k : Int) < 8)) = true,
    (decide (((iand .u32 r 1) : Int) = 1)) = true,
    true = true]) := by kernel_rfl

theorem f11_even (l : List Int) (t : Bool) (r i k : Int) : evRound (lEnv Try.prog cfg 11 0) (loopAt Try.prog 11 1) ⟨[(3, (.av (.one (.pv (.int .u32 r))))), (6, (.av (.one (.pv (.ints .u8 l t))))), (7, (.av (.one (.pv (.int .i64 ((l).length : Int)))))), (8, (.av (.one (.pv (.int .i64 i))))), (16, (.av (.one (.pv (.int .i64 k)))))], [], []⟩
    [.br true, .br false] =
  some ((.normal, ⟨[(3, (.av (.one (.pv (.int .u32 (ishr .u32 r 1)))))), (6, (.av (.one (.pv (.ints .u8 l t))))), (7, (.av (.one (.pv (.int .i64 ((l).length : Int)))))), (8, (.av (.one (.pv (.int .i64 i))))), (16, (.av (.one (.pv (.int .i64 (iadd .i64 k 1))))))], [], []⟩), [
    (decide ((k : Int) < 8)) = true,
    (decide (((iand .u32 r 1) : Int) = 1)) = false,
    true = true]) := by kernel_rfl

theorem f11_in (l : List Int) (t : Bool) (r i k : Int) : evRound (lEnv Try.prog cfg 11 0) (loopAt Try.prog 11 1) ⟨[(3, (.av (.one (.pv (.int .u32 r))))), (6, (.av (.one (.pv (.ints .u8 l t))))), (7, (.av (.one (.pv (.int .i64 ((l).length : Int)))))), (8, (.av (.one (.pv (.int .i64 i))))), (16, (.av (.one (.pv (.int .i64 k)))))], [], []⟩
    [.br false] =
  some (((.exit 2), ⟨[(3, (.av (.one (.pv (.int .u32 r))))), (6, (.av (.one (.pv (.ints .u8 l t))))), (7, (.av (.one (.pv (.int .i64 ((l).length : Int)))))), (8, (.av (.one (.pv (.int .i64 i))))), (16, (.av (.one (.pv (.int .i64 k))))), (17, (.av (.one (.pv (.bool (decide ((k : Int) < 8)))))))], [], []⟩), [
    (decide ((k : Int) < 8)) = false]) := by kernel_rfl

theorem f11_round (l : List Int) (t : Bool) (r i : Int) : evRound (lEnv Try.prog cfg 11 0) (loopAt Try.prog 11 0) ⟨[(3, (.av (.one (.pv (.int .u32 r))))), (6, (.av (.one (.pv (.ints .u8 l t))))), (7, (.av (.one (.pv (.int .i64 ((l).length : Int)))))), (8, (.av (.one (.pv (.int .i64 i)))))], [], []⟩
    [.br true, .lp (.exit 2) ⟨[(3, (.av (.one (.pv (.int .u32 (iter wstep 8 (ixor .u32 r (IntKind.u32.wrap (l.getD (i).toNat 0))))))))), (6, (.av (.one (.pv (.ints .u8 l t))))), (7, (.av (.one (.pv (.int .i64 ((l).length : Int)))))), (8, (.av (.one (.pv (.int .i64 i))))), (16, (.av (.one (.pv (.int .i64 8))))), (17, (.av (.one (.pv (.bool (decide ((8 : Int) < 8)))))))], [], []⟩] =
  some ((.normal, ⟨[(3, (.av (.one (.pv (.int .u32 (iter wstep 8 (ixor .u32 r (IntKind.u32.wrap (l.getD (i).toNat 0))))))))), (6, (.av (.one (.pv (.ints .u8 l t))))), (7, (.av (.one (.pv (.int .i64 ((l).length : Int)))))), (8, (.av (.one (.pv (.int .i64 (iadd .i64 i 1))))))], [], []⟩), [
    (decide ((i : Int) < ((l).length : Int))) = true,
    (decide ((0 : Int) ≤ i) && decide ((i : Int) < ((l).length : Int))) = true,
    LRuns Try.prog (lEnv Try.prog cfg 11 0).nt 0 (.loop (loopAt Try.prog 11 1)) ⟨[(3, (.av (.one (.pv (.int .u32 (ixor .u32 r (IntKind.u32.wrap (l.getD (i).toNat 0)))))))), (6, (.av (.one (.pv (.ints .u8 l t))))), (7, (.av (.one (.pv (.int .i64 ((l).length : Int)))))), (8, (.av (.one (.pv (.int .i64 i))))), (16, (.av (.one (.pv (.int .i64 0)))))], [], []⟩ (.exit 2) ⟨[(3, (.av (.one (.pv (.int .u32 (iter wstep 8 (ixor .u32 r (IntKind.u32.wrap (l.getD (i).toNat 0))))))))), (6, (.av (.one (.pv (.ints .u8 l t))))), (7, (.av (.one (.pv (.int .i64 ((l).length : Int)))))), (8, (.av (.one (.pv (.int .i64 i))))), (16, (.av (.one (.pv (.int .i64 8))))), (17, (.av (.one (.pv (.bool (decide ((8 : Int) < 8)))))))], [], []⟩]) := by kernel_rfl

theorem f11_out (l : List Int) (t : Bool) (r i : Int) : evRound (lEnv Try.prog cfg 11 0) (loopAt Try.prog 11 0) ⟨[(3, (.av (.one (.pv (.int .u32 r))))), (6, (.av (.one (.pv (.ints .u8 l t))))), (7, (.av (.one (.pv (.int .i64 ((l).length : Int)))))), (8, (.av (.one (.pv (.int .i64 i)))))], [], []⟩
    [.br false] =
  some (((.exit 0), ⟨[(3, (.av (.one (.pv (.int .u32 r))))), (6, (.av (.one (.pv (.ints .u8 l t))))), (7, (.av (.one (.pv (.int .i64 ((l).length : Int)))))), (8, (.av (.one (.pv (.int .i64 i))))), (9, (.av (.one (.pv (.bool (decide ((i : Int) < ((l).length : Int))))))))], [], []⟩), [
    (decide ((i : Int) < ((l).length : Int))) = false]) := by kernel_rfl

theorem f11_fn (l : List Int) (t : Bool) : evFn Try.prog cfg (Runs Try.prog) (LRuns Try.prog (lEnv Try.prog cfg 11 0).nt 0) 11 [(.one (.pv (.ints .u8 l t)))] [] []
    [.lp (.exit 0) ⟨[(3, (.av (.one (.pv (.int .u32 (wfold l 4294967295)))))), (6, (.av (.one (.pv (.ints .u8 l t))))), (7, (.av (.one (.pv (.int .i64 ((l).length : Int)))))), (8, (.av (.one (.pv (.int .i64 ((l).length : Int)))))), (9, (.av (.one (.pv (.bool (decide (((l).length : Int) < ((l).length : Int))))))))], [], []⟩] =
  some (([(.one (.pv (.int .u32 (ixor .u32 4294967295 (wfold l 4294967295)))))], [], []), [
    LRuns Try.prog (lEnv Try.prog cfg 11 0).nt 0 (.loop (loopAt Try.prog 11 0)) ⟨[(3, (.av (.one (.pv (.int .u32 4294967295))))), (6, (.av (.one (.pv (.ints .u8 l t))))), (7, (.av (.one (.pv (.int .i64 ((l).length : Int)))))), (8, (.av (.one (.pv (.int .i64 0)))))], [], []⟩ (.exit 0) ⟨[(3, (.av (.one (.pv (.int .u32 (wfold l 4294967295)))))), (6, (.av (.one (.pv (.ints .u8 l t))))), (7, (.av (.one (.pv (.int .i64 ((l).length : Int)))))), (8, (.av (.one (.pv (.int .i64 ((l).length : Int)))))), (9, (.av (.one (.pv (.bool (decide (((l).length : Int) < ((l).length : Int))))))))], [], []⟩]) := by kernel_rfl

abbrev S12i (l : List Int) (t : Bool) (r i b k : Int) : St := ⟨[(3, (.av (.one (.pv (.int .u32 r))))), (5, (.av (.one (.pv (.int .u8 b))))), (6, (.av (.one (.pv (.int .i64 k))))), (8, (.av (.one (.pv (.ints .u8 l t))))), (9, (.av (.one (.pv (.int .i64 ((l).length : Int)))))), (10, (.av (.one (.pv (.int .i64 i)))))], [], []⟩

abbrev S12o (l : List Int) (t : Bool) (r i : Int) : St := ⟨[(3, (.av (.one (.pv (.int .u32 r))))), (8, (.av (.one (.pv (.ints .u8 l t))))), (9, (.av (.one (.pv (.int .i64 ((l).length : Int)))))), (10, (.av (.one (.pv (.int .i64 i)))))], [], []⟩

abbrev E12i (l : List Int) (t : Bool) (r i b k : Int) : St := ⟨[(3, (.av (.one (.pv (.int .u32 r))))), (5, (.av (.one (.pv (.int .u8 b))))), (6, (.av (.one (.pv (.int .i64 k))))), (8, (.av (.one (.pv (.ints .u8 l t))))), (9, (.av (.one (.pv (.int .i64 ((l).length : Int)))))), (10, (.av (.one (.pv (.int .i64 i))))), (15, (.av (.one (.pv (.bool (decide (k < 8)))))))], [], []⟩

abbrev E12o (l : List Int) (t : Bool) (r i : Int) : St := ⟨[(3, (.av (.one (.pv (.int .u32 r))))), (8, (.av (.one (.pv (.ints .u8 l t))))), (9, (.av (.one (.pv (.int .i64 ((l).length : Int)))))), (10, (.av (.one (.pv (.int .i64 i))))), (11, (.av (.one (.pv (.bool (decide (i < ((l).length : Int))))))))], [], []⟩

theorem f12_odd (l : List Int) (t : Bool) (r i b k : Int) : evRound (lEnv Try.prog cfg 12 0) (loopAt Try.prog 12 1) ⟨[(3, (.av (.one (.pv (.int .u32 r))))), (5, (.av (.one (.pv (.int .u8 b))))), (6, (.av (.one (.pv (.int .i64 k))))), (8, (.av (.one (.pv (.ints .u8 l t))))), (9, (.av (.one (.pv (.int .i64 ((l).length : Int)))))), (10, (.av (.one (.pv (.int .i64 i)))))], [], []⟩
    [.br true, .br true] =
  some ((.normal, ⟨[(3, (.av (.one (.pv (.int .u32 (ixor .u32 (iquo .u32 r 2) 3988292384)))))), (5, (.av (.one (.pv (.int .u8 (iquo .u8 b 2)))))), (6, (.av (.one (.pv (.int .i64 (iadd .i64 k 1)))))), (8, (.av (.one (.pv (.ints .u8 l t))))), (9, (.av (.one (.pv (.int .i64 ((l).length : Int)))))), (10, (.av (.one (.pv (.int .i64 i)))))], [], []⟩), [
    (decide ((k : Int) < 8)) = true,
    true = true,
    true = true,
    true = true,
    true = true,
    (!(decide (((irem .u32 r 2) : Int) = (IntKind.u32.wrap (irem .u8 b 2))))) = true]) := by kernel_rfl

theorem f12_even (l : List Int) (t : Bool) (r i b k : Int) : evRound (lEnv Try.prog cfg 12 0) (loopAt Try.prog 12 1) ⟨[(3, (.av (.one (.pv (.int .u32 r))))), (5, (.av (.one (.pv (.int .u8 b))))), (6, (.av (.one (.pv (.int .i64 k))))), (8, (.av (.one (.pv (.ints .u8 l t))))), (9, (.av (.one (.pv (.int .i64 ((l).length : Int)))))), (10, (.av (.one (.pv (.int .i64 i)))))], [], []⟩
    [.br true, .br false] =
  some ((.normal, ⟨[(3, (.av (.one (.pv (.int .u32 (iquo .u32 r 2)))))), (5, (.av (.one (.pv (.int .u8 (iquo .u8 b 2)))))), (6, (.av (.one (.pv (.int .i64 (iadd .i64 k 1)))))), (8, (.av (.one (.pv (.ints .u8 l t))))), (9, (.av (.one (.pv (.int .i64 ((l).length : Int)))))), (10, (.av (.one (.pv (.int .i64 i)))))], [], []⟩), [
    (decide ((k : Int) < 8)) = true,
    true = true,
    true = true,
    true = true,
    true = true,
    (!(decide (((irem .u32 r 2) : Int) = (IntKind.u32.wrap (irem .u8 b 2))))) = false]) := by kernel_rfl

theorem f12_in (l : List Int) (t : Bool) (r i b k : Int) : evRound (lEnv Try.prog cfg 12 0) (loopAt Try.prog 12 1) ⟨[(3, (.av (.one (.pv (.int .u32 r))))), (5, (.av (.one (.pv (.int .u8 b))))), (6, (.av (.one (.pv (.int .i64 k))))), (8, (.av (.one (.pv (.ints .u8 l t))))), (9, (.av (.one (.pv (.int .i64 ((l).length : Int)))))), (10, (.av (.one (.pv (.int .i64 i)))))], [], []⟩
    [.br false] =
  some (((.exit 2), ⟨[(3, (.av (.one (.pv (.int .u32 r))))), (5, (.av (.one (.pv (.int .u8 b))))), (6, (.av (.one (.pv (.int .i64 k))))), (8, (.av (.one (.pv (.ints .u8 l t))))), (9, (.av (.one (.pv (.int .i64 ((l).length : Int)))))), (10, (.av (.one (.pv (.int .i64 i))))), (15, (.av (.one (.pv (.bool (decide ((k : Int) < 8)))))))], [], []⟩), [
    (decide ((k : Int) < 8)) = false]) := by kernel_rfl

theorem f12_round (l : List Int) (t : Bool) (r i : Int) : evRound (lEnv Try.prog cfg 12 0) (loopAt Try.prog 12 0) ⟨[(3, (.av (.one (.pv (.int .u32 r))))), (8, (.av (.one (.pv (.ints .u8 l t))))), (9, (.av (.one (.pv (.int .i64 ((l).length : Int)))))), (10, (.av (.one (.pv (.int .i64 i)))))], [], []⟩
    [.br true, .lp (.exit 2) ⟨[(3, (.av (.one (.pv (.int .u32 (iter rstep 8 (r, (l.getD (i).toNat 0))).1))))), (5, (.av (.one (.pv (.int .u8 (iter rstep 8 (r, (l.getD (i).toNat 0))).2))))), (6, (.av (.one (.pv (.int .i64 8))))), (8, (.av (.one (.pv (.ints .u8 l t))))), (9, (.av (.one (.pv (.int .i64 ((l).length : Int)))))), (10, (.av (.one (.pv (.int .i64 i))))), (15, (.av (.one (.pv (.bool (decide ((8 : Int) < 8)))))))], [], []⟩] =
  some ((.normal, ⟨[(3, (.av (.one (.pv (.int .u32 (iter rstep 8 (r, (l.getD (i).toNat 0))).1))))), (8, (.av (.one (.pv (.ints .u8 l t))))), (9, (.av (.one (.pv (.int .i64 ((l).length : Int)))))), (10, (.av (.one (.pv (.int .i64 (iadd .i64 i 1))))))], [], []⟩), [
    (decide ((i : Int) < ((l).length : Int))) = true,
    (decide ((0 : Int) ≤ i) && decide ((i : Int) < ((l).length : Int))) = true,
    LRuns Try.prog (lEnv Try.prog cfg 12 0).nt 0 (.loop (loopAt Try.prog 12 1)) ⟨[(3, (.av (.one (.pv (.int .u32 r))))), (5, (.av (.one (.pv (.int .u8 (l.getD (i).toNat 0)))))), (6, (.av (.one (.pv (.int .i64 0))))), (8, (.av (.one (.pv (.ints .u8 l t))))), (9, (.av (.one (.pv (.int .i64 ((l).length : Int)))))), (10, (.av (.one (.pv (.int .i64 i)))))], [], []⟩ (.exit 2) ⟨[(3, (.av (.one (.pv (.int .u32 (iter rstep 8 (r, (l.getD (i).toNat 0))).1))))), (5, (.av (.one (.pv (.int .u8 (iter rstep 8 (r, (l.getD (i).toNat 0))).2))))), (6, (.av (.one (.pv (.int .i64 8))))), (8, (.av (.one (.pv (.ints .u8 l t))))), (9, (.av (.one (.pv (.int .i64 ((l).length : Int)))))), (10, (.av (.one (.pv (.int .i64 i))))), (15, (.av (.one (.pv (.bool (decide ((8 : Int) < 8)))))))], [], []⟩]) := by kernel_rfl

theorem f12_out (l : List Int) (t : Bool) (r i : Int) : evRound (lEnv Try.prog cfg 12 0) (loopAt Try.prog 12 0) ⟨[(3, (.av (.one (.pv (.int .u32 r))))), (8, (.av (.one (.pv (.ints .u8 l t))))), (9, (.av (.one (.pv (.int .i64 ((l).length : Int)))))), (10, (.av (.one (.pv (.int .i64 i)))))], [], []⟩
    [.br false] =
  some (((.exit 0), ⟨[(3, (.av (.one (.pv (.int .u32 r))))), (8, (.av (.one (.pv (.ints .u8 l t))))), (9, (.av (.one (.pv (.int .i64 ((l).length : Int)))))), (10, (.av (.one (.pv (.int .i64 i))))), (11, (.av (.one (.pv (.bool (decide ((i : Int) < ((l).length : Int))))))))], [], []⟩), [
    (decide ((i : Int) < ((l).length : Int))) = false]) := by kernel_rfl

theorem f12_fn (l : List Int) (t : Bool) : evFn Try.prog cfg (Runs Try.prog) (LRuns Try.prog (lEnv Try.prog cfg 12 0).nt 0) 12 [(.one (.pv (.ints .u8 l t)))] [] []
    [.lp (.exit 0) ⟨[(3, (.av (.one (.pv (.int .u32 (rfold l 4294967295)))))), (8, (.av (.one (.pv (.ints .u8 l t))))), (9, (.av (.one (.pv (.int .i64 ((l).length : Int)))))), (10, (.av (.one (.pv (.int .i64 ((l).length : Int)))))), (11, (.av (.one (.pv (.bool (decide (((l).length : Int) < ((l).length : Int))))))))], [], []⟩] =
  some (([(.one (.pv (.int .u32 (isub .u32 4294967295 (rfold l 4294967295)))))], [], []), [
    LRuns Try.prog (lEnv Try.prog cfg 12 0).nt 0 (.loop (loopAt Try.prog 12 0)) ⟨[(3, (.av (.one (.pv (.int .u32 4294967295))))), (8, (.av (.one (.pv (.ints .u8 l t))))), (9, (.av (.one (.pv (.int .i64 ((l).length : Int)))))), (10, (.av (.one (.pv (.int .i64 0)))))], [], []⟩ (.exit 0) ⟨[(3, (.av (.one (.pv (.int .u32 (rfold l 4294967295)))))), (8, (.av (.one (.pv (.ints .u8 l t))))), (9, (.av (.one (.pv (.int .i64 ((l).length : Int)))))), (10, (.av (.one (.pv (.int .i64 ((l).length : Int)))))), (11, (.av (.one (.pv (.bool (decide (((l).length : Int) < ((l).length : Int))))))))], [], []⟩]) := by kernel_rfl

abbrev S36 (l : List Int) (t : Bool) (n i : Int) : St := ⟨[(0, (.av (.one (.pv (.ints .u8 l t))))), (3, (.av (.one (.pv (.int .u32 n))))), (5, (.av (.one (.pv (.int .i64 i)))))], [], []⟩

abbrev E36 (l : List Int) (t : Bool) (n i : Int) : St := ⟨[(0, (.av (.one (.pv (.ints .u8 l t))))), (3, (.av (.one (.pv (.int .u32 n))))), (5, (.av (.one (.pv (.int .i64 i))))), (6, (.av (.one (.pv (.bool (decide (i < 4)))))))], [], []⟩

theorem f36_round (l : List Int) (t : Bool) (n i : Int) : evRound (lEnv Try.prog cfg 36 0) (loopAt Try.prog 36 0) ⟨[(0, (.av (.one (.pv (.ints .u8 l t))))), (3, (.av (.one (.pv (.int .u32 n))))), (5, (.av (.one (.pv (.int .i64 i)))))], [], []⟩
    [.br true] =
  some ((.normal, ⟨[(0, (.av (.one (.pv (.ints .u8 l t))))), (3, (.av (.one (.pv (.int .u32 (ior .u32 n (ishl .u32 (IntKind.u32.wrap (l.getD (i).toNat 0)) (imul .i64 8 i)))))))), (5, (.av (.one (.pv (.int .i64 (iadd .i64 i 1))))))], [], []⟩), [
    (decide ((i : Int) < 4)) = true,
    (decide ((0 : Int) ≤ i) && decide ((i : Int) < ((l).length : Int))) = true,
    (decide ((0 : Int) ≤ (imul .i64 8 i))) = true]) := by kernel_rfl

theorem f36_out (l : List Int) (t : Bool) (n i : Int) : evRound (lEnv Try.prog cfg 36 0) (loopAt Try.prog 36 0) ⟨[(0, (.av (.one (.pv (.ints .u8 l t))))), (3, (.av (.one (.pv (.int .u32 n))))), (5, (.av (.one (.pv (.int .i64 i)))))], [], []⟩
    [.br false] =
  some (((.exit 0), ⟨[(0, (.av (.one (.pv (.ints .u8 l t))))), (3, (.av (.one (.pv (.int .u32 n))))), (5, (.av (.one (.pv (.int .i64 i))))), (6, (.av (.one (.pv (.bool (decide ((i : Int) < 4)))))))], [], []⟩), [
    (decide ((i : Int) < 4)) = false]) := by kernel_rfl

theorem f36_fn (l : List Int) (t : Bool) : evFn Try.prog cfg (Runs Try.prog) (LRuns Try.prog (lEnv Try.prog cfg 36 0).nt 0) 36 [(.one (.pv (.ints .u8 l t)))] [] []
    [.lp (.exit 0) ⟨[(0, (.av (.one (.pv (.ints .u8 l t))))), (3, (.av (.one (.pv (.int .u32 (take4 l)))))), (5, (.av (.one (.pv (.int .i64 4))))), (6, (.av (.one (.pv (.bool (decide ((4 : Int) < 4)))))))], [], []⟩] =
  some (([(.one (.pv (.int .u32 (take4 l))))], [], []), [
    LRuns Try.prog (lEnv Try.prog cfg 36 0).nt 0 (.loop (loopAt Try.prog 36 0)) ⟨[(0, (.av (.one (.pv (.ints .u8 l t))))), (3, (.av (.one (.pv (.int .u32 0))))), (5, (.av (.one (.pv (.int .i64 0)))))], [], []⟩ (.exit 0) ⟨[(0, (.av (.one (.pv (.ints .u8 l t))))), (3, (.av (.one (.pv (.int .u32 (take4 l)))))), (5, (.av (.one (.pv (.int .i64 4))))), (6, (.av (.one (.pv (.bool (decide ((4 : Int) < 4)))))))], [], []⟩]) := by kernel_rfl

abbrev S39a (l : List Int) (n i : Int) : St := ⟨[(0, (.av (.one (.pv (.ints .u8 l true))))), (1, (.av (.one (.pv (.int .u32 n))))), (6, (.av (.one (.pv (.int .i64 i)))))], [], []⟩

abbrev S39 (l : List Int) (m : Nat) (n i : Int) : St := ⟨[(0, (.av (.one (.own 0 0 m false)))), (1, (.av (.one (.pv (.int .u32 n))))), (6, (.av (.one (.pv (.int .i64 i)))))], [], [(0, (.live (.ints .u8 l)))]⟩

abbrev E39 (l : List Int) (m : Nat) (n i : Int) : St := ⟨[(0, (.av (.one (.own 0 0 m false)))), (1, (.av (.one (.pv (.int .u32 n))))), (6, (.av (.one (.pv (.int .i64 i))))), (7, (.av (.one (.pv (.bool (decide (i < 4)))))))], [], [(0, (.live (.ints .u8 l)))]⟩

theorem f39_first (l : List Int) (n i : Int) : evRound (lEnv Try.prog cfg 39 0) (loopAt Try.prog 39 0) ⟨[(0, (.av (.one (.pv (.ints .u8 l true))))), (1, (.av (.one (.pv (.int .u32 n))))), (6, (.av (.one (.pv (.int .i64 i)))))], [], []⟩
    [.br true, .br false] =
  some ((.normal, ⟨[(0, (.av (.one (.own 0 0 ((l ++ [(IntKind.u8.wrap (ishr .u32 n (imul .i64 8 i)))])).length false)))), (1, (.av (.one (.pv (.int .u32 n))))), (6, (.av (.one (.pv (.int .i64 (iadd .i64 i 1))))))], [], [(0, (.live (.ints .u8 (l ++ [(IntKind.u8.wrap (ishr .u32 n (imul .i64 8 i)))]))))]⟩), [
    (decide ((i : Int) < 4)) = true,
    (decide ((0 : Int) ≤ (imul .i64 8 i))) = true,
    true = true,
    (fits ((l ++ [(IntKind.u8.wrap (ishr .u32 n (imul .i64 8 i)))])).length) = true]) := by kernel_rfl

theorem f39_round (l : List Int) (m : Nat) (n i : Int) : evRound (lEnv Try.prog cfg 39 0) (loopAt Try.prog 39 0) ⟨[(0, (.av (.one (.own 0 0 m false)))), (1, (.av (.one (.pv (.int .u32 n))))), (6, (.av (.one (.pv (.int .i64 i)))))], [], [(0, (.live (.ints .u8 l)))]⟩
    [.br true] =
  some ((.normal, ⟨[(0, (.av (.one (.own 0 0 (m + 1) false)))), (1, (.av (.one (.pv (.int .u32 n))))), (6, (.av (.one (.pv (.int .i64 (iadd .i64 i 1))))))], [], [(0, (.live (.ints .u8 (l ++ [(IntKind.u8.wrap (ishr .u32 n (imul .i64 8 i)))]))))]⟩), [
    (decide ((i : Int) < 4)) = true,
    (decide ((0 : Int) ≤ (imul .i64 8 i))) = true,
    (Nat.beq m (l).length) = true,
    (fits ((l ++ [(IntKind.u8.wrap (ishr .u32 n (imul .i64 8 i)))])).length) = true]) := by kernel_rfl

theorem f39_out (l : List Int) (m : Nat) (n i : Int) : evRound (lEnv Try.prog cfg 39 0) (loopAt Try.prog 39 0) ⟨[(0, (.av (.one (.own 0 0 m false)))), (1, (.av (.one (.pv (.int .u32 n))))), (6, (.av (.one (.pv (.int .i64 i)))))], [], [(0, (.live (.ints .u8 l)))]⟩
    [.br false] =
  some (((.exit 0), ⟨[(0, (.av (.one (.own 0 0 m false)))), (1, (.av (.one (.pv (.int .u32 n))))), (6, (.av (.one (.pv (.int .i64 i))))), (7, (.av (.one (.pv (.bool (decide ((i : Int) < 4)))))))], [], [(0, (.live (.ints .u8 l)))]⟩), [
    (decide ((i : Int) < 4)) = false]) := by kernel_rfl

theorem f39_fn (l : List Int) (n : Int) : evFn Try.prog cfg (Runs Try.prog) (LRuns Try.prog (lEnv Try.prog cfg 39 0).nt 0) 39 [(.one (.pv (.ints .u8 l true))), (.one (.pv (.int .u32 n)))] [] []
    [.lp (.exit 0) ⟨[(0, (.av (.one (.own 0 0 (l.length + 4) false)))), (1, (.av (.one (.pv (.int .u32 n))))), (6, (.av (.one (.pv (.int .i64 4))))), (7, (.av (.one (.pv (.bool (decide ((4 : Int) < 4)))))))], [], [(0, (.live (.ints .u8 (l ++ four4 n))))]⟩] =
  some (([(.one (.own 0 0 (l.length + 4) false))], [], [(.ints .u8 (l ++ four4 n))]), [
    LRuns Try.prog (lEnv Try.prog cfg 39 0).nt 0 (.loop (loopAt Try.prog 39 0)) ⟨[(0, (.av (.one (.pv (.ints .u8 l true))))), (1, (.av (.one (.pv (.int .u32 n))))), (6, (.av (.one (.pv (.int .i64 0)))))], [], []⟩ (.exit 0) ⟨[(0, (.av (.one (.own 0 0 (l.length + 4) false)))), (1, (.av (.one (.pv (.int .u32 n))))), (6, (.av (.one (.pv (.int .i64 4))))), (7, (.av (.one (.pv (.bool (decide ((4 : Int) < 4)))))))], [], [(0, (.live (.ints .u8 (l ++ four4 n))))]⟩]) := by kernel_rfl

theorem f40_fn (n : Int) : evFn Try.prog cfg (Runs Try.prog) (LRuns Try.prog (lEnv Try.prog cfg 40 0).nt 0) 40 [(.one (.pv (.int .u32 n)))] [] []
    [] =
  some (([(.one (.own 0 0 4 true))], [], [(.ints .u8 [(IntKind.u8.wrap n), (IntKind.u8.wrap (iquo .u32 n 256)), (IntKind.u8.wrap (iquo .u32 n 65536)), (IntKind.u8.wrap (iquo .u32 n 16777216))])]), [
    true = true,
    true = true,
    true = true]) := by kernel_rfl

theorem f38_fn (l : List Int) (t : Bool) : evFn Try.prog cfg (Runs Try.prog) (LRuns Try.prog (lEnv Try.prog cfg 38 0).nt 0) 38 [(.one (.pv (.ints .u8 l t)))] [] []
    [] =
  some (([(.one (.pv (.int .u32 (iadd .u32 (iadd .u32 (iadd .u32 (IntKind.u32.wrap (l.getD 0 0)) (imul .u32 256 (IntKind.u32.wrap (l.getD 1 0)))) (imul .u32 65536 (IntKind.u32.wrap (l.getD 2 0)))) (imul .u32 16777216 (IntKind.u32.wrap (l.getD 3 0)))))))], [], []), [
    (decide ((0 : Int) ≤ 0) && decide ((0 : Int) < ((l).length : Int))) = true,
    (decide ((0 : Int) ≤ 1) && decide ((1 : Int) < ((l).length : Int))) = true,
    (decide ((0 : Int) ≤ 2) && decide ((2 : Int) < ((l).length : Int))) = true,
    (decide ((0 : Int) ≤ 3) && decide ((3 : Int) < ((l).length : Int))) = true]) := by kernel_rfl

theorem f10_all (l : List Int) (t : Bool) (k : Int) : evFn Try.prog cfg (Runs Try.prog) (LRuns Try.prog (lEnv Try.prog cfg 10 0).nt 0) 10 [(.one (.bor (.ints .u8 l t))), (.one (.pv (.int .i64 k)))] [] []
    [.br false] =
  some (([(.one (.own 0 0 (([] ++ (List.take ((if (k : Int) < ((l).length : Int) then k else ((l).length : Int)) - 0).toNat l))).length false))], [], [(.ints .u8 ([] ++ (List.take ((if (k : Int) < ((l).length : Int) then k else ((l).length : Int)) - 0).toNat l)))]), [
    (decide ((0 : Int) ≤ 0) && decide ((0 : Int) ≤ (if (k : Int) < ((l).length : Int) then k else ((l).length : Int))) && decide (((if (k : Int) < ((l).length : Int) then k else ((l).length : Int)) : Int) ≤ ((l).length : Int)) && decide (((if (k : Int) < ((l).length : Int) then k else ((l).length : Int)) : Int) = (if (k : Int) < ((l).length : Int) then k else ((l).length : Int)))) = true,
    (!(Nat.beq ((List.take ((if (k : Int) < ((l).length : Int) then k else ((l).length : Int)) - 0).toNat l)).length 0)) = true,
    (fits (([] ++ (List.take ((if (k : Int) < ((l).length : Int) then k else ((l).length : Int)) - 0).toNat l))).length) = true]) := by kernel_rfl

theorem f10_none (l : List Int) (t : Bool) (k : Int) : evFn Try.prog cfg (Runs Try.prog) (LRuns Try.prog (lEnv Try.prog cfg 10 0).nt 0) 10 [(.one (.bor (.ints .u8 l t))), (.one (.pv (.int .i64 k)))] [] []
    [.br true] =
  some (([(.one (.own 0 0 0 false))], [], [(.ints .u8 [])]), [
    (decide ((0 : Int) ≤ 0) && decide ((0 : Int) ≤ (if (k : Int) < ((l).length : Int) then k else ((l).length : Int))) && decide (((if (k : Int) < ((l).length : Int) then k else ((l).length : Int)) : Int) ≤ ((l).length : Int)) && decide (((if (k : Int) < ((l).length : Int) then k else ((l).length : Int)) : Int) = (if (k : Int) < ((l).length : Int) then k else ((l).length : Int)))) = true,
    (Nat.beq ((List.take ((if (k : Int) < ((l).length : Int) then k else ((l).length : Int)) - 0).toNat l)).length 0) = true]) := by kernel_rfl

theorem f15_len (l m : List Int) (t u : Bool) : evFn Try.prog cfg (Runs Try.prog) (LRuns Try.prog (lEnv Try.prog cfg 15 0).nt 0) 15 [(.one (.bor (.ints .u8 l t))), (.one (.bor (.ints .u8 m u)))] [] []
    [.br true] =
  some (([(.one (.pv (.bool false)))], [], []), [
    (!(decide ((((l).length : Int) : Int) = ((m).length : Int)))) = true]) := by kernel_rfl

abbrev S15 (l m : List Int) (t u : Bool) (i : Int) : St := ⟨[(0, (.av (.one (.bor (.ints .u8 l t))))), (1, (.av (.one (.bor (.ints .u8 m u))))), (12, (.av (.one (.pv (.int .i64 ((l).length : Int)))))), (13, (.av (.one (.pv (.int .i64 i)))))], [], []⟩

abbrev E15 (l m : List Int) (t u : Bool) (i : Int) : St := ⟨[(0, (.av (.one (.bor (.ints .u8 l t))))), (1, (.av (.one (.bor (.ints .u8 m u))))), (12, (.av (.one (.pv (.int .i64 ((l).length : Int)))))), (13, (.av (.one (.pv (.int .i64 i))))), (14, (.av (.one (.pv (.bool (decide (i < ((l).length : Int))))))))], [], []⟩

theorem f15_round (l m : List Int) (t u : Bool) (i : Int) : evRound (lEnv Try.prog cfg 15 0) (loopAt Try.prog 15 0) ⟨[(0, (.av (.one (.bor (.ints .u8 l t))))), (1, (.av (.one (.bor (.ints .u8 m u))))), (12, (.av (.one (.pv (.int .i64 ((l).length : Int)))))), (13, (.av (.one (.pv (.int .i64 i)))))], [], []⟩
    [.br true, .br false] =
  some ((.normal, ⟨[(0, (.av (.one (.bor (.ints .u8 l t))))), (1, (.av (.one (.bor (.ints .u8 m u))))), (12, (.av (.one (.pv (.int .i64 ((l).length : Int)))))), (13, (.av (.one (.pv (.int .i64 (iadd .i64 i 1))))))], [], []⟩), [
    (decide ((i : Int) < ((l).length : Int))) = true,
    (decide ((0 : Int) ≤ i) && decide ((i : Int) < ((l).length : Int))) = true,
    (decide ((0 : Int) ≤ i) && decide ((i : Int) < ((m).length : Int))) = true,
    (!(decide (((l.getD (i).toNat 0) : Int) = (m.getD (i).toNat 0)))) = false]) := by kernel_rfl

theorem f15_not (l m : List Int) (t u : Bool) (i : Int) : evRound (lEnv Try.prog cfg 15 0) (loopAt Try.prog 15 0) ⟨[(0, (.av (.one (.bor (.ints .u8 l t))))), (1, (.av (.one (.bor (.ints .u8 m u))))), (12, (.av (.one (.pv (.int .i64 ((l).length : Int)))))), (13, (.av (.one (.pv (.int .i64 i)))))], [], []⟩
    [.br true, .br true] =
  some ((.ret, ⟨[(4, (.av (.one (.pv (.bool false)))))], [], []⟩), [
    (decide ((i : Int) < ((l).length : Int))) = true,
    (decide ((0 : Int) ≤ i) && decide ((i : Int) < ((l).length : Int))) = true,
    (decide ((0 : Int) ≤ i) && decide ((i : Int) < ((m).length : Int))) = true,
    (!(decide (((l.getD (i).toNat 0) : Int) = (m.getD (i).toNat 0)))) = true]) := by kernel_rfl

theorem f15_out (l m : List Int) (t u : Bool) (i : Int) : evRound (lEnv Try.prog cfg 15 0) (loopAt Try.prog 15 0) ⟨[(0, (.av (.one (.bor (.ints .u8 l t))))), (1, (.av (.one (.bor (.ints .u8 m u))))), (12, (.av (.one (.pv (.int .i64 ((l).length : Int)))))), (13, (.av (.one (.pv (.int .i64 i)))))], [], []⟩
    [.br false] =
  some (((.exit 0), ⟨[(0, (.av (.one (.bor (.ints .u8 l t))))), (1, (.av (.one (.bor (.ints .u8 m u))))), (12, (.av (.one (.pv (.int .i64 ((l).length : Int)))))), (13, (.av (.one (.pv (.int .i64 i))))), (14, (.av (.one (.pv (.bool (decide ((i : Int) < ((l).length : Int))))))))], [], []⟩), [
    (decide ((i : Int) < ((l).length : Int))) = false]) := by kernel_rfl

theorem f15_same (l m : List Int) (t u : Bool) : evFn Try.prog cfg (Runs Try.prog) (LRuns Try.prog (lEnv Try.prog cfg 15 0).nt 0) 15 [(.one (.bor (.ints .u8 l t))), (.one (.bor (.ints .u8 m u)))] [] []
    [.br false, .lp (.exit 0) ⟨[(0, (.av (.one (.bor (.ints .u8 l t))))), (1, (.av (.one (.bor (.ints .u8 m u))))), (12, (.av (.one (.pv (.int .i64 ((l).length : Int)))))), (13, (.av (.one (.pv (.int .i64 ((l).length : Int)))))), (14, (.av (.one (.pv (.bool (decide (((l).length : Int) < ((l).length : Int))))))))], [], []⟩] =
  some (([(.one (.pv (.bool true)))], [], []), [
    (!(decide ((((l).length : Int) : Int) = ((m).length : Int)))) = false,
    LRuns Try.prog (lEnv Try.prog cfg 15 0).nt 0 (.loop (loopAt Try.prog 15 0)) ⟨[(0, (.av (.one (.bor (.ints .u8 l t))))), (1, (.av (.one (.bor (.ints .u8 m u))))), (12, (.av (.one (.pv (.int .i64 ((l).length : Int)))))), (13, (.av (.one (.pv (.int .i64 0)))))], [], []⟩ (.exit 0) ⟨[(0, (.av (.one (.bor (.ints .u8 l t))))), (1, (.av (.one (.bor (.ints .u8 m u))))), (12, (.av (.one (.pv (.int .i64 ((l).length : Int)))))), (13, (.av (.one (.pv (.int .i64 ((l).length : Int)))))), (14, (.av (.one (.pv (.bool (decide (((l).length : Int) < ((l).length : Int))))))))], [], []⟩]) := by kernel_rfl

theorem f15_diff (l m : List Int) (t u : Bool) : evFn Try.prog cfg (Runs Try.prog) (LRuns Try.prog (lEnv Try.prog cfg 15 0).nt 0) 15 [(.one (.bor (.ints .u8 l t))), (.one (.bor (.ints .u8 m u)))] [] []
    [.br false, .lp .ret ⟨[(4, (.av (.one (.pv (.bool false)))))], [], []⟩] =
  some (([(.one (.pv (.bool false)))], [], []), [
    (!(decide ((((l).length : Int) : Int) = ((m).length : Int)))) = false,
    LRuns Try.prog (lEnv Try.prog cfg 15 0).nt 0 (.loop (loopAt Try.prog 15 0)) ⟨[(0, (.av (.one (.bor (.ints .u8 l t))))), (1, (.av (.one (.bor (.ints .u8 m u))))), (12, (.av (.one (.pv (.int .i64 ((l).length : Int)))))), (13, (.av (.one (.pv (.int .i64 0)))))], [], []⟩ .ret ⟨[(4, (.av (.one (.pv (.bool false)))))], [], []⟩]) := by kernel_rfl

theorem f37_nil  : evFn Try.prog cfg (Runs Try.prog) (LRuns Try.prog (lEnv Try.prog cfg 37 0).nt 0) 37 [(.one (.pv .nils))] [] []
    [.br true] =
  some (([(.one (.pv .nils))], [], []), [
    true = true]) := by kernel_rfl

theorem f37_emp  : evFn Try.prog cfg (Runs Try.prog) (LRuns Try.prog (lEnv Try.prog cfg 37 0).nt 0) 37 [(.one (.pv .emp))] [] []
    [.br false, .br true] =
  some (([(.one (.own 0 0 0 false))], [], [(.ints .u8 [])]), [
    false = false,
    true = true]) := by kernel_rfl

theorem f37_fn (l : List Int) (t : Bool) : evFn Try.prog cfg (Runs Try.prog) (LRuns Try.prog (lEnv Try.prog cfg 37 0).nt 0) 37 [(.one (.pv (.ints .u8 l t)))] [] []
    [.br false, .br false] =
  some (([(.one (.own 0 0 (([] ++ l)).length false))], [], [(.ints .u8 ([] ++ l))]), [
    (!(Nat.beq (l).length 0)) = true,
    false = false,
    (!(Nat.beq (l).length 0)) = true,
    (fits (([] ++ l)).length) = true]) := by kernel_rfl

abbrev S33n (ls : List (List Int × Bool)) (i : Int) : St := ⟨[(3, (.av (.one (.pv .nils)))), (6, (.av (.one (.pv (.recs 1 (ls.map ent) true))))), (7, (.av (.one (.pv (.int .i64 ((ls.map ent).length : Int)))))), (8, (.av (.one (.pv (.int .i64 i)))))], [], []⟩

abbrev S33 (ls : List (List Int × Bool)) (l : List Int) (i : Int) : St := ⟨[(3, (.av (.one (.own 0 0 l.length false)))), (6, (.av (.one (.pv (.recs 1 (ls.map ent) true))))), (7, (.av (.one (.pv (.int .i64 ((ls.map ent).length : Int)))))), (8, (.av (.one (.pv (.int .i64 i)))))], [], [(0, (.live (.ints .u8 l)))]⟩

abbrev E33n (ls : List (List Int × Bool)) (i : Int) : St := ⟨[(3, (.av (.one (.pv .nils)))), (6, (.av (.one (.pv (.recs 1 (ls.map ent) true))))), (7, (.av (.one (.pv (.int .i64 ((ls.map ent).length : Int)))))), (8, (.av (.one (.pv (.int .i64 i))))), (9, (.av (.one (.pv (.bool (decide (i < ((ls.map ent).length : Int))))))))], [], []⟩

abbrev E33 (ls : List (List Int × Bool)) (l : List Int) (i : Int) : St := ⟨[(3, (.av (.one (.own 0 0 l.length false)))), (6, (.av (.one (.pv (.recs 1 (ls.map ent) true))))), (7, (.av (.one (.pv (.int .i64 ((ls.map ent).length : Int)))))), (8, (.av (.one (.pv (.int .i64 i))))), (9, (.av (.one (.pv (.bool (decide (i < ((ls.map ent).length : Int))))))))], [], [(0, (.live (.ints .u8 l)))]⟩

theorem f33_nn (ls : List (List Int × Bool)) (a : List Int) (ta : Bool) (i : Int) : evRound (lEnv Try.prog cfg 33 0) (loopAt Try.prog 33 0) ⟨[(3, (.av (.one (.pv .nils)))), (6, (.av (.one (.pv (.recs 1 (ls.map ent) true))))), (7, (.av (.one (.pv (.int .i64 ((ls.map ent).length : Int)))))), (8, (.av (.one (.pv (.int .i64 i)))))], [], []⟩
    [.br true, .el [(.ints .u8 a ta)], .br false] =
  some ((.normal, ⟨[(3, (.av (.one (.own 0 0 (([] ++ a)).length false)))), (6, (.av (.one (.pv (.recs 1 (ls.map ent) true))))), (7, (.av (.one (.pv (.int .i64 ((ls.map ent).length : Int)))))), (8, (.av (.one (.pv (.int .i64 (iadd .i64 i 1))))))], [], [(0, (.live (.ints .u8 ([] ++ a))))]⟩), [
    (decide ((i : Int) < ((ls.map ent).length : Int))) = true,
    (decide ((0 : Int) ≤ i) && decide ((i : Int) < (((ls.map ent)).length : Int))) = true,
    (ls.map ent).getD (i).toNat [] = [(.ints .u8 a ta)],
    (!(Nat.beq (a).length 0)) = true,
    (fits (([] ++ a)).length) = true]) := by kernel_rfl

theorem f33_ne (ls : List (List Int × Bool)) (a : List Int) (ta : Bool) (i : Int) : evRound (lEnv Try.prog cfg 33 0) (loopAt Try.prog 33 0) ⟨[(3, (.av (.one (.pv .nils)))), (6, (.av (.one (.pv (.recs 1 (ls.map ent) true))))), (7, (.av (.one (.pv (.int .i64 ((ls.map ent).length : Int)))))), (8, (.av (.one (.pv (.int .i64 i)))))], [], []⟩
    [.br true, .el [(.ints .u8 a ta)], .br true] =
  some ((.normal, ⟨[(3, (.av (.one (.pv .nils)))), (6, (.av (.one (.pv (.recs 1 (ls.map ent) true))))), (7, (.av (.one (.pv (.int .i64 ((ls.map ent).length : Int)))))), (8, (.av (.one (.pv (.int .i64 (iadd .i64 i 1))))))], [], []⟩), [
    (decide ((i : Int) < ((ls.map ent).length : Int))) = true,
    (decide ((0 : Int) ≤ i) && decide ((i : Int) < (((ls.map ent)).length : Int))) = true,
    (ls.map ent).getD (i).toNat [] = [(.ints .u8 a ta)],
    (Nat.beq (a).length 0) = true]) := by kernel_rfl

theorem f33_b (ls : List (List Int × Bool)) (l a : List Int) (ta : Bool) (i : Int) : evRound (lEnv Try.prog cfg 33 0) (loopAt Try.prog 33 0) ⟨[(3, (.av (.one (.own 0 0 l.length false)))), (6, (.av (.one (.pv (.recs 1 (ls.map ent) true))))), (7, (.av (.one (.pv (.int .i64 ((ls.map ent).length : Int)))))), (8, (.av (.one (.pv (.int .i64 i)))))], [], [(0, (.live (.ints .u8 l)))]⟩
    [.br true, .el [(.ints .u8 a ta)]] =
  some ((.normal, ⟨[(3, (.av (.one (.own 0 0 (l.length + (a).length) false)))), (6, (.av (.one (.pv (.recs 1 (ls.map ent) true))))), (7, (.av (.one (.pv (.int .i64 ((ls.map ent).length : Int)))))), (8, (.av (.one (.pv (.int .i64 (iadd .i64 i 1))))))], [], [(0, (.live (.ints .u8 (l ++ a))))]⟩), [
    (decide ((i : Int) < ((ls.map ent).length : Int))) = true,
    (decide ((0 : Int) ≤ i) && decide ((i : Int) < (((ls.map ent)).length : Int))) = true,
    (ls.map ent).getD (i).toNat [] = [(.ints .u8 a ta)],
    (Nat.beq l.length (l).length) = true,
    (fits ((l ++ a)).length) = true]) := by kernel_rfl

theorem f33_on (ls : List (List Int × Bool)) (i : Int) : evRound (lEnv Try.prog cfg 33 0) (loopAt Try.prog 33 0) ⟨[(3, (.av (.one (.pv .nils)))), (6, (.av (.one (.pv (.recs 1 (ls.map ent) true))))), (7, (.av (.one (.pv (.int .i64 ((ls.map ent).length : Int)))))), (8, (.av (.one (.pv (.int .i64 i)))))], [], []⟩
    [.br false] =
  some (((.exit 0), ⟨[(3, (.av (.one (.pv .nils)))), (6, (.av (.one (.pv (.recs 1 (ls.map ent) true))))), (7, (.av (.one (.pv (.int .i64 ((ls.map ent).length : Int)))))), (8, (.av (.one (.pv (.int .i64 i))))), (9, (.av (.one (.pv (.bool (decide ((i : Int) < ((ls.map ent).length : Int))))))))], [], []⟩), [
    (decide ((i : Int) < ((ls.map ent).length : Int))) = false]) := by kernel_rfl

theorem f33_ob (ls : List (List Int × Bool)) (l : List Int) (i : Int) : evRound (lEnv Try.prog cfg 33 0) (loopAt Try.prog 33 0) ⟨[(3, (.av (.one (.own 0 0 l.length false)))), (6, (.av (.one (.pv (.recs 1 (ls.map ent) true))))), (7, (.av (.one (.pv (.int .i64 ((ls.map ent).length : Int)))))), (8, (.av (.one (.pv (.int .i64 i)))))], [], [(0, (.live (.ints .u8 l)))]⟩
    [.br false] =
  some (((.exit 0), ⟨[(3, (.av (.one (.own 0 0 l.length false)))), (6, (.av (.one (.pv (.recs 1 (ls.map ent) true))))), (7, (.av (.one (.pv (.int .i64 ((ls.map ent).length : Int)))))), (8, (.av (.one (.pv (.int .i64 i))))), (9, (.av (.one (.pv (.bool (decide ((i : Int) < ((ls.map ent).length : Int))))))))], [], [(0, (.live (.ints .u8 l)))]⟩), [
    (decide ((i : Int) < ((ls.map ent).length : Int))) = false]) := by kernel_rfl

theorem f33_fn (ls : List (List Int × Bool)) : evFn Try.prog cfg (Runs Try.prog) (LRuns Try.prog (lEnv Try.prog cfg 33 0).nt 0) 33 [(.one (.pv (.recs 1 (ls.map ent) true)))] [] []
    [.lp (.exit 0) ⟨[(3, (.av (.one (.pv .nils)))), (6, (.av (.one (.pv (.recs 1 (ls.map ent) true))))), (7, (.av (.one (.pv (.int .i64 ((ls.map ent).length : Int)))))), (8, (.av (.one (.pv (.int .i64 ((ls.map ent).length : Int)))))), (9, (.av (.one (.pv (.bool (decide (((ls.map ent).length : Int) < ((ls.map ent).length : Int))))))))], [], []⟩] =
  some (([(.one (.pv .nils))], [], []), [
    LRuns Try.prog (lEnv Try.prog cfg 33 0).nt 0 (.loop (loopAt Try.prog 33 0)) ⟨[(3, (.av (.one (.pv .nils)))), (6, (.av (.one (.pv (.recs 1 (ls.map ent) true))))), (7, (.av (.one (.pv (.int .i64 (((ls.map ent)).length : Int)))))), (8, (.av (.one (.pv (.int .i64 0)))))], [], []⟩ (.exit 0) ⟨[(3, (.av (.one (.pv .nils)))), (6, (.av (.one (.pv (.recs 1 (ls.map ent) true))))), (7, (.av (.one (.pv (.int .i64 ((ls.map ent).length : Int)))))), (8, (.av (.one (.pv (.int .i64 ((ls.map ent).length : Int)))))), (9, (.av (.one (.pv (.bool (decide (((ls.map ent).length : Int) < ((ls.map ent).length : Int))))))))], [], []⟩]) := by kernel_rfl

theorem f33_fb (ls : List (List Int × Bool)) (l : List Int) : evFn Try.prog cfg (Runs Try.prog) (LRuns Try.prog (lEnv Try.prog cfg 33 0).nt 0) 33 [(.one (.pv (.recs 1 (ls.map ent) true)))] [] []
    [.lp (.exit 0) ⟨[(3, (.av (.one (.own 0 0 l.length false)))), (6, (.av (.one (.pv (.recs 1 (ls.map ent) true))))), (7, (.av (.one (.pv (.int .i64 ((ls.map ent).length : Int)))))), (8, (.av (.one (.pv (.int .i64 ((ls.map ent).length : Int)))))), (9, (.av (.one (.pv (.bool (decide (((ls.map ent).length : Int) < ((ls.map ent).length : Int))))))))], [], [(0, (.live (.ints .u8 l)))]⟩] =
  some (([(.one (.own 0 0 l.length false))], [], [(.ints .u8 l)]), [
    LRuns Try.prog (lEnv Try.prog cfg 33 0).nt 0 (.loop (loopAt Try.prog 33 0)) ⟨[(3, (.av (.one (.pv .nils)))), (6, (.av (.one (.pv (.recs 1 (ls.map ent) true))))), (7, (.av (.one (.pv (.int .i64 (((ls.map ent)).length : Int)))))), (8, (.av (.one (.pv (.int .i64 0)))))], [], []⟩ (.exit 0) ⟨[(3, (.av (.one (.own 0 0 l.length false)))), (6, (.av (.one (.pv (.recs 1 (ls.map ent) true))))), (7, (.av (.one (.pv (.int .i64 ((ls.map ent).length : Int)))))), (8, (.av (.one (.pv (.int .i64 ((ls.map ent).length : Int)))))), (9, (.av (.one (.pv (.bool (decide (((ls.map ent).length : Int) < ((ls.map ent).length : Int))))))))], [], [(0, (.live (.ints .u8 l)))]⟩]) := by kernel_rfl

end Go.Proofs.Ytecblpgljmbpeaa
