/- What functions compute, and that they do. -/
import Derived.Test.YtecblpgljmbpeaaA3
set_option linter.unusedVariables false
set_option linter.unusedSimpArgs false
namespace Go.Proofs.Ytecblpgljmbpeaa
open Go.Ev

/-! ### kinfolkref06_number -/
def kinfolkref06_number_out (p : List Int) (at_ : Int) : Int × Int → Res
  | (r1, r2) => ([(.one (.pv (.int .u64 r1))), (.one (.pv (.int .i64 r2)))], [], [])
theorem kinfolkref06_number_p0 (p : List Int) (at_ : Int) (n : Int) : evFn Try.prog cfg (Runs Try.prog) (LRuns Try.prog (lEnv Try.prog cfg 41 0).nt 0) 41 [(.one (.pv (.ints .u8 p false))), (.one (.pv (.int .i64 at_)))] [] []
    [.lp (.exit 0) ⟨[(0, (.av (.one (.pv (.ints .u8 p false))))), (1, (.av (.one (.pv (.int .i64 at_))))), (6, (.av (.one (.pv (.int .i64 n)))))], [], []⟩, .br true, .br true, .br true] =
  some (([(.one (.pv (.int .u64 0))), (.one (.pv (.int .i64 0)))], [], []), [
    LRuns Try.prog (lEnv Try.prog cfg 41 0).nt 0 (.loop (loopAt Try.prog 41 0)) ⟨[(0, (.av (.one (.pv (.ints .u8 p false))))), (1, (.av (.one (.pv (.int .i64 at_))))), (6, (.av (.one (.pv (.int .i64 at_)))))], [], []⟩ (.exit 0) ⟨[(0, (.av (.one (.pv (.ints .u8 p false))))), (1, (.av (.one (.pv (.int .i64 at_))))), (6, (.av (.one (.pv (.int .i64 n)))))], [], []⟩,
    (decide ((((p).length : Int) : Int) ≤ n)) = true,
    true = true,
    true = true]) := by kernel_rfl
theorem kinfolkref06_number_p1 (p : List Int) (at_ : Int) (n : Int) : evFn Try.prog cfg (Runs Try.prog) (LRuns Try.prog (lEnv Try.prog cfg 41 0).nt 0) 41 [(.one (.pv (.ints .u8 p false))), (.one (.pv (.int .i64 at_)))] [] []
    [.lp (.exit 0) ⟨[(0, (.av (.one (.pv (.ints .u8 p false))))), (1, (.av (.one (.pv (.int .i64 at_))))), (6, (.av (.one (.pv (.int .i64 n)))))], [], []⟩, .br false, .br true, .br true, .br true] =
  some (([(.one (.pv (.int .u64 0))), (.one (.pv (.int .i64 0)))], [], []), [
    LRuns Try.prog (lEnv Try.prog cfg 41 0).nt 0 (.loop (loopAt Try.prog 41 0)) ⟨[(0, (.av (.one (.pv (.ints .u8 p false))))), (1, (.av (.one (.pv (.int .i64 at_))))), (6, (.av (.one (.pv (.int .i64 at_)))))], [], []⟩ (.exit 0) ⟨[(0, (.av (.one (.pv (.ints .u8 p false))))), (1, (.av (.one (.pv (.int .i64 at_))))), (6, (.av (.one (.pv (.int .i64 n)))))], [], []⟩,
    (decide ((((p).length : Int) : Int) ≤ n)) = false,
    (decide ((n : Int) = (iadd .i64 at_ 9))) = true,
    (decide ((0 : Int) ≤ n) && decide ((n : Int) < ((p).length : Int))) = true,
    (decide ((1 : Int) < (p.getD (n).toNat 0))) = true,
    true = true]) := by kernel_rfl
theorem kinfolkref06_number_p2 (p : List Int) (at_ : Int) (n : Int) : evFn Try.prog cfg (Runs Try.prog) (LRuns Try.prog (lEnv Try.prog cfg 41 0).nt 0) 41 [(.one (.pv (.ints .u8 p false))), (.one (.pv (.int .i64 at_)))] [] []
    [.lp (.exit 0) ⟨[(0, (.av (.one (.pv (.ints .u8 p false))))), (1, (.av (.one (.pv (.int .i64 at_))))), (6, (.av (.one (.pv (.int .i64 n)))))], [], []⟩, .br false, .br true, .br false, .br true, .br true] =
  some (([(.one (.pv (.int .u64 0))), (.one (.pv (.int .i64 0)))], [], []), [
    LRuns Try.prog (lEnv Try.prog cfg 41 0).nt 0 (.loop (loopAt Try.prog 41 0)) ⟨[(0, (.av (.one (.pv (.ints .u8 p false))))), (1, (.av (.one (.pv (.int .i64 at_))))), (6, (.av (.one (.pv (.int .i64 at_)))))], [], []⟩ (.exit 0) ⟨[(0, (.av (.one (.pv (.ints .u8 p false))))), (1, (.av (.one (.pv (.int .i64 at_))))), (6, (.av (.one (.pv (.int .i64 n)))))], [], []⟩,
    (decide ((((p).length : Int) : Int) ≤ n)) = false,
    (decide ((n : Int) = (iadd .i64 at_ 9))) = true,
    (decide ((0 : Int) ≤ n) && decide ((n : Int) < ((p).length : Int))) = true,
    (decide ((1 : Int) < (p.getD (n).toNat 0))) = false,
    (decide ((at_ : Int) < n)) = true,
    (decide ((0 : Int) ≤ n) && decide ((n : Int) < ((p).length : Int))) = true,
    (decide (((p.getD (n).toNat 0) : Int) = 0)) = true]) := by kernel_rfl
theorem kinfolkref06_number_p3 (p : List Int) (at_ : Int) (n : Int) (n2 : Int) : evFn Try.prog cfg (Runs Try.prog) (LRuns Try.prog (lEnv Try.prog cfg 41 0).nt 0) 41 [(.one (.pv (.ints .u8 p false))), (.one (.pv (.int .i64 at_)))] [] []
    [.lp (.exit 0) ⟨[(0, (.av (.one (.pv (.ints .u8 p false))))), (1, (.av (.one (.pv (.int .i64 at_))))), (6, (.av (.one (.pv (.int .i64 n)))))], [], []⟩, .br false, .br true, .br false, .br true, .br false, .lp (.exit 2) ⟨[(1, (.av (.one (.pv (.int .i64 at_))))), (6, (.av (.one (.pv (.int .i64 n))))), (7, (.av (.one (.pv (.int .u64 n2)))))], [], []⟩] =
  some (([(.one (.pv (.int .u64 n2))), (.one (.pv (.int .i64 (iadd .i64 (isub .i64 n at_) 1))))], [], []), [
    LRuns Try.prog (lEnv Try.prog cfg 41 0).nt 0 (.loop (loopAt Try.prog 41 0)) ⟨[(0, (.av (.one (.pv (.ints .u8 p false))))), (1, (.av (.one (.pv (.int .i64 at_))))), (6, (.av (.one (.pv (.int .i64 at_)))))], [], []⟩ (.exit 0) ⟨[(0, (.av (.one (.pv (.ints .u8 p false))))), (1, (.av (.one (.pv (.int .i64 at_))))), (6, (.av (.one (.pv (.int .i64 n)))))], [], []⟩,
    (decide ((((p).length : Int) : Int) ≤ n)) = false,
    (decide ((n : Int) = (iadd .i64 at_ 9))) = true,
    (decide ((0 : Int) ≤ n) && decide ((n : Int) < ((p).length : Int))) = true,
    (decide ((1 : Int) < (p.getD (n).toNat 0))) = false,
    (decide ((at_ : Int) < n)) = true,
    (decide ((0 : Int) ≤ n) && decide ((n : Int) < ((p).length : Int))) = true,
    (decide (((p.getD (n).toNat 0) : Int) = 0)) = false,
    LRuns Try.prog (lEnv Try.prog cfg 41 0).nt 0 (.loop (loopAt Try.prog 41 1)) ⟨[(0, (.av (.one (.pv (.ints .u8 p false))))), (1, (.av (.one (.pv (.int .i64 at_))))), (6, (.av (.one (.pv (.int .i64 n))))), (7, (.av (.one (.pv (.int .u64 0))))), (8, (.av (.one (.pv (.int .i64 n)))))], [], []⟩ (.exit 2) ⟨[(1, (.av (.one (.pv (.int .i64 at_))))), (6, (.av (.one (.pv (.int .i64 n))))), (7, (.av (.one (.pv (.int .u64 n2)))))], [], []⟩]) := by kernel_rfl
theorem kinfolkref06_number_p4 (p : List Int) (at_ : Int) (n : Int) (n2 : Int) : evFn Try.prog cfg (Runs Try.prog) (LRuns Try.prog (lEnv Try.prog cfg 41 0).nt 0) 41 [(.one (.pv (.ints .u8 p false))), (.one (.pv (.int .i64 at_)))] [] []
    [.lp (.exit 0) ⟨[(0, (.av (.one (.pv (.ints .u8 p false))))), (1, (.av (.one (.pv (.int .i64 at_))))), (6, (.av (.one (.pv (.int .i64 n)))))], [], []⟩, .br false, .br true, .br false, .br false, .br false, .lp (.exit 2) ⟨[(1, (.av (.one (.pv (.int .i64 at_))))), (6, (.av (.one (.pv (.int .i64 n))))), (7, (.av (.one (.pv (.int .u64 n2)))))], [], []⟩] =
  some (([(.one (.pv (.int .u64 n2))), (.one (.pv (.int .i64 (iadd .i64 (isub .i64 n at_) 1))))], [], []), [
    LRuns Try.prog (lEnv Try.prog cfg 41 0).nt 0 (.loop (loopAt Try.prog 41 0)) ⟨[(0, (.av (.one (.pv (.ints .u8 p false))))), (1, (.av (.one (.pv (.int .i64 at_))))), (6, (.av (.one (.pv (.int .i64 at_)))))], [], []⟩ (.exit 0) ⟨[(0, (.av (.one (.pv (.ints .u8 p false))))), (1, (.av (.one (.pv (.int .i64 at_))))), (6, (.av (.one (.pv (.int .i64 n)))))], [], []⟩,
    (decide ((((p).length : Int) : Int) ≤ n)) = false,
    (decide ((n : Int) = (iadd .i64 at_ 9))) = true,
    (decide ((0 : Int) ≤ n) && decide ((n : Int) < ((p).length : Int))) = true,
    (decide ((1 : Int) < (p.getD (n).toNat 0))) = false,
    (decide ((at_ : Int) < n)) = false,
    false = false,
    LRuns Try.prog (lEnv Try.prog cfg 41 0).nt 0 (.loop (loopAt Try.prog 41 1)) ⟨[(0, (.av (.one (.pv (.ints .u8 p false))))), (1, (.av (.one (.pv (.int .i64 at_))))), (6, (.av (.one (.pv (.int .i64 n))))), (7, (.av (.one (.pv (.int .u64 0))))), (8, (.av (.one (.pv (.int .i64 n)))))], [], []⟩ (.exit 2) ⟨[(1, (.av (.one (.pv (.int .i64 at_))))), (6, (.av (.one (.pv (.int .i64 n))))), (7, (.av (.one (.pv (.int .u64 n2)))))], [], []⟩]) := by kernel_rfl
theorem kinfolkref06_number_p5 (p : List Int) (at_ : Int) (n : Int) : evFn Try.prog cfg (Runs Try.prog) (LRuns Try.prog (lEnv Try.prog cfg 41 0).nt 0) 41 [(.one (.pv (.ints .u8 p false))), (.one (.pv (.int .i64 at_)))] [] []
    [.lp (.exit 0) ⟨[(0, (.av (.one (.pv (.ints .u8 p false))))), (1, (.av (.one (.pv (.int .i64 at_))))), (6, (.av (.one (.pv (.int .i64 n)))))], [], []⟩, .br false, .br false, .br false, .br true, .br true] =
  some (([(.one (.pv (.int .u64 0))), (.one (.pv (.int .i64 0)))], [], []), [
    LRuns Try.prog (lEnv Try.prog cfg 41 0).nt 0 (.loop (loopAt Try.prog 41 0)) ⟨[(0, (.av (.one (.pv (.ints .u8 p false))))), (1, (.av (.one (.pv (.int .i64 at_))))), (6, (.av (.one (.pv (.int .i64 at_)))))], [], []⟩ (.exit 0) ⟨[(0, (.av (.one (.pv (.ints .u8 p false))))), (1, (.av (.one (.pv (.int .i64 at_))))), (6, (.av (.one (.pv (.int .i64 n)))))], [], []⟩,
    (decide ((((p).length : Int) : Int) ≤ n)) = false,
    (decide ((n : Int) = (iadd .i64 at_ 9))) = false,
    false = false,
    (decide ((at_ : Int) < n)) = true,
    (decide ((0 : Int) ≤ n) && decide ((n : Int) < ((p).length : Int))) = true,
    (decide (((p.getD (n).toNat 0) : Int) = 0)) = true]) := by kernel_rfl
theorem kinfolkref06_number_p6 (p : List Int) (at_ : Int) (n : Int) (n2 : Int) : evFn Try.prog cfg (Runs Try.prog) (LRuns Try.prog (lEnv Try.prog cfg 41 0).nt 0) 41 [(.one (.pv (.ints .u8 p false))), (.one (.pv (.int .i64 at_)))] [] []
    [.lp (.exit 0) ⟨[(0, (.av (.one (.pv (.ints .u8 p false))))), (1, (.av (.one (.pv (.int .i64 at_))))), (6, (.av (.one (.pv (.int .i64 n)))))], [], []⟩, .br false, .br false, .br false, .br true, .br false, .lp (.exit 2) ⟨[(1, (.av (.one (.pv (.int .i64 at_))))), (6, (.av (.one (.pv (.int .i64 n))))), (7, (.av (.one (.pv (.int .u64 n2)))))], [], []⟩] =
  some (([(.one (.pv (.int .u64 n2))), (.one (.pv (.int .i64 (iadd .i64 (isub .i64 n at_) 1))))], [], []), [
    LRuns Try.prog (lEnv Try.prog cfg 41 0).nt 0 (.loop (loopAt Try.prog 41 0)) ⟨[(0, (.av (.one (.pv (.ints .u8 p false))))), (1, (.av (.one (.pv (.int .i64 at_))))), (6, (.av (.one (.pv (.int .i64 at_)))))], [], []⟩ (.exit 0) ⟨[(0, (.av (.one (.pv (.ints .u8 p false))))), (1, (.av (.one (.pv (.int .i64 at_))))), (6, (.av (.one (.pv (.int .i64 n)))))], [], []⟩,
    (decide ((((p).length : Int) : Int) ≤ n)) = false,
    (decide ((n : Int) = (iadd .i64 at_ 9))) = false,
    false = false,
    (decide ((at_ : Int) < n)) = true,
    (decide ((0 : Int) ≤ n) && decide ((n : Int) < ((p).length : Int))) = true,
    (decide (((p.getD (n).toNat 0) : Int) = 0)) = false,
    LRuns Try.prog (lEnv Try.prog cfg 41 0).nt 0 (.loop (loopAt Try.prog 41 1)) ⟨[(0, (.av (.one (.pv (.ints .u8 p false))))), (1, (.av (.one (.pv (.int .i64 at_))))), (6, (.av (.one (.pv (.int .i64 n))))), (7, (.av (.one (.pv (.int .u64 0))))), (8, (.av (.one (.pv (.int .i64 n)))))], [], []⟩ (.exit 2) ⟨[(1, (.av (.one (.pv (.int .i64 at_))))), (6, (.av (.one (.pv (.int .i64 n))))), (7, (.av (.one (.pv (.int .u64 n2)))))], [], []⟩]) := by kernel_rfl
theorem kinfolkref06_number_p7 (p : List Int) (at_ : Int) (n : Int) (n2 : Int) : evFn Try.prog cfg (Runs Try.prog) (LRuns Try.prog (lEnv Try.prog cfg 41 0).nt 0) 41 [(.one (.pv (.ints .u8 p false))), (.one (.pv (.int .i64 at_)))] [] []
    [.lp (.exit 0) ⟨[(0, (.av (.one (.pv (.ints .u8 p false))))), (1, (.av (.one (.pv (.int .i64 at_))))), (6, (.av (.one (.pv (.int .i64 n)))))], [], []⟩, .br false, .br false, .br false, .br false, .br false, .lp (.exit 2) ⟨[(1, (.av (.one (.pv (.int .i64 at_))))), (6, (.av (.one (.pv (.int .i64 n))))), (7, (.av (.one (.pv (.int .u64 n2)))))], [], []⟩] =
  some (([(.one (.pv (.int .u64 n2))), (.one (.pv (.int .i64 (iadd .i64 (isub .i64 n at_) 1))))], [], []), [
    LRuns Try.prog (lEnv Try.prog cfg 41 0).nt 0 (.loop (loopAt Try.prog 41 0)) ⟨[(0, (.av (.one (.pv (.ints .u8 p false))))), (1, (.av (.one (.pv (.int .i64 at_))))), (6, (.av (.one (.pv (.int .i64 at_)))))], [], []⟩ (.exit 0) ⟨[(0, (.av (.one (.pv (.ints .u8 p false))))), (1, (.av (.one (.pv (.int .i64 at_))))), (6, (.av (.one (.pv (.int .i64 n)))))], [], []⟩,
    (decide ((((p).length : Int) : Int) ≤ n)) = false,
    (decide ((n : Int) = (iadd .i64 at_ 9))) = false,
    false = false,
    (decide ((at_ : Int) < n)) = false,
    false = false,
    LRuns Try.prog (lEnv Try.prog cfg 41 0).nt 0 (.loop (loopAt Try.prog 41 1)) ⟨[(0, (.av (.one (.pv (.ints .u8 p false))))), (1, (.av (.one (.pv (.int .i64 at_))))), (6, (.av (.one (.pv (.int .i64 n))))), (7, (.av (.one (.pv (.int .u64 0))))), (8, (.av (.one (.pv (.int .i64 n)))))], [], []⟩ (.exit 2) ⟨[(1, (.av (.one (.pv (.int .i64 at_))))), (6, (.av (.one (.pv (.int .i64 n))))), (7, (.av (.one (.pv (.int .u64 n2)))))], [], []⟩]) := by kernel_rfl
noncomputable def kinfolkref06_number (p : List Int) (at_ : Int) : Option (Int × Int) :=
  (runL (kinfolkref06_number_L0_step p at_) at_).bind fun n =>
  bif (decide ((((p).length : Int) : Int) ≤ n)) then
    some (0, 0)
  else
    bif (decide ((n : Int) = (iadd .i64 at_ 9))) then
      bif decide ((0 : Int) ≤ n) && decide ((n : Int) < ((p).length : Int)) then
      bif (decide ((1 : Int) < (p.getD (n).toNat 0))) then
        some (0, 0)
      else
        bif (decide ((at_ : Int) < n)) then
          bif (decide (((p.getD (n).toNat 0) : Int) = 0)) then
            some (0, 0)
          else
            (runL (kinfolkref06_number_L1_step p at_ n) (0, n)).bind fun n2 =>
            some (n2, (iadd .i64 (isub .i64 n at_) 1))
        else
          (runL (kinfolkref06_number_L1_step p at_ n) (0, n)).bind fun n2 =>
          some (n2, (iadd .i64 (isub .i64 n at_) 1))
      else none
    else
      bif (decide ((at_ : Int) < n)) then
        bif decide ((0 : Int) ≤ n) && decide ((n : Int) < ((p).length : Int)) then
        bif (decide (((p.getD (n).toNat 0) : Int) = 0)) then
          some (0, 0)
        else
          (runL (kinfolkref06_number_L1_step p at_ n) (0, n)).bind fun n2 =>
          some (n2, (iadd .i64 (isub .i64 n at_) 1))
        else none
      else
        (runL (kinfolkref06_number_L1_step p at_ n) (0, n)).bind fun n2 =>
        some (n2, (iadd .i64 (isub .i64 n at_) 1))
theorem kinfolkref06_number_runs (p : List Int) (at_ : Int) (r_ : Int × Int) (h : kinfolkref06_number p at_ = some r_) : Runs Try.prog 41 [(.one (.pv (.ints .u8 p false))), (.one (.pv (.int .i64 at_)))] [] [] (kinfolkref06_number_out p at_ r_) := by
  unfold kinfolkref06_number at h
  obtain ⟨n, h1, h⟩ := bind_of h
  rcases cond_of h with ⟨h2, h⟩ | ⟨h2, h⟩
  · have h := some_of h
    subst h
    have e_ := kinfolkref06_number_p0 p at_ n
    have e_ := runs_of (objs := []) (Says.of e_ ⟨(kinfolkref06_number_L0_runs p at_ _ _ h1), h2, rfl, rfl, trivial⟩)
    exact e_
  · rcases cond_of h with ⟨h3, h⟩ | ⟨h3, h⟩
    · obtain ⟨h4, h⟩ := need_of h
      rcases cond_of h with ⟨h5, h⟩ | ⟨h5, h⟩
      · have h := some_of h
        subst h
        have e_ := kinfolkref06_number_p1 p at_ n
        have e_ := runs_of (objs := []) (Says.of e_ ⟨(kinfolkref06_number_L0_runs p at_ _ _ h1), h2, h3, h4, h5, rfl, trivial⟩)
        exact e_
      · rcases cond_of h with ⟨h6, h⟩ | ⟨h6, h⟩
        · rcases cond_of h with ⟨h7, h⟩ | ⟨h7, h⟩
          · have h := some_of h
            subst h
            have e_ := kinfolkref06_number_p2 p at_ n
            have e_ := runs_of (objs := []) (Says.of e_ ⟨(kinfolkref06_number_L0_runs p at_ _ _ h1), h2, h3, h4, h5, h6, h4, h7, trivial⟩)
            exact e_
          · obtain ⟨n2, h8, h⟩ := bind_of h
            have h := some_of h
            subst h
            have e_ := kinfolkref06_number_p3 p at_ n n2
            have e_ := runs_of (objs := []) (Says.of e_ ⟨(kinfolkref06_number_L0_runs p at_ _ _ h1), h2, h3, h4, h5, h6, h4, h7, (kinfolkref06_number_L1_runs p at_ n _ _ h8), trivial⟩)
            exact e_
        · obtain ⟨n2, h7, h⟩ := bind_of h
          have h := some_of h
          subst h
          have e_ := kinfolkref06_number_p4 p at_ n n2
          have e_ := runs_of (objs := []) (Says.of e_ ⟨(kinfolkref06_number_L0_runs p at_ _ _ h1), h2, h3, h4, h5, h6, rfl, (kinfolkref06_number_L1_runs p at_ n _ _ h7), trivial⟩)
          exact e_
    · rcases cond_of h with ⟨h4, h⟩ | ⟨h4, h⟩
      · obtain ⟨h5, h⟩ := need_of h
        rcases cond_of h with ⟨h6, h⟩ | ⟨h6, h⟩
        · have h := some_of h
          subst h
          have e_ := kinfolkref06_number_p5 p at_ n
          have e_ := runs_of (objs := []) (Says.of e_ ⟨(kinfolkref06_number_L0_runs p at_ _ _ h1), h2, h3, rfl, h4, h5, h6, trivial⟩)
          exact e_
        · obtain ⟨n2, h7, h⟩ := bind_of h
          have h := some_of h
          subst h
          have e_ := kinfolkref06_number_p6 p at_ n n2
          have e_ := runs_of (objs := []) (Says.of e_ ⟨(kinfolkref06_number_L0_runs p at_ _ _ h1), h2, h3, rfl, h4, h5, h6, (kinfolkref06_number_L1_runs p at_ n _ _ h7), trivial⟩)
          exact e_
      · obtain ⟨n2, h5, h⟩ := bind_of h
        have h := some_of h
        subst h
        have e_ := kinfolkref06_number_p7 p at_ n n2
        have e_ := runs_of (objs := []) (Says.of e_ ⟨(kinfolkref06_number_L0_runs p at_ _ _ h1), h2, h3, rfl, h4, rfl, (kinfolkref06_number_L1_runs p at_ n _ _ h5), trivial⟩)
        exact e_
/-! ### kinfolkref06_GetNum -/
def kinfolkref06_GetNum_out (l : List Int) (n : Int) (n2 : Int) : Int × Int × Int → Res
  | (r1, r2, r3) => ([(.one (.pv (.int .u64 r1)))], [[(.pv (.ints .u8 l false)), (.pv (.int .i64 r2)), (.pv (.int .i64 r3))]], [])
theorem kinfolkref06_GetNum_p0 (l : List Int) (n : Int) (n2 : Int) (n3 : Int) (n4 : Int) : evFn Try.prog cfg (Runs Try.prog) (LRuns Try.prog (lEnv Try.prog cfg 22 1).nt 1) 22 [(.one (.ref 0 0))] [[(.pv (.ints .u8 l false)), (.pv (.int .i64 n)), (.pv (.int .i64 n2))]] []
    [.br false, .res ([(.one (.pv (.int .u64 n3))), (.one (.pv (.int .i64 n4)))], [], []), .res ([(.one (.pv (.int .u64 n3))), (.one (.pv (.int .i64 n4)))], [], []), .br true] =
  some (([(.one (.pv (.int .u64 n3)))], [[(.pv (.ints .u8 l false)), (.pv (.int .i64 (iadd .i64 n n4))), (.pv (.int .i64 6))]], []), [
    (!(decide ((n2 : Int) = 0))) = false,
    Runs Try.prog 41 [(.one (.pv (.ints .u8 l false))), (.one (.pv (.int .i64 n)))] [] [] ([(.one (.pv (.int .u64 n3))), (.one (.pv (.int .i64 n4)))], [], []),
    Runs Try.prog 41 [(.one (.pv (.ints .u8 l false))), (.one (.pv (.int .i64 n)))] [] [] ([(.one (.pv (.int .u64 n3))), (.one (.pv (.int .i64 n4)))], [], []),
    (⟨[(0, (.av (.one (.ref 0 0)))), (3, (.av (.one (.pv (.int .u64 n3))))), (4, (.av (.one (.pv (.int .i64 n4)))))], [(0, [(.pv (.ints .u8 l false)), (.pv (.int .i64 n)), (.pv (.int .i64 n2))])], []⟩ : St) = ⟨[(0, (.av (.one (.ref 0 0)))), (3, (.av (.one (.pv (.int .u64 n3))))), (4, (.av (.one (.pv (.int .i64 n4)))))], [(0, [(.pv (.ints .u8 l false)), (.pv (.int .i64 n)), (.pv (.int .i64 n2))])], []⟩,
    (decide ((n4 : Int) = 0)) = true]) := by kernel_rfl
theorem kinfolkref06_GetNum_p1 (l : List Int) (n : Int) (n2 : Int) (n3 : Int) (n4 : Int) : evFn Try.prog cfg (Runs Try.prog) (LRuns Try.prog (lEnv Try.prog cfg 22 1).nt 1) 22 [(.one (.ref 0 0))] [[(.pv (.ints .u8 l false)), (.pv (.int .i64 n)), (.pv (.int .i64 n2))]] []
    [.br false, .res ([(.one (.pv (.int .u64 n3))), (.one (.pv (.int .i64 n4)))], [], []), .res ([(.one (.pv (.int .u64 n3))), (.one (.pv (.int .i64 n4)))], [], []), .br false] =
  some (([(.one (.pv (.int .u64 n3)))], [[(.pv (.ints .u8 l false)), (.pv (.int .i64 (iadd .i64 n n4))), (.pv (.int .i64 n2))]], []), [
    (!(decide ((n2 : Int) = 0))) = false,
    Runs Try.prog 41 [(.one (.pv (.ints .u8 l false))), (.one (.pv (.int .i64 n)))] [] [] ([(.one (.pv (.int .u64 n3))), (.one (.pv (.int .i64 n4)))], [], []),
    Runs Try.prog 41 [(.one (.pv (.ints .u8 l false))), (.one (.pv (.int .i64 n)))] [] [] ([(.one (.pv (.int .u64 n3))), (.one (.pv (.int .i64 n4)))], [], []),
    (⟨[(0, (.av (.one (.ref 0 0)))), (3, (.av (.one (.pv (.int .u64 n3))))), (4, (.av (.one (.pv (.int .i64 n4)))))], [(0, [(.pv (.ints .u8 l false)), (.pv (.int .i64 n)), (.pv (.int .i64 n2))])], []⟩ : St) = ⟨[(0, (.av (.one (.ref 0 0)))), (3, (.av (.one (.pv (.int .u64 n3))))), (4, (.av (.one (.pv (.int .i64 n4)))))], [(0, [(.pv (.ints .u8 l false)), (.pv (.int .i64 n)), (.pv (.int .i64 n2))])], []⟩,
    (decide ((n4 : Int) = 0)) = false]) := by kernel_rfl
theorem kinfolkref06_GetNum_p2 (l : List Int) (n : Int) (n2 : Int) : evFn Try.prog cfg (Runs Try.prog) (LRuns Try.prog (lEnv Try.prog cfg 22 1).nt 1) 22 [(.one (.ref 0 0))] [[(.pv (.ints .u8 l false)), (.pv (.int .i64 n)), (.pv (.int .i64 n2))]] []
    [.br true] =
  some (([(.one (.pv (.int .u64 0)))], [[(.pv (.ints .u8 l false)), (.pv (.int .i64 n)), (.pv (.int .i64 n2))]], []), [
    (!(decide ((n2 : Int) = 0))) = true]) := by kernel_rfl
noncomputable def kinfolkref06_GetNum (l : List Int) (n : Int) (n2 : Int) : Option (Int × Int × Int) :=
  bif (decide ((n2 : Int) = 0)) then
    (kinfolkref06_number l n).bind fun (n3, n4) =>
    bif (decide ((n4 : Int) = 0)) then
      some (n3, (iadd .i64 n n4), 6)
    else
      some (n3, (iadd .i64 n n4), n2)
  else
    some (0, n, n2)
theorem kinfolkref06_GetNum_runs (l : List Int) (n : Int) (n2 : Int) (r_ : Int × Int × Int) (h : kinfolkref06_GetNum l n n2 = some r_) : Runs Try.prog 22 [(.one (.ref 0 0))] [[(.pv (.ints .u8 l false)), (.pv (.int .i64 n)), (.pv (.int .i64 n2))]] [] (kinfolkref06_GetNum_out l n n2 r_) := by
  unfold kinfolkref06_GetNum at h
  rcases cond_of h with ⟨h1, h⟩ | ⟨h1, h⟩
  · obtain ⟨⟨n3, n4⟩, h2, h⟩ := bind_of h
    rcases cond_of h with ⟨h3, h⟩ | ⟨h3, h⟩
    · have h := some_of h
      subst h
      have e_ := kinfolkref06_GetNum_p0 l n n2 n3 n4
      have e_ := runs_of (objs := [[(.pv (.ints .u8 l false)), (.pv (.int .i64 n)), (.pv (.int .i64 n2))]]) (Says.of e_ ⟨(not_of2 h1), (kinfolkref06_number_runs l n _ h2), (kinfolkref06_number_runs l n _ h2), rfl, h3, trivial⟩)
      exact e_
    · have h := some_of h
      subst h
      have e_ := kinfolkref06_GetNum_p1 l n n2 n3 n4
      have e_ := runs_of (objs := [[(.pv (.ints .u8 l false)), (.pv (.int .i64 n)), (.pv (.int .i64 n2))]]) (Says.of e_ ⟨(not_of2 h1), (kinfolkref06_number_runs l n _ h2), (kinfolkref06_number_runs l n _ h2), rfl, h3, trivial⟩)
      exact e_
  · have h := some_of h
    subst h
    have e_ := kinfolkref06_GetNum_p2 l n n2
    have e_ := runs_of (objs := [[(.pv (.ints .u8 l false)), (.pv (.int .i64 n)), (.pv (.int .i64 n2))]]) (Says.of e_ ⟨(not_of h1), trivial⟩)
    exact e_
/-! ### wire_In_Text -/
def wire_In_Text_out (most : Int) (l : List Int) (n : Int) : ByteArray × List Int × Int → Res
  | (r1, r2, r3) => ([(.one (.pv (.str r1)))], [[(.pv (.ints .u8 r2 false)), (.pv (.int .i64 r3))]], [])
theorem wire_In_Text_p0 (most : Int) (l : List Int) (n : Int) (n2 : Int) (l_ : List Int) (n3 : Int) (n4 : Int) : evFn Try.prog cfg (Runs Try.prog) (LRuns Try.prog (lEnv Try.prog cfg 23 1).nt 1) 23 [(.one (.ref 0 0)), (.one (.pv (.int .i64 most)))] [[(.pv (.ints .u8 l false)), (.pv (.int .i64 n))]] []
    [.res ([(.one (.pv (.int .i64 n)))], [[(.pv (.ints .u8 l false)), (.pv (.int .i64 n))]], []), .br false, .res ([(.one (.pv (.int .u64 n2)))], [[(.pv (.ints .u8 l_ false)), (.pv (.int .i64 n3))]], []), .br false, .br true, .br true, .res ([], [[(.pv (.ints .u8 l_ false)), (.pv (.int .i64 n4))]], []), .br false] =
  some (([(.one (.pv (.str (strOf (List.take (n2 - 0).toNat l_)))))], [[(.pv (.ints .u8 (List.take (((l_).length : Int) - n2).toNat (List.drop (n2).toNat l_)) false)), (.pv (.int .i64 n4))]], []), [
    Runs Try.prog 29 [(.one (.ref 0 0))] [[(.pv (.ints .u8 l false)), (.pv (.int .i64 n))]] [] ([(.one (.pv (.int .i64 n)))], [[(.pv (.ints .u8 l false)), (.pv (.int .i64 n))]], []),
    (!(decide ((n : Int) = 0))) = false,
    Runs Try.prog 21 [(.one (.ref 0 0))] [[(.pv (.ints .u8 l false)), (.pv (.int .i64 n))]] [] ([(.one (.pv (.int .u64 n2)))], [[(.pv (.ints .u8 l_ false)), (.pv (.int .i64 n3))]], []),
    (!(decide ((n3 : Int) = 0))) = false,
    (decide ((most : Int) < 0)) = true,
    true = true,
    Runs Try.prog 25 [(.one (.ref 0 0)), (.one (.pv (.int .i64 9)))] [[(.pv (.ints .u8 l_ false)), (.pv (.int .i64 n3))]] [] ([], [[(.pv (.ints .u8 l_ false)), (.pv (.int .i64 n4))]], []),
    (!(decide ((n4 : Int) = 0))) = false,
    (decide ((0 : Int) ≤ 0) && decide ((0 : Int) ≤ n2) && decide ((n2 : Int) ≤ ((l_).length : Int)) && decide ((n2 : Int) = n2)) = true,
    (decide ((0 : Int) ≤ n2) && decide ((n2 : Int) ≤ ((l_).length : Int)) && decide ((((l_).length : Int) : Int) ≤ ((l_).length : Int)) && decide ((((l_).length : Int) : Int) = ((l_).length : Int))) = true]) := by kernel_rfl
theorem wire_In_Text_p1 (most : Int) (l : List Int) (n : Int) (n2 : Int) (l_ : List Int) (n3 : Int) (n4 : Int) : evFn Try.prog cfg (Runs Try.prog) (LRuns Try.prog (lEnv Try.prog cfg 23 1).nt 1) 23 [(.one (.ref 0 0)), (.one (.pv (.int .i64 most)))] [[(.pv (.ints .u8 l false)), (.pv (.int .i64 n))]] []
    [.res ([(.one (.pv (.int .i64 n)))], [[(.pv (.ints .u8 l false)), (.pv (.int .i64 n))]], []), .br false, .res ([(.one (.pv (.int .u64 n2)))], [[(.pv (.ints .u8 l_ false)), (.pv (.int .i64 n3))]], []), .br false, .br true, .br true, .res ([], [[(.pv (.ints .u8 l_ false)), (.pv (.int .i64 n4))]], []), .br true] =
  some (([(.one (.pv (.str ⟨#[]⟩)))], [[(.pv (.ints .u8 l false)), (.pv (.int .i64 n4))]], []), [
    Runs Try.prog 29 [(.one (.ref 0 0))] [[(.pv (.ints .u8 l false)), (.pv (.int .i64 n))]] [] ([(.one (.pv (.int .i64 n)))], [[(.pv (.ints .u8 l false)), (.pv (.int .i64 n))]], []),
    (!(decide ((n : Int) = 0))) = false,
    Runs Try.prog 21 [(.one (.ref 0 0))] [[(.pv (.ints .u8 l false)), (.pv (.int .i64 n))]] [] ([(.one (.pv (.int .u64 n2)))], [[(.pv (.ints .u8 l_ false)), (.pv (.int .i64 n3))]], []),
    (!(decide ((n3 : Int) = 0))) = false,
    (decide ((most : Int) < 0)) = true,
    true = true,
    Runs Try.prog 25 [(.one (.ref 0 0)), (.one (.pv (.int .i64 9)))] [[(.pv (.ints .u8 l_ false)), (.pv (.int .i64 n3))]] [] ([], [[(.pv (.ints .u8 l_ false)), (.pv (.int .i64 n4))]], []),
    (!(decide ((n4 : Int) = 0))) = true]) := by kernel_rfl
theorem wire_In_Text_p2 (most : Int) (l : List Int) (n : Int) (n2 : Int) (l_ : List Int) (n3 : Int) (n4 : Int) : evFn Try.prog cfg (Runs Try.prog) (LRuns Try.prog (lEnv Try.prog cfg 23 1).nt 1) 23 [(.one (.ref 0 0)), (.one (.pv (.int .i64 most)))] [[(.pv (.ints .u8 l false)), (.pv (.int .i64 n))]] []
    [.res ([(.one (.pv (.int .i64 n)))], [[(.pv (.ints .u8 l false)), (.pv (.int .i64 n))]], []), .br false, .res ([(.one (.pv (.int .u64 n2)))], [[(.pv (.ints .u8 l_ false)), (.pv (.int .i64 n3))]], []), .br false, .br false, .br true, .res ([], [[(.pv (.ints .u8 l_ false)), (.pv (.int .i64 n4))]], []), .br false] =
  some (([(.one (.pv (.str (strOf (List.take (n2 - 0).toNat l_)))))], [[(.pv (.ints .u8 (List.take (((l_).length : Int) - n2).toNat (List.drop (n2).toNat l_)) false)), (.pv (.int .i64 n4))]], []), [
    Runs Try.prog 29 [(.one (.ref 0 0))] [[(.pv (.ints .u8 l false)), (.pv (.int .i64 n))]] [] ([(.one (.pv (.int .i64 n)))], [[(.pv (.ints .u8 l false)), (.pv (.int .i64 n))]], []),
    (!(decide ((n : Int) = 0))) = false,
    Runs Try.prog 21 [(.one (.ref 0 0))] [[(.pv (.ints .u8 l false)), (.pv (.int .i64 n))]] [] ([(.one (.pv (.int .u64 n2)))], [[(.pv (.ints .u8 l_ false)), (.pv (.int .i64 n3))]], []),
    (!(decide ((n3 : Int) = 0))) = false,
    (decide ((most : Int) < 0)) = false,
    (decide (((IntKind.u64.wrap most) : Int) < n2)) = true,
    Runs Try.prog 25 [(.one (.ref 0 0)), (.one (.pv (.int .i64 9)))] [[(.pv (.ints .u8 l_ false)), (.pv (.int .i64 n3))]] [] ([], [[(.pv (.ints .u8 l_ false)), (.pv (.int .i64 n4))]], []),
    (!(decide ((n4 : Int) = 0))) = false,
    (decide ((0 : Int) ≤ 0) && decide ((0 : Int) ≤ n2) && decide ((n2 : Int) ≤ ((l_).length : Int)) && decide ((n2 : Int) = n2)) = true,
    (decide ((0 : Int) ≤ n2) && decide ((n2 : Int) ≤ ((l_).length : Int)) && decide ((((l_).length : Int) : Int) ≤ ((l_).length : Int)) && decide ((((l_).length : Int) : Int) = ((l_).length : Int))) = true]) := by kernel_rfl
theorem wire_In_Text_p3 (most : Int) (l : List Int) (n : Int) (n2 : Int) (l_ : List Int) (n3 : Int) (n4 : Int) : evFn Try.prog cfg (Runs Try.prog) (LRuns Try.prog (lEnv Try.prog cfg 23 1).nt 1) 23 [(.one (.ref 0 0)), (.one (.pv (.int .i64 most)))] [[(.pv (.ints .u8 l false)), (.pv (.int .i64 n))]] []
    [.res ([(.one (.pv (.int .i64 n)))], [[(.pv (.ints .u8 l false)), (.pv (.int .i64 n))]], []), .br false, .res ([(.one (.pv (.int .u64 n2)))], [[(.pv (.ints .u8 l_ false)), (.pv (.int .i64 n3))]], []), .br false, .br false, .br true, .res ([], [[(.pv (.ints .u8 l_ false)), (.pv (.int .i64 n4))]], []), .br true] =
  some (([(.one (.pv (.str ⟨#[]⟩)))], [[(.pv (.ints .u8 l false)), (.pv (.int .i64 n4))]], []), [
    Runs Try.prog 29 [(.one (.ref 0 0))] [[(.pv (.ints .u8 l false)), (.pv (.int .i64 n))]] [] ([(.one (.pv (.int .i64 n)))], [[(.pv (.ints .u8 l false)), (.pv (.int .i64 n))]], []),
    (!(decide ((n : Int) = 0))) = false,
    Runs Try.prog 21 [(.one (.ref 0 0))] [[(.pv (.ints .u8 l false)), (.pv (.int .i64 n))]] [] ([(.one (.pv (.int .u64 n2)))], [[(.pv (.ints .u8 l_ false)), (.pv (.int .i64 n3))]], []),
    (!(decide ((n3 : Int) = 0))) = false,
    (decide ((most : Int) < 0)) = false,
    (decide (((IntKind.u64.wrap most) : Int) < n2)) = true,
    Runs Try.prog 25 [(.one (.ref 0 0)), (.one (.pv (.int .i64 9)))] [[(.pv (.ints .u8 l_ false)), (.pv (.int .i64 n3))]] [] ([], [[(.pv (.ints .u8 l_ false)), (.pv (.int .i64 n4))]], []),
    (!(decide ((n4 : Int) = 0))) = true]) := by kernel_rfl
theorem wire_In_Text_p4 (most : Int) (l : List Int) (n : Int) (n2 : Int) (l_ : List Int) (n3 : Int) (n4 : Int) : evFn Try.prog cfg (Runs Try.prog) (LRuns Try.prog (lEnv Try.prog cfg 23 1).nt 1) 23 [(.one (.ref 0 0)), (.one (.pv (.int .i64 most)))] [[(.pv (.ints .u8 l false)), (.pv (.int .i64 n))]] []
    [.res ([(.one (.pv (.int .i64 n)))], [[(.pv (.ints .u8 l false)), (.pv (.int .i64 n))]], []), .br false, .res ([(.one (.pv (.int .u64 n2)))], [[(.pv (.ints .u8 l_ false)), (.pv (.int .i64 n3))]], []), .br false, .br false, .br false, .br true, .res ([], [[(.pv (.ints .u8 l_ false)), (.pv (.int .i64 n4))]], []), .br false] =
  some (([(.one (.pv (.str (strOf (List.take (n2 - 0).toNat l_)))))], [[(.pv (.ints .u8 (List.take (((l_).length : Int) - n2).toNat (List.drop (n2).toNat l_)) false)), (.pv (.int .i64 n4))]], []), [
    Runs Try.prog 29 [(.one (.ref 0 0))] [[(.pv (.ints .u8 l false)), (.pv (.int .i64 n))]] [] ([(.one (.pv (.int .i64 n)))], [[(.pv (.ints .u8 l false)), (.pv (.int .i64 n))]], []),
    (!(decide ((n : Int) = 0))) = false,
    Runs Try.prog 21 [(.one (.ref 0 0))] [[(.pv (.ints .u8 l false)), (.pv (.int .i64 n))]] [] ([(.one (.pv (.int .u64 n2)))], [[(.pv (.ints .u8 l_ false)), (.pv (.int .i64 n3))]], []),
    (!(decide ((n3 : Int) = 0))) = false,
    (decide ((most : Int) < 0)) = false,
    (decide (((IntKind.u64.wrap most) : Int) < n2)) = false,
    (decide (((IntKind.u64.wrap ((l_).length : Int)) : Int) < n2)) = true,
    Runs Try.prog 25 [(.one (.ref 0 0)), (.one (.pv (.int .i64 6)))] [[(.pv (.ints .u8 l_ false)), (.pv (.int .i64 n3))]] [] ([], [[(.pv (.ints .u8 l_ false)), (.pv (.int .i64 n4))]], []),
    (!(decide ((n4 : Int) = 0))) = false,
    (decide ((0 : Int) ≤ 0) && decide ((0 : Int) ≤ n2) && decide ((n2 : Int) ≤ ((l_).length : Int)) && decide ((n2 : Int) = n2)) = true,
    (decide ((0 : Int) ≤ n2) && decide ((n2 : Int) ≤ ((l_).length : Int)) && decide ((((l_).length : Int) : Int) ≤ ((l_).length : Int)) && decide ((((l_).length : Int) : Int) = ((l_).length : Int))) = true]) := by kernel_rfl
theorem wire_In_Text_p5 (most : Int) (l : List Int) (n : Int) (n2 : Int) (l_ : List Int) (n3 : Int) (n4 : Int) : evFn Try.prog cfg (Runs Try.prog) (LRuns Try.prog (lEnv Try.prog cfg 23 1).nt 1) 23 [(.one (.ref 0 0)), (.one (.pv (.int .i64 most)))] [[(.pv (.ints .u8 l false)), (.pv (.int .i64 n))]] []
    [.res ([(.one (.pv (.int .i64 n)))], [[(.pv (.ints .u8 l false)), (.pv (.int .i64 n))]], []), .br false, .res ([(.one (.pv (.int .u64 n2)))], [[(.pv (.ints .u8 l_ false)), (.pv (.int .i64 n3))]], []), .br false, .br false, .br false, .br true, .res ([], [[(.pv (.ints .u8 l_ false)), (.pv (.int .i64 n4))]], []), .br true] =
  some (([(.one (.pv (.str ⟨#[]⟩)))], [[(.pv (.ints .u8 l false)), (.pv (.int .i64 n4))]], []), [
    Runs Try.prog 29 [(.one (.ref 0 0))] [[(.pv (.ints .u8 l false)), (.pv (.int .i64 n))]] [] ([(.one (.pv (.int .i64 n)))], [[(.pv (.ints .u8 l false)), (.pv (.int .i64 n))]], []),
    (!(decide ((n : Int) = 0))) = false,
    Runs Try.prog 21 [(.one (.ref 0 0))] [[(.pv (.ints .u8 l false)), (.pv (.int .i64 n))]] [] ([(.one (.pv (.int .u64 n2)))], [[(.pv (.ints .u8 l_ false)), (.pv (.int .i64 n3))]], []),
    (!(decide ((n3 : Int) = 0))) = false,
    (decide ((most : Int) < 0)) = false,
    (decide (((IntKind.u64.wrap most) : Int) < n2)) = false,
    (decide (((IntKind.u64.wrap ((l_).length : Int)) : Int) < n2)) = true,
    Runs Try.prog 25 [(.one (.ref 0 0)), (.one (.pv (.int .i64 6)))] [[(.pv (.ints .u8 l_ false)), (.pv (.int .i64 n3))]] [] ([], [[(.pv (.ints .u8 l_ false)), (.pv (.int .i64 n4))]], []),
    (!(decide ((n4 : Int) = 0))) = true]) := by kernel_rfl
theorem wire_In_Text_p6 (most : Int) (l : List Int) (n : Int) (n2 : Int) (l_ : List Int) (n3 : Int) : evFn Try.prog cfg (Runs Try.prog) (LRuns Try.prog (lEnv Try.prog cfg 23 1).nt 1) 23 [(.one (.ref 0 0)), (.one (.pv (.int .i64 most)))] [[(.pv (.ints .u8 l false)), (.pv (.int .i64 n))]] []
    [.res ([(.one (.pv (.int .i64 n)))], [[(.pv (.ints .u8 l false)), (.pv (.int .i64 n))]], []), .br false, .res ([(.one (.pv (.int .u64 n2)))], [[(.pv (.ints .u8 l_ false)), (.pv (.int .i64 n3))]], []), .br false, .br false, .br false, .br false, .br false] =
  some (([(.one (.pv (.str (strOf (List.take (n2 - 0).toNat l_)))))], [[(.pv (.ints .u8 (List.take (((l_).length : Int) - n2).toNat (List.drop (n2).toNat l_)) false)), (.pv (.int .i64 n3))]], []), [
    Runs Try.prog 29 [(.one (.ref 0 0))] [[(.pv (.ints .u8 l false)), (.pv (.int .i64 n))]] [] ([(.one (.pv (.int .i64 n)))], [[(.pv (.ints .u8 l false)), (.pv (.int .i64 n))]], []),
    (!(decide ((n : Int) = 0))) = false,
    Runs Try.prog 21 [(.one (.ref 0 0))] [[(.pv (.ints .u8 l false)), (.pv (.int .i64 n))]] [] ([(.one (.pv (.int .u64 n2)))], [[(.pv (.ints .u8 l_ false)), (.pv (.int .i64 n3))]], []),
    (!(decide ((n3 : Int) = 0))) = false,
    (decide ((most : Int) < 0)) = false,
    (decide (((IntKind.u64.wrap most) : Int) < n2)) = false,
    (decide (((IntKind.u64.wrap ((l_).length : Int)) : Int) < n2)) = false,
    (!(decide ((n3 : Int) = 0))) = false,
    (decide ((0 : Int) ≤ 0) && decide ((0 : Int) ≤ n2) && decide ((n2 : Int) ≤ ((l_).length : Int)) && decide ((n2 : Int) = n2)) = true,
    (decide ((0 : Int) ≤ n2) && decide ((n2 : Int) ≤ ((l_).length : Int)) && decide ((((l_).length : Int) : Int) ≤ ((l_).length : Int)) && decide ((((l_).length : Int) : Int) = ((l_).length : Int))) = true]) := by kernel_rfl
theorem wire_In_Text_p7 (most : Int) (l : List Int) (n : Int) (n2 : Int) (l_ : List Int) (n3 : Int) : evFn Try.prog cfg (Runs Try.prog) (LRuns Try.prog (lEnv Try.prog cfg 23 1).nt 1) 23 [(.one (.ref 0 0)), (.one (.pv (.int .i64 most)))] [[(.pv (.ints .u8 l false)), (.pv (.int .i64 n))]] []
    [.res ([(.one (.pv (.int .i64 n)))], [[(.pv (.ints .u8 l false)), (.pv (.int .i64 n))]], []), .br false, .res ([(.one (.pv (.int .u64 n2)))], [[(.pv (.ints .u8 l_ false)), (.pv (.int .i64 n3))]], []), .br true, .br true] =
  some (([(.one (.pv (.str ⟨#[]⟩)))], [[(.pv (.ints .u8 l false)), (.pv (.int .i64 n3))]], []), [
    Runs Try.prog 29 [(.one (.ref 0 0))] [[(.pv (.ints .u8 l false)), (.pv (.int .i64 n))]] [] ([(.one (.pv (.int .i64 n)))], [[(.pv (.ints .u8 l false)), (.pv (.int .i64 n))]], []),
    (!(decide ((n : Int) = 0))) = false,
    Runs Try.prog 21 [(.one (.ref 0 0))] [[(.pv (.ints .u8 l false)), (.pv (.int .i64 n))]] [] ([(.one (.pv (.int .u64 n2)))], [[(.pv (.ints .u8 l_ false)), (.pv (.int .i64 n3))]], []),
    (!(decide ((n3 : Int) = 0))) = true,
    (!(decide ((n3 : Int) = 0))) = true]) := by kernel_rfl
theorem wire_In_Text_p8 (most : Int) (l : List Int) (n : Int) : evFn Try.prog cfg (Runs Try.prog) (LRuns Try.prog (lEnv Try.prog cfg 23 1).nt 1) 23 [(.one (.ref 0 0)), (.one (.pv (.int .i64 most)))] [[(.pv (.ints .u8 l false)), (.pv (.int .i64 n))]] []
    [.res ([(.one (.pv (.int .i64 n)))], [[(.pv (.ints .u8 l false)), (.pv (.int .i64 n))]], []), .br true] =
  some (([(.one (.pv (.str ⟨#[]⟩)))], [[(.pv (.ints .u8 l false)), (.pv (.int .i64 n))]], []), [
    Runs Try.prog 29 [(.one (.ref 0 0))] [[(.pv (.ints .u8 l false)), (.pv (.int .i64 n))]] [] ([(.one (.pv (.int .i64 n)))], [[(.pv (.ints .u8 l false)), (.pv (.int .i64 n))]], []),
    (!(decide ((n : Int) = 0))) = true]) := by kernel_rfl
noncomputable def wire_In_Text (most : Int) (l : List Int) (n : Int) : Option (ByteArray × List Int × Int) :=
  (wire_In_Err l n).bind fun _ =>
  bif (decide ((n : Int) = 0)) then
    (wire_In_Num l n).bind fun (n2, l_, n3) =>
    bif (decide ((n3 : Int) = 0)) then
      bif (decide ((most : Int) < 0)) then
        (wire_In_Fail 9 l_ n3).bind fun n4 =>
        bif (decide ((n4 : Int) = 0)) then
          bif decide ((0 : Int) ≤ 0) && decide ((0 : Int) ≤ n2) && decide ((n2 : Int) ≤ ((l_).length : Int)) && decide ((n2 : Int) = n2) then
          bif decide ((0 : Int) ≤ n2) && decide ((n2 : Int) ≤ ((l_).length : Int)) && decide ((((l_).length : Int) : Int) ≤ ((l_).length : Int)) && decide ((((l_).length : Int) : Int) = ((l_).length : Int)) then
          some ((strOf (List.take (n2 - 0).toNat l_)), (List.take (((l_).length : Int) - n2).toNat (List.drop (n2).toNat l_)), n4)
          else none
          else none
        else
          some (⟨#[]⟩, l, n4)
      else
        bif (decide (((IntKind.u64.wrap most) : Int) < n2)) then
          (wire_In_Fail 9 l_ n3).bind fun n4 =>
          bif (decide ((n4 : Int) = 0)) then
            bif decide ((0 : Int) ≤ 0) && decide ((0 : Int) ≤ n2) && decide ((n2 : Int) ≤ ((l_).length : Int)) && decide ((n2 : Int) = n2) then
            bif decide ((0 : Int) ≤ n2) && decide ((n2 : Int) ≤ ((l_).length : Int)) && decide ((((l_).length : Int) : Int) ≤ ((l_).length : Int)) && decide ((((l_).length : Int) : Int) = ((l_).length : Int)) then
            some ((strOf (List.take (n2 - 0).toNat l_)), (List.take (((l_).length : Int) - n2).toNat (List.drop (n2).toNat l_)), n4)
            else none
            else none
          else
            some (⟨#[]⟩, l, n4)
        else
          bif (decide (((IntKind.u64.wrap ((l_).length : Int)) : Int) < n2)) then
            (wire_In_Fail 6 l_ n3).bind fun n4 =>
            bif (decide ((n4 : Int) = 0)) then
              bif decide ((0 : Int) ≤ 0) && decide ((0 : Int) ≤ n2) && decide ((n2 : Int) ≤ ((l_).length : Int)) && decide ((n2 : Int) = n2) then
              bif decide ((0 : Int) ≤ n2) && decide ((n2 : Int) ≤ ((l_).length : Int)) && decide ((((l_).length : Int) : Int) ≤ ((l_).length : Int)) && decide ((((l_).length : Int) : Int) = ((l_).length : Int)) then
              some ((strOf (List.take (n2 - 0).toNat l_)), (List.take (((l_).length : Int) - n2).toNat (List.drop (n2).toNat l_)), n4)
              else none
              else none
            else
              some (⟨#[]⟩, l, n4)
          else
            bif decide ((0 : Int) ≤ 0) && decide ((0 : Int) ≤ n2) && decide ((n2 : Int) ≤ ((l_).length : Int)) && decide ((n2 : Int) = n2) then
            bif decide ((0 : Int) ≤ n2) && decide ((n2 : Int) ≤ ((l_).length : Int)) && decide ((((l_).length : Int) : Int) ≤ ((l_).length : Int)) && decide ((((l_).length : Int) : Int) = ((l_).length : Int)) then
            some ((strOf (List.take (n2 - 0).toNat l_)), (List.take (((l_).length : Int) - n2).toNat (List.drop (n2).toNat l_)), n3)
            else none
            else none
    else
      some (⟨#[]⟩, l, n3)
  else
    some (⟨#[]⟩, l, n)
theorem wire_In_Text_runs (most : Int) (l : List Int) (n : Int) (r_ : ByteArray × List Int × Int) (h : wire_In_Text most l n = some r_) : Runs Try.prog 23 [(.one (.ref 0 0)), (.one (.pv (.int .i64 most)))] [[(.pv (.ints .u8 l false)), (.pv (.int .i64 n))]] [] (wire_In_Text_out most l n r_) := by
  unfold wire_In_Text at h
  obtain ⟨_, h1, h⟩ := bind_of h
  rcases cond_of h with ⟨h2, h⟩ | ⟨h2, h⟩
  · obtain ⟨⟨n2, l_, n3⟩, h3, h⟩ := bind_of h
    rcases cond_of h with ⟨h4, h⟩ | ⟨h4, h⟩
    · rcases cond_of h with ⟨h5, h⟩ | ⟨h5, h⟩
      · obtain ⟨n4, h6, h⟩ := bind_of h
        rcases cond_of h with ⟨h7, h⟩ | ⟨h7, h⟩
        · obtain ⟨h8, h⟩ := need_of h
          obtain ⟨h9, h⟩ := need_of h
          have h := some_of h
          subst h
          have e_ := wire_In_Text_p0 most l n n2 l_ n3 n4
          have e_ := runs_of (objs := [[(.pv (.ints .u8 l false)), (.pv (.int .i64 n))]]) (Says.of e_ ⟨(wire_In_Err_runs l n _ h1), (not_of2 h2), (wire_In_Num_runs l n _ h3), (not_of2 h4), h5, rfl, (wire_In_Fail_runs 9 l_ n3 _ h6), (not_of2 h7), h8, h9, trivial⟩)
          exact e_
        · have h := some_of h
          subst h
          have e_ := wire_In_Text_p1 most l n n2 l_ n3 n4
          have e_ := runs_of (objs := [[(.pv (.ints .u8 l false)), (.pv (.int .i64 n))]]) (Says.of e_ ⟨(wire_In_Err_runs l n _ h1), (not_of2 h2), (wire_In_Num_runs l n _ h3), (not_of2 h4), h5, rfl, (wire_In_Fail_runs 9 l_ n3 _ h6), (not_of h7), trivial⟩)
          exact e_
      · rcases cond_of h with ⟨h6, h⟩ | ⟨h6, h⟩
        · obtain ⟨n4, h7, h⟩ := bind_of h
          rcases cond_of h with ⟨h8, h⟩ | ⟨h8, h⟩
          · obtain ⟨h9, h⟩ := need_of h
            obtain ⟨h10, h⟩ := need_of h
            have h := some_of h
            subst h
            have e_ := wire_In_Text_p2 most l n n2 l_ n3 n4
            have e_ := runs_of (objs := [[(.pv (.ints .u8 l false)), (.pv (.int .i64 n))]]) (Says.of e_ ⟨(wire_In_Err_runs l n _ h1), (not_of2 h2), (wire_In_Num_runs l n _ h3), (not_of2 h4), h5, h6, (wire_In_Fail_runs 9 l_ n3 _ h7), (not_of2 h8), h9, h10, trivial⟩)
            exact e_
          · have h := some_of h
            subst h
            have e_ := wire_In_Text_p3 most l n n2 l_ n3 n4
            have e_ := runs_of (objs := [[(.pv (.ints .u8 l false)), (.pv (.int .i64 n))]]) (Says.of e_ ⟨(wire_In_Err_runs l n _ h1), (not_of2 h2), (wire_In_Num_runs l n _ h3), (not_of2 h4), h5, h6, (wire_In_Fail_runs 9 l_ n3 _ h7), (not_of h8), trivial⟩)
            exact e_
        · rcases cond_of h with ⟨h7, h⟩ | ⟨h7, h⟩
          · obtain ⟨n4, h8, h⟩ := bind_of h
            rcases cond_of h with ⟨h9, h⟩ | ⟨h9, h⟩
            · obtain ⟨h10, h⟩ := need_of h
              obtain ⟨h11, h⟩ := need_of h
              have h := some_of h
              subst h
              have e_ := wire_In_Text_p4 most l n n2 l_ n3 n4
              have e_ := runs_of (objs := [[(.pv (.ints .u8 l false)), (.pv (.int .i64 n))]]) (Says.of e_ ⟨(wire_In_Err_runs l n _ h1), (not_of2 h2), (wire_In_Num_runs l n _ h3), (not_of2 h4), h5, h6, h7, (wire_In_Fail_runs 6 l_ n3 _ h8), (not_of2 h9), h10, h11, trivial⟩)
              exact e_
            · have h := some_of h
              subst h
              have e_ := wire_In_Text_p5 most l n n2 l_ n3 n4
              have e_ := runs_of (objs := [[(.pv (.ints .u8 l false)), (.pv (.int .i64 n))]]) (Says.of e_ ⟨(wire_In_Err_runs l n _ h1), (not_of2 h2), (wire_In_Num_runs l n _ h3), (not_of2 h4), h5, h6, h7, (wire_In_Fail_runs 6 l_ n3 _ h8), (not_of h9), trivial⟩)
              exact e_
          · obtain ⟨h8, h⟩ := need_of h
            obtain ⟨h9, h⟩ := need_of h
            have h := some_of h
            subst h
            have e_ := wire_In_Text_p6 most l n n2 l_ n3
            have e_ := runs_of (objs := [[(.pv (.ints .u8 l false)), (.pv (.int .i64 n))]]) (Says.of e_ ⟨(wire_In_Err_runs l n _ h1), (not_of2 h2), (wire_In_Num_runs l n _ h3), (not_of2 h4), h5, h6, h7, (not_of2 h4), h8, h9, trivial⟩)
            exact e_
    · have h := some_of h
      subst h
      have e_ := wire_In_Text_p7 most l n n2 l_ n3
      have e_ := runs_of (objs := [[(.pv (.ints .u8 l false)), (.pv (.int .i64 n))]]) (Says.of e_ ⟨(wire_In_Err_runs l n _ h1), (not_of2 h2), (wire_In_Num_runs l n _ h3), (not_of h4), (not_of h4), trivial⟩)
      exact e_
  · have h := some_of h
    subst h
    have e_ := wire_In_Text_p8 most l n
    have e_ := runs_of (objs := [[(.pv (.ints .u8 l false)), (.pv (.int .i64 n))]]) (Says.of e_ ⟨(wire_In_Err_runs l n _ h1), (not_of h2), trivial⟩)
    exact e_
/-! ### kinfolkref06_GetText -/
def kinfolkref06_GetText_out (most : Int) (l : List Int) (n : Int) (n2 : Int) : ByteArray × Int × Int → Res
  | (r1, r2, r3) => ([(.one (.pv (.str r1)))], [[(.pv (.ints .u8 l false)), (.pv (.int .i64 r2)), (.pv (.int .i64 r3))]], [])
theorem kinfolkref06_GetText_p0 (most : Int) (l : List Int) (n : Int) (n2 : Int) (n3 : Int) (n4 : Int) : evFn Try.prog cfg (Runs Try.prog) (LRuns Try.prog (lEnv Try.prog cfg 24 1).nt 1) 24 [(.one (.ref 0 0)), (.one (.pv (.int .i64 most)))] [[(.pv (.ints .u8 l false)), (.pv (.int .i64 n)), (.pv (.int .i64 n2))]] []
    [.br false, .res ([(.one (.pv (.int .u64 n3))), (.one (.pv (.int .i64 n4)))], [], []), .res ([(.one (.pv (.int .u64 n3))), (.one (.pv (.int .i64 n4)))], [], []), .br true] =
  some (([(.one (.pv (.str ⟨#[]⟩)))], [[(.pv (.ints .u8 l false)), (.pv (.int .i64 n)), (.pv (.int .i64 6))]], []), [
    (!(decide ((n2 : Int) = 0))) = false,
    Runs Try.prog 41 [(.one (.pv (.ints .u8 l false))), (.one (.pv (.int .i64 n)))] [] [] ([(.one (.pv (.int .u64 n3))), (.one (.pv (.int .i64 n4)))], [], []),
    Runs Try.prog 41 [(.one (.pv (.ints .u8 l false))), (.one (.pv (.int .i64 n)))] [] [] ([(.one (.pv (.int .u64 n3))), (.one (.pv (.int .i64 n4)))], [], []),
    (⟨[(0, (.av (.one (.ref 0 0)))), (1, (.av (.one (.pv (.int .i64 most))))), (5, (.av (.one (.pv (.int .u64 n3))))), (6, (.av (.one (.pv (.int .i64 n4)))))], [(0, [(.pv (.ints .u8 l false)), (.pv (.int .i64 n)), (.pv (.int .i64 n2))])], []⟩ : St) = ⟨[(0, (.av (.one (.ref 0 0)))), (1, (.av (.one (.pv (.int .i64 most))))), (5, (.av (.one (.pv (.int .u64 n3))))), (6, (.av (.one (.pv (.int .i64 n4)))))], [(0, [(.pv (.ints .u8 l false)), (.pv (.int .i64 n)), (.pv (.int .i64 n2))])], []⟩,
    (decide ((n4 : Int) = 0)) = true]) := by kernel_rfl
theorem kinfolkref06_GetText_p1 (most : Int) (l : List Int) (n : Int) (n2 : Int) (n3 : Int) (n4 : Int) : evFn Try.prog cfg (Runs Try.prog) (LRuns Try.prog (lEnv Try.prog cfg 24 1).nt 1) 24 [(.one (.ref 0 0)), (.one (.pv (.int .i64 most)))] [[(.pv (.ints .u8 l false)), (.pv (.int .i64 n)), (.pv (.int .i64 n2))]] []
    [.br false, .res ([(.one (.pv (.int .u64 n3))), (.one (.pv (.int .i64 n4)))], [], []), .res ([(.one (.pv (.int .u64 n3))), (.one (.pv (.int .i64 n4)))], [], []), .br false, .br true, .br true] =
  some (([(.one (.pv (.str ⟨#[]⟩)))], [[(.pv (.ints .u8 l false)), (.pv (.int .i64 n)), (.pv (.int .i64 9))]], []), [
    (!(decide ((n2 : Int) = 0))) = false,
    Runs Try.prog 41 [(.one (.pv (.ints .u8 l false))), (.one (.pv (.int .i64 n)))] [] [] ([(.one (.pv (.int .u64 n3))), (.one (.pv (.int .i64 n4)))], [], []),
    Runs Try.prog 41 [(.one (.pv (.ints .u8 l false))), (.one (.pv (.int .i64 n)))] [] [] ([(.one (.pv (.int .u64 n3))), (.one (.pv (.int .i64 n4)))], [], []),
    (⟨[(0, (.av (.one (.ref 0 0)))), (1, (.av (.one (.pv (.int .i64 most))))), (5, (.av (.one (.pv (.int .u64 n3))))), (6, (.av (.one (.pv (.int .i64 n4)))))], [(0, [(.pv (.ints .u8 l false)), (.pv (.int .i64 n)), (.pv (.int .i64 n2))])], []⟩ : St) = ⟨[(0, (.av (.one (.ref 0 0)))), (1, (.av (.one (.pv (.int .i64 most))))), (5, (.av (.one (.pv (.int .u64 n3))))), (6, (.av (.one (.pv (.int .i64 n4)))))], [(0, [(.pv (.ints .u8 l false)), (.pv (.int .i64 n)), (.pv (.int .i64 n2))])], []⟩,
    (decide ((n4 : Int) = 0)) = false,
    (decide ((most : Int) < 0)) = true,
    true = true]) := by kernel_rfl
theorem kinfolkref06_GetText_p2 (most : Int) (l : List Int) (n : Int) (n2 : Int) (n3 : Int) (n4 : Int) : evFn Try.prog cfg (Runs Try.prog) (LRuns Try.prog (lEnv Try.prog cfg 24 1).nt 1) 24 [(.one (.ref 0 0)), (.one (.pv (.int .i64 most)))] [[(.pv (.ints .u8 l false)), (.pv (.int .i64 n)), (.pv (.int .i64 n2))]] []
    [.br false, .res ([(.one (.pv (.int .u64 n3))), (.one (.pv (.int .i64 n4)))], [], []), .res ([(.one (.pv (.int .u64 n3))), (.one (.pv (.int .i64 n4)))], [], []), .br false, .br false, .br true] =
  some (([(.one (.pv (.str ⟨#[]⟩)))], [[(.pv (.ints .u8 l false)), (.pv (.int .i64 n)), (.pv (.int .i64 9))]], []), [
    (!(decide ((n2 : Int) = 0))) = false,
    Runs Try.prog 41 [(.one (.pv (.ints .u8 l false))), (.one (.pv (.int .i64 n)))] [] [] ([(.one (.pv (.int .u64 n3))), (.one (.pv (.int .i64 n4)))], [], []),
    Runs Try.prog 41 [(.one (.pv (.ints .u8 l false))), (.one (.pv (.int .i64 n)))] [] [] ([(.one (.pv (.int .u64 n3))), (.one (.pv (.int .i64 n4)))], [], []),
    (⟨[(0, (.av (.one (.ref 0 0)))), (1, (.av (.one (.pv (.int .i64 most))))), (5, (.av (.one (.pv (.int .u64 n3))))), (6, (.av (.one (.pv (.int .i64 n4)))))], [(0, [(.pv (.ints .u8 l false)), (.pv (.int .i64 n)), (.pv (.int .i64 n2))])], []⟩ : St) = ⟨[(0, (.av (.one (.ref 0 0)))), (1, (.av (.one (.pv (.int .i64 most))))), (5, (.av (.one (.pv (.int .u64 n3))))), (6, (.av (.one (.pv (.int .i64 n4)))))], [(0, [(.pv (.ints .u8 l false)), (.pv (.int .i64 n)), (.pv (.int .i64 n2))])], []⟩,
    (decide ((n4 : Int) = 0)) = false,
    (decide ((most : Int) < 0)) = false,
    (decide (((IntKind.u64.wrap most) : Int) < n3)) = true]) := by kernel_rfl
theorem kinfolkref06_GetText_p3 (most : Int) (l : List Int) (n : Int) (n2 : Int) (n3 : Int) (n4 : Int) : evFn Try.prog cfg (Runs Try.prog) (LRuns Try.prog (lEnv Try.prog cfg 24 1).nt 1) 24 [(.one (.ref 0 0)), (.one (.pv (.int .i64 most)))] [[(.pv (.ints .u8 l false)), (.pv (.int .i64 n)), (.pv (.int .i64 n2))]] []
    [.br false, .res ([(.one (.pv (.int .u64 n3))), (.one (.pv (.int .i64 n4)))], [], []), .res ([(.one (.pv (.int .u64 n3))), (.one (.pv (.int .i64 n4)))], [], []), .br false, .br false, .br false, .br true] =
  some (([(.one (.pv (.str ⟨#[]⟩)))], [[(.pv (.ints .u8 l false)), (.pv (.int .i64 n)), (.pv (.int .i64 6))]], []), [
    (!(decide ((n2 : Int) = 0))) = false,
    Runs Try.prog 41 [(.one (.pv (.ints .u8 l false))), (.one (.pv (.int .i64 n)))] [] [] ([(.one (.pv (.int .u64 n3))), (.one (.pv (.int .i64 n4)))], [], []),
    Runs Try.prog 41 [(.one (.pv (.ints .u8 l false))), (.one (.pv (.int .i64 n)))] [] [] ([(.one (.pv (.int .u64 n3))), (.one (.pv (.int .i64 n4)))], [], []),
    (⟨[(0, (.av (.one (.ref 0 0)))), (1, (.av (.one (.pv (.int .i64 most))))), (5, (.av (.one (.pv (.int .u64 n3))))), (6, (.av (.one (.pv (.int .i64 n4)))))], [(0, [(.pv (.ints .u8 l false)), (.pv (.int .i64 n)), (.pv (.int .i64 n2))])], []⟩ : St) = ⟨[(0, (.av (.one (.ref 0 0)))), (1, (.av (.one (.pv (.int .i64 most))))), (5, (.av (.one (.pv (.int .u64 n3))))), (6, (.av (.one (.pv (.int .i64 n4)))))], [(0, [(.pv (.ints .u8 l false)), (.pv (.int .i64 n)), (.pv (.int .i64 n2))])], []⟩,
    (decide ((n4 : Int) = 0)) = false,
    (decide ((most : Int) < 0)) = false,
    (decide (((IntKind.u64.wrap most) : Int) < n3)) = false,
    (⟨[(0, (.av (.one (.ref 0 0)))), (5, (.av (.one (.pv (.int .u64 n3))))), (6, (.av (.one (.pv (.int .i64 n4))))), (54, (.av (.one (.pv (.bool (decide (((IntKind.u64.wrap (isub .i64 (isub .i64 ((l).length : Int) n) n4)) : Int) < n3)))))))], [(0, [(.pv (.ints .u8 l false)), (.pv (.int .i64 n)), (.pv (.int .i64 n2))])], []⟩ : St) = ⟨[(0, (.av (.one (.ref 0 0)))), (5, (.av (.one (.pv (.int .u64 n3))))), (6, (.av (.one (.pv (.int .i64 n4))))), (54, (.av (.one (.pv (.bool (decide (((IntKind.u64.wrap (isub .i64 (isub .i64 ((l).length : Int) n) n4)) : Int) < n3)))))))], [(0, [(.pv (.ints .u8 l false)), (.pv (.int .i64 n)), (.pv (.int .i64 n2))])], []⟩,
    (decide (((IntKind.u64.wrap (isub .i64 (isub .i64 ((l).length : Int) n) n4)) : Int) < n3)) = true]) := by kernel_rfl
theorem kinfolkref06_GetText_p4 (most : Int) (l : List Int) (n : Int) (n2 : Int) (n3 : Int) (n4 : Int) : evFn Try.prog cfg (Runs Try.prog) (LRuns Try.prog (lEnv Try.prog cfg 24 1).nt 1) 24 [(.one (.ref 0 0)), (.one (.pv (.int .i64 most)))] [[(.pv (.ints .u8 l false)), (.pv (.int .i64 n)), (.pv (.int .i64 n2))]] []
    [.br false, .res ([(.one (.pv (.int .u64 n3))), (.one (.pv (.int .i64 n4)))], [], []), .res ([(.one (.pv (.int .u64 n3))), (.one (.pv (.int .i64 n4)))], [], []), .br false, .br false, .br false, .br false] =
  some (([(.one (.pv (.str (strOf (List.take ((iadd .i64 n (iadd .i64 n4 (IntKind.i64.wrap n3))) - (isub .i64 (iadd .i64 n (iadd .i64 n4 (IntKind.i64.wrap n3))) (IntKind.i64.wrap n3))).toNat (List.drop ((isub .i64 (iadd .i64 n (iadd .i64 n4 (IntKind.i64.wrap n3))) (IntKind.i64.wrap n3))).toNat l))))))], [[(.pv (.ints .u8 l false)), (.pv (.int .i64 (iadd .i64 n (iadd .i64 n4 (IntKind.i64.wrap n3))))), (.pv (.int .i64 n2))]], []), [
    (!(decide ((n2 : Int) = 0))) = false,
    Runs Try.prog 41 [(.one (.pv (.ints .u8 l false))), (.one (.pv (.int .i64 n)))] [] [] ([(.one (.pv (.int .u64 n3))), (.one (.pv (.int .i64 n4)))], [], []),
    Runs Try.prog 41 [(.one (.pv (.ints .u8 l false))), (.one (.pv (.int .i64 n)))] [] [] ([(.one (.pv (.int .u64 n3))), (.one (.pv (.int .i64 n4)))], [], []),
    (⟨[(0, (.av (.one (.ref 0 0)))), (1, (.av (.one (.pv (.int .i64 most))))), (5, (.av (.one (.pv (.int .u64 n3))))), (6, (.av (.one (.pv (.int .i64 n4)))))], [(0, [(.pv (.ints .u8 l false)), (.pv (.int .i64 n)), (.pv (.int .i64 n2))])], []⟩ : St) = ⟨[(0, (.av (.one (.ref 0 0)))), (1, (.av (.one (.pv (.int .i64 most))))), (5, (.av (.one (.pv (.int .u64 n3))))), (6, (.av (.one (.pv (.int .i64 n4)))))], [(0, [(.pv (.ints .u8 l false)), (.pv (.int .i64 n)), (.pv (.int .i64 n2))])], []⟩,
    (decide ((n4 : Int) = 0)) = false,
    (decide ((most : Int) < 0)) = false,
    (decide (((IntKind.u64.wrap most) : Int) < n3)) = false,
    (⟨[(0, (.av (.one (.ref 0 0)))), (5, (.av (.one (.pv (.int .u64 n3))))), (6, (.av (.one (.pv (.int .i64 n4))))), (54, (.av (.one (.pv (.bool (decide (((IntKind.u64.wrap (isub .i64 (isub .i64 ((l).length : Int) n) n4)) : Int) < n3)))))))], [(0, [(.pv (.ints .u8 l false)), (.pv (.int .i64 n)), (.pv (.int .i64 n2))])], []⟩ : St) = ⟨[(0, (.av (.one (.ref 0 0)))), (5, (.av (.one (.pv (.int .u64 n3))))), (6, (.av (.one (.pv (.int .i64 n4))))), (54, (.av (.one (.pv (.bool (decide (((IntKind.u64.wrap (isub .i64 (isub .i64 ((l).length : Int) n) n4)) : Int) < n3)))))))], [(0, [(.pv (.ints .u8 l false)), (.pv (.int .i64 n)), (.pv (.int .i64 n2))])], []⟩,
    (decide (((IntKind.u64.wrap (isub .i64 (isub .i64 ((l).length : Int) n) n4)) : Int) < n3)) = false,
    (decide ((0 : Int) ≤ (isub .i64 (iadd .i64 n (iadd .i64 n4 (IntKind.i64.wrap n3))) (IntKind.i64.wrap n3))) && decide (((isub .i64 (iadd .i64 n (iadd .i64 n4 (IntKind.i64.wrap n3))) (IntKind.i64.wrap n3)) : Int) ≤ (iadd .i64 n (iadd .i64 n4 (IntKind.i64.wrap n3)))) && decide (((iadd .i64 n (iadd .i64 n4 (IntKind.i64.wrap n3))) : Int) ≤ ((l).length : Int)) && decide (((iadd .i64 n (iadd .i64 n4 (IntKind.i64.wrap n3))) : Int) = (iadd .i64 n (iadd .i64 n4 (IntKind.i64.wrap n3))))) = true,
    (decide ((0 : Int) ≤ (isub .i64 (iadd .i64 n (iadd .i64 n4 (IntKind.i64.wrap n3))) (IntKind.i64.wrap n3))) && decide (((isub .i64 (iadd .i64 n (iadd .i64 n4 (IntKind.i64.wrap n3))) (IntKind.i64.wrap n3)) : Int) ≤ (iadd .i64 n (iadd .i64 n4 (IntKind.i64.wrap n3)))) && decide (((iadd .i64 n (iadd .i64 n4 (IntKind.i64.wrap n3))) : Int) ≤ ((l).length : Int)) && decide (((iadd .i64 n (iadd .i64 n4 (IntKind.i64.wrap n3))) : Int) = (iadd .i64 n (iadd .i64 n4 (IntKind.i64.wrap n3))))) = true,
    (⟨[(4, (.av (.one (.pv (.str (strOf (List.take ((iadd .i64 n (iadd .i64 n4 (IntKind.i64.wrap n3))) - (isub .i64 (iadd .i64 n (iadd .i64 n4 (IntKind.i64.wrap n3))) (IntKind.i64.wrap n3))).toNat (List.drop ((isub .i64 (iadd .i64 n (iadd .i64 n4 (IntKind.i64.wrap n3))) (IntKind.i64.wrap n3))).toNat l))))))))], [(0, [(.pv (.ints .u8 l false)), (.pv (.int .i64 (iadd .i64 n (iadd .i64 n4 (IntKind.i64.wrap n3))))), (.pv (.int .i64 n2))])], []⟩ : St) = ⟨[(4, (.av (.one (.pv (.str (strOf (List.take ((iadd .i64 n (iadd .i64 n4 (IntKind.i64.wrap n3))) - (isub .i64 (iadd .i64 n (iadd .i64 n4 (IntKind.i64.wrap n3))) (IntKind.i64.wrap n3))).toNat (List.drop ((isub .i64 (iadd .i64 n (iadd .i64 n4 (IntKind.i64.wrap n3))) (IntKind.i64.wrap n3))).toNat l))))))))], [(0, [(.pv (.ints .u8 l false)), (.pv (.int .i64 (iadd .i64 n (iadd .i64 n4 (IntKind.i64.wrap n3))))), (.pv (.int .i64 n2))])], []⟩,
    (decide ((0 : Int) ≤ (isub .i64 (iadd .i64 n (iadd .i64 n4 (IntKind.i64.wrap n3))) (IntKind.i64.wrap n3))) && decide (((isub .i64 (iadd .i64 n (iadd .i64 n4 (IntKind.i64.wrap n3))) (IntKind.i64.wrap n3)) : Int) ≤ (iadd .i64 n (iadd .i64 n4 (IntKind.i64.wrap n3)))) && decide (((iadd .i64 n (iadd .i64 n4 (IntKind.i64.wrap n3))) : Int) ≤ ((l).length : Int)) && decide (((iadd .i64 n (iadd .i64 n4 (IntKind.i64.wrap n3))) : Int) = (iadd .i64 n (iadd .i64 n4 (IntKind.i64.wrap n3))))) = true,
    (decide ((0 : Int) ≤ (isub .i64 (iadd .i64 n (iadd .i64 n4 (IntKind.i64.wrap n3))) (IntKind.i64.wrap n3))) && decide (((isub .i64 (iadd .i64 n (iadd .i64 n4 (IntKind.i64.wrap n3))) (IntKind.i64.wrap n3)) : Int) ≤ (iadd .i64 n (iadd .i64 n4 (IntKind.i64.wrap n3)))) && decide (((iadd .i64 n (iadd .i64 n4 (IntKind.i64.wrap n3))) : Int) ≤ ((l).length : Int)) && decide (((iadd .i64 n (iadd .i64 n4 (IntKind.i64.wrap n3))) : Int) = (iadd .i64 n (iadd .i64 n4 (IntKind.i64.wrap n3))))) = true,
    (⟨[(4, (.av (.one (.pv (.str (strOf (List.take ((iadd .i64 n (iadd .i64 n4 (IntKind.i64.wrap n3))) - (isub .i64 (iadd .i64 n (iadd .i64 n4 (IntKind.i64.wrap n3))) (IntKind.i64.wrap n3))).toNat (List.drop ((isub .i64 (iadd .i64 n (iadd .i64 n4 (IntKind.i64.wrap n3))) (IntKind.i64.wrap n3))).toNat l))))))))], [(0, [(.pv (.ints .u8 l false)), (.pv (.int .i64 (iadd .i64 n (iadd .i64 n4 (IntKind.i64.wrap n3))))), (.pv (.int .i64 n2))])], []⟩ : St) = ⟨[(4, (.av (.one (.pv (.str (strOf (List.take ((iadd .i64 n (iadd .i64 n4 (IntKind.i64.wrap n3))) - (isub .i64 (iadd .i64 n (iadd .i64 n4 (IntKind.i64.wrap n3))) (IntKind.i64.wrap n3))).toNat (List.drop ((isub .i64 (iadd .i64 n (iadd .i64 n4 (IntKind.i64.wrap n3))) (IntKind.i64.wrap n3))).toNat l))))))))], [(0, [(.pv (.ints .u8 l false)), (.pv (.int .i64 (iadd .i64 n (iadd .i64 n4 (IntKind.i64.wrap n3))))), (.pv (.int .i64 n2))])], []⟩,
    (⟨[(4, (.av (.one (.pv (.str (strOf (List.take ((iadd .i64 n (iadd .i64 n4 (IntKind.i64.wrap n3))) - (isub .i64 (iadd .i64 n (iadd .i64 n4 (IntKind.i64.wrap n3))) (IntKind.i64.wrap n3))).toNat (List.drop ((isub .i64 (iadd .i64 n (iadd .i64 n4 (IntKind.i64.wrap n3))) (IntKind.i64.wrap n3))).toNat l))))))))], [(0, [(.pv (.ints .u8 l false)), (.pv (.int .i64 (iadd .i64 n (iadd .i64 n4 (IntKind.i64.wrap n3))))), (.pv (.int .i64 n2))])], []⟩ : St) = ⟨[(4, (.av (.one (.pv (.str (strOf (List.take ((iadd .i64 n (iadd .i64 n4 (IntKind.i64.wrap n3))) - (isub .i64 (iadd .i64 n (iadd .i64 n4 (IntKind.i64.wrap n3))) (IntKind.i64.wrap n3))).toNat (List.drop ((isub .i64 (iadd .i64 n (iadd .i64 n4 (IntKind.i64.wrap n3))) (IntKind.i64.wrap n3))).toNat l))))))))], [(0, [(.pv (.ints .u8 l false)), (.pv (.int .i64 (iadd .i64 n (iadd .i64 n4 (IntKind.i64.wrap n3))))), (.pv (.int .i64 n2))])], []⟩,
    (decide ((0 : Int) ≤ (isub .i64 (iadd .i64 n (iadd .i64 n4 (IntKind.i64.wrap n3))) (IntKind.i64.wrap n3))) && decide (((isub .i64 (iadd .i64 n (iadd .i64 n4 (IntKind.i64.wrap n3))) (IntKind.i64.wrap n3)) : Int) ≤ (iadd .i64 n (iadd .i64 n4 (IntKind.i64.wrap n3)))) && decide (((iadd .i64 n (iadd .i64 n4 (IntKind.i64.wrap n3))) : Int) ≤ ((l).length : Int)) && decide (((iadd .i64 n (iadd .i64 n4 (IntKind.i64.wrap n3))) : Int) = (iadd .i64 n (iadd .i64 n4 (IntKind.i64.wrap n3))))) = true,
    (decide ((0 : Int) ≤ (isub .i64 (iadd .i64 n (iadd .i64 n4 (IntKind.i64.wrap n3))) (IntKind.i64.wrap n3))) && decide (((isub .i64 (iadd .i64 n (iadd .i64 n4 (IntKind.i64.wrap n3))) (IntKind.i64.wrap n3)) : Int) ≤ (iadd .i64 n (iadd .i64 n4 (IntKind.i64.wrap n3)))) && decide (((iadd .i64 n (iadd .i64 n4 (IntKind.i64.wrap n3))) : Int) ≤ ((l).length : Int)) && decide (((iadd .i64 n (iadd .i64 n4 (IntKind.i64.wrap n3))) : Int) = (iadd .i64 n (iadd .i64 n4 (IntKind.i64.wrap n3))))) = true,
    (⟨[(4, (.av (.one (.pv (.str (strOf (List.take ((iadd .i64 n (iadd .i64 n4 (IntKind.i64.wrap n3))) - (isub .i64 (iadd .i64 n (iadd .i64 n4 (IntKind.i64.wrap n3))) (IntKind.i64.wrap n3))).toNat (List.drop ((isub .i64 (iadd .i64 n (iadd .i64 n4 (IntKind.i64.wrap n3))) (IntKind.i64.wrap n3))).toNat l))))))))], [(0, [(.pv (.ints .u8 l false)), (.pv (.int .i64 (iadd .i64 n (iadd .i64 n4 (IntKind.i64.wrap n3))))), (.pv (.int .i64 n2))])], []⟩ : St) = ⟨[(4, (.av (.one (.pv (.str (strOf (List.take ((iadd .i64 n (iadd .i64 n4 (IntKind.i64.wrap n3))) - (isub .i64 (iadd .i64 n (iadd .i64 n4 (IntKind.i64.wrap n3))) (IntKind.i64.wrap n3))).toNat (List.drop ((isub .i64 (iadd .i64 n (iadd .i64 n4 (IntKind.i64.wrap n3))) (IntKind.i64.wrap n3))).toNat l))))))))], [(0, [(.pv (.ints .u8 l false)), (.pv (.int .i64 (iadd .i64 n (iadd .i64 n4 (IntKind.i64.wrap n3))))), (.pv (.int .i64 n2))])], []⟩,
    (⟨[(4, (.av (.one (.pv (.str (strOf (List.take ((iadd .i64 n (iadd .i64 n4 (IntKind.i64.wrap n3))) - (isub .i64 (iadd .i64 n (iadd .i64 n4 (IntKind.i64.wrap n3))) (IntKind.i64.wrap n3))).toNat (List.drop ((isub .i64 (iadd .i64 n (iadd .i64 n4 (IntKind.i64.wrap n3))) (IntKind.i64.wrap n3))).toNat l))))))))], [(0, [(.pv (.ints .u8 l false)), (.pv (.int .i64 (iadd .i64 n (iadd .i64 n4 (IntKind.i64.wrap n3))))), (.pv (.int .i64 n2))])], []⟩ : St) = ⟨[(4, (.av (.one (.pv (.str (strOf (List.take ((iadd .i64 n (iadd .i64 n4 (IntKind.i64.wrap n3))) - (isub .i64 (iadd .i64 n (iadd .i64 n4 (IntKind.i64.wrap n3))) (IntKind.i64.wrap n3))).toNat (List.drop ((isub .i64 (iadd .i64 n (iadd .i64 n4 (IntKind.i64.wrap n3))) (IntKind.i64.wrap n3))).toNat l))))))))], [(0, [(.pv (.ints .u8 l false)), (.pv (.int .i64 (iadd .i64 n (iadd .i64 n4 (IntKind.i64.wrap n3))))), (.pv (.int .i64 n2))])], []⟩]) := by kernel_rfl
theorem kinfolkref06_GetText_p5 (most : Int) (l : List Int) (n : Int) (n2 : Int) : evFn Try.prog cfg (Runs Try.prog) (LRuns Try.prog (lEnv Try.prog cfg 24 1).nt 1) 24 [(.one (.ref 0 0)), (.one (.pv (.int .i64 most)))] [[(.pv (.ints .u8 l false)), (.pv (.int .i64 n)), (.pv (.int .i64 n2))]] []
    [.br true] =
  some (([(.one (.pv (.str ⟨#[]⟩)))], [[(.pv (.ints .u8 l false)), (.pv (.int .i64 n)), (.pv (.int .i64 n2))]], []), [
    (!(decide ((n2 : Int) = 0))) = true]) := by kernel_rfl
noncomputable def kinfolkref06_GetText (most : Int) (l : List Int) (n : Int) (n2 : Int) : Option (ByteArray × Int × Int) :=
  bif (decide ((n2 : Int) = 0)) then
    (kinfolkref06_number l n).bind fun (n3, n4) =>
    bif (decide ((n4 : Int) = 0)) then
      some (⟨#[]⟩, n, 6)
    else
      bif (decide ((most : Int) < 0)) then
        some (⟨#[]⟩, n, 9)
      else
        bif (decide (((IntKind.u64.wrap most) : Int) < n3)) then
          some (⟨#[]⟩, n, 9)
        else
          bif (decide (((IntKind.u64.wrap (isub .i64 (isub .i64 ((l).length : Int) n) n4)) : Int) < n3)) then
            some (⟨#[]⟩, n, 6)
          else
            bif decide ((0 : Int) ≤ (isub .i64 (iadd .i64 n (iadd .i64 n4 (IntKind.i64.wrap n3))) (IntKind.i64.wrap n3))) && decide (((isub .i64 (iadd .i64 n (iadd .i64 n4 (IntKind.i64.wrap n3))) (IntKind.i64.wrap n3)) : Int) ≤ (iadd .i64 n (iadd .i64 n4 (IntKind.i64.wrap n3)))) && decide (((iadd .i64 n (iadd .i64 n4 (IntKind.i64.wrap n3))) : Int) ≤ ((l).length : Int)) && decide (((iadd .i64 n (iadd .i64 n4 (IntKind.i64.wrap n3))) : Int) = (iadd .i64 n (iadd .i64 n4 (IntKind.i64.wrap n3)))) then
            some ((strOf (List.take ((iadd .i64 n (iadd .i64 n4 (IntKind.i64.wrap n3))) - (isub .i64 (iadd .i64 n (iadd .i64 n4 (IntKind.i64.wrap n3))) (IntKind.i64.wrap n3))).toNat (List.drop ((isub .i64 (iadd .i64 n (iadd .i64 n4 (IntKind.i64.wrap n3))) (IntKind.i64.wrap n3))).toNat l))), (iadd .i64 n (iadd .i64 n4 (IntKind.i64.wrap n3))), n2)
            else none
  else
    some (⟨#[]⟩, n, n2)
theorem kinfolkref06_GetText_runs (most : Int) (l : List Int) (n : Int) (n2 : Int) (r_ : ByteArray × Int × Int) (h : kinfolkref06_GetText most l n n2 = some r_) : Runs Try.prog 24 [(.one (.ref 0 0)), (.one (.pv (.int .i64 most)))] [[(.pv (.ints .u8 l false)), (.pv (.int .i64 n)), (.pv (.int .i64 n2))]] [] (kinfolkref06_GetText_out most l n n2 r_) := by
  unfold kinfolkref06_GetText at h
  rcases cond_of h with ⟨h1, h⟩ | ⟨h1, h⟩
  · obtain ⟨⟨n3, n4⟩, h2, h⟩ := bind_of h
    rcases cond_of h with ⟨h3, h⟩ | ⟨h3, h⟩
    · have h := some_of h
      subst h
      have e_ := kinfolkref06_GetText_p0 most l n n2 n3 n4
      have e_ := runs_of (objs := [[(.pv (.ints .u8 l false)), (.pv (.int .i64 n)), (.pv (.int .i64 n2))]]) (Says.of e_ ⟨(not_of2 h1), (kinfolkref06_number_runs l n _ h2), (kinfolkref06_number_runs l n _ h2), rfl, h3, trivial⟩)
      exact e_
    · rcases cond_of h with ⟨h4, h⟩ | ⟨h4, h⟩
      · have h := some_of h
        subst h
        have e_ := kinfolkref06_GetText_p1 most l n n2 n3 n4
        have e_ := runs_of (objs := [[(.pv (.ints .u8 l false)), (.pv (.int .i64 n)), (.pv (.int .i64 n2))]]) (Says.of e_ ⟨(not_of2 h1), (kinfolkref06_number_runs l n _ h2), (kinfolkref06_number_runs l n _ h2), rfl, h3, h4, rfl, trivial⟩)
        exact e_
      · rcases cond_of h with ⟨h5, h⟩ | ⟨h5, h⟩
        · have h := some_of h
          subst h
          have e_ := kinfolkref06_GetText_p2 most l n n2 n3 n4
          have e_ := runs_of (objs := [[(.pv (.ints .u8 l false)), (.pv (.int .i64 n)), (.pv (.int .i64 n2))]]) (Says.of e_ ⟨(not_of2 h1), (kinfolkref06_number_runs l n _ h2), (kinfolkref06_number_runs l n _ h2), rfl, h3, h4, h5, trivial⟩)
          exact e_
        · rcases cond_of h with ⟨h6, h⟩ | ⟨h6, h⟩
          · have h := some_of h
            subst h
            have e_ := kinfolkref06_GetText_p3 most l n n2 n3 n4
            have e_ := runs_of (objs := [[(.pv (.ints .u8 l false)), (.pv (.int .i64 n)), (.pv (.int .i64 n2))]]) (Says.of e_ ⟨(not_of2 h1), (kinfolkref06_number_runs l n _ h2), (kinfolkref06_number_runs l n _ h2), rfl, h3, h4, h5, rfl, h6, trivial⟩)
            exact e_
          · obtain ⟨h7, h⟩ := need_of h
            have h := some_of h
            subst h
            have e_ := kinfolkref06_GetText_p4 most l n n2 n3 n4
            have e_ := runs_of (objs := [[(.pv (.ints .u8 l false)), (.pv (.int .i64 n)), (.pv (.int .i64 n2))]]) (Says.of e_ ⟨(not_of2 h1), (kinfolkref06_number_runs l n _ h2), (kinfolkref06_number_runs l n _ h2), rfl, h3, h4, h5, rfl, h6, h7, h7, rfl, h7, h7, rfl, rfl, h7, h7, rfl, rfl, trivial⟩)
            exact e_
  · have h := some_of h
    subst h
    have e_ := kinfolkref06_GetText_p5 most l n n2
    have e_ := runs_of (objs := [[(.pv (.ints .u8 l false)), (.pv (.int .i64 n)), (.pv (.int .i64 n2))]]) (Says.of e_ ⟨(not_of h1), trivial⟩)
    exact e_
/-! ### kinfolkref06_Fail -/
def kinfolkref06_Fail_out (e : Int) (l : List Int) (n : Int) (n2 : Int) : Int → Res
  | r1 => ([], [[(.pv (.ints .u8 l false)), (.pv (.int .i64 n)), (.pv (.int .i64 r1))]], [])
theorem kinfolkref06_Fail_p0 (e : Int) (l : List Int) (n : Int) (n2 : Int) : evFn Try.prog cfg (Runs Try.prog) (LRuns Try.prog (lEnv Try.prog cfg 26 1).nt 1) 26 [(.one (.ref 0 0)), (.one (.pv (.int .i64 e)))] [[(.pv (.ints .u8 l false)), (.pv (.int .i64 n)), (.pv (.int .i64 n2))]] []
    [.br true] =
  some (([], [[(.pv (.ints .u8 l false)), (.pv (.int .i64 n)), (.pv (.int .i64 e))]], []), [
    (decide ((n2 : Int) = 0)) = true]) := by kernel_rfl
theorem kinfolkref06_Fail_p1 (e : Int) (l : List Int) (n : Int) (n2 : Int) : evFn Try.prog cfg (Runs Try.prog) (LRuns Try.prog (lEnv Try.prog cfg 26 1).nt 1) 26 [(.one (.ref 0 0)), (.one (.pv (.int .i64 e)))] [[(.pv (.ints .u8 l false)), (.pv (.int .i64 n)), (.pv (.int .i64 n2))]] []
    [.br false] =
  some (([], [[(.pv (.ints .u8 l false)), (.pv (.int .i64 n)), (.pv (.int .i64 n2))]], []), [
    (decide ((n2 : Int) = 0)) = false]) := by kernel_rfl
noncomputable def kinfolkref06_Fail (e : Int) (l : List Int) (n : Int) (n2 : Int) : Option (Int) :=
  bif (decide ((n2 : Int) = 0)) then
    some e
  else
    some n2
theorem kinfolkref06_Fail_runs (e : Int) (l : List Int) (n : Int) (n2 : Int) (r_ : Int) (h : kinfolkref06_Fail e l n n2 = some r_) : Runs Try.prog 26 [(.one (.ref 0 0)), (.one (.pv (.int .i64 e)))] [[(.pv (.ints .u8 l false)), (.pv (.int .i64 n)), (.pv (.int .i64 n2))]] [] (kinfolkref06_Fail_out e l n n2 r_) := by
  unfold kinfolkref06_Fail at h
  rcases cond_of h with ⟨h1, h⟩ | ⟨h1, h⟩
  · have h := some_of h
    subst h
    have e_ := kinfolkref06_Fail_p0 e l n n2
    have e_ := runs_of (objs := [[(.pv (.ints .u8 l false)), (.pv (.int .i64 n)), (.pv (.int .i64 n2))]]) (Says.of e_ ⟨h1, trivial⟩)
    exact e_
  · have h := some_of h
    subst h
    have e_ := kinfolkref06_Fail_p1 e l n n2
    have e_ := runs_of (objs := [[(.pv (.ints .u8 l false)), (.pv (.int .i64 n)), (.pv (.int .i64 n2))]]) (Says.of e_ ⟨h1, trivial⟩)
    exact e_
/-! ### wire_In_End -/
def wire_In_End_out (l : List Int) (n : Int) : Int × Int → Res
  | (r1, r2) => ([(.one (.pv (.int .i64 r1)))], [[(.pv (.ints .u8 l false)), (.pv (.int .i64 r2))]], [])
theorem wire_In_End_p0 (l : List Int) (n : Int) (n2 : Int) (n3 : Int) : evFn Try.prog cfg (Runs Try.prog) (LRuns Try.prog (lEnv Try.prog cfg 27 1).nt 1) 27 [(.one (.ref 0 0))] [[(.pv (.ints .u8 l false)), (.pv (.int .i64 n))]] []
    [.res ([(.one (.pv (.int .i64 n2)))], [[(.pv (.ints .u8 l false)), (.pv (.int .i64 n))]], []), .br true, .res ([], [[(.pv (.ints .u8 l false)), (.pv (.int .i64 n3))]], []), .res ([(.one (.pv (.int .i64 n3)))], [[(.pv (.ints .u8 l false)), (.pv (.int .i64 n3))]], [])] =
  some (([(.one (.pv (.int .i64 n3)))], [[(.pv (.ints .u8 l false)), (.pv (.int .i64 n3))]], []), [
    Runs Try.prog 30 [(.one (.ref 0 0))] [[(.pv (.ints .u8 l false)), (.pv (.int .i64 n))]] [] ([(.one (.pv (.int .i64 n2)))], [[(.pv (.ints .u8 l false)), (.pv (.int .i64 n))]], []),
    (decide ((0 : Int) < n2)) = true,
    Runs Try.prog 25 [(.one (.ref 0 0)), (.one (.pv (.int .i64 6)))] [[(.pv (.ints .u8 l false)), (.pv (.int .i64 n))]] [] ([], [[(.pv (.ints .u8 l false)), (.pv (.int .i64 n3))]], []),
    Runs Try.prog 29 [(.one (.ref 0 0))] [[(.pv (.ints .u8 l false)), (.pv (.int .i64 n3))]] [] ([(.one (.pv (.int .i64 n3)))], [[(.pv (.ints .u8 l false)), (.pv (.int .i64 n3))]], [])]) := by kernel_rfl
theorem wire_In_End_p1 (l : List Int) (n : Int) (n2 : Int) : evFn Try.prog cfg (Runs Try.prog) (LRuns Try.prog (lEnv Try.prog cfg 27 1).nt 1) 27 [(.one (.ref 0 0))] [[(.pv (.ints .u8 l false)), (.pv (.int .i64 n))]] []
    [.res ([(.one (.pv (.int .i64 n2)))], [[(.pv (.ints .u8 l false)), (.pv (.int .i64 n))]], []), .br false, .res ([(.one (.pv (.int .i64 n)))], [[(.pv (.ints .u8 l false)), (.pv (.int .i64 n))]], [])] =
  some (([(.one (.pv (.int .i64 n)))], [[(.pv (.ints .u8 l false)), (.pv (.int .i64 n))]], []), [
    Runs Try.prog 30 [(.one (.ref 0 0))] [[(.pv (.ints .u8 l false)), (.pv (.int .i64 n))]] [] ([(.one (.pv (.int .i64 n2)))], [[(.pv (.ints .u8 l false)), (.pv (.int .i64 n))]], []),
    (decide ((0 : Int) < n2)) = false,
    Runs Try.prog 29 [(.one (.ref 0 0))] [[(.pv (.ints .u8 l false)), (.pv (.int .i64 n))]] [] ([(.one (.pv (.int .i64 n)))], [[(.pv (.ints .u8 l false)), (.pv (.int .i64 n))]], [])]) := by kernel_rfl
noncomputable def wire_In_End (l : List Int) (n : Int) : Option (Int × Int) :=
  (wire_In_Left l n).bind fun n2 =>
  bif (decide ((0 : Int) < n2)) then
    (wire_In_Fail 6 l n).bind fun n3 =>
    (wire_In_Err l n3).bind fun _ =>
    some (n3, n3)
  else
    (wire_In_Err l n).bind fun _ =>
    some (n, n)
theorem wire_In_End_runs (l : List Int) (n : Int) (r_ : Int × Int) (h : wire_In_End l n = some r_) : Runs Try.prog 27 [(.one (.ref 0 0))] [[(.pv (.ints .u8 l false)), (.pv (.int .i64 n))]] [] (wire_In_End_out l n r_) := by
  unfold wire_In_End at h
  obtain ⟨n2, h1, h⟩ := bind_of h
  rcases cond_of h with ⟨h2, h⟩ | ⟨h2, h⟩
  · obtain ⟨n3, h3, h⟩ := bind_of h
    obtain ⟨_, h4, h⟩ := bind_of h
    have h := some_of h
    subst h
    have e_ := wire_In_End_p0 l n n2 n3
    have e_ := runs_of (objs := [[(.pv (.ints .u8 l false)), (.pv (.int .i64 n))]]) (Says.of e_ ⟨(wire_In_Left_runs l n _ h1), h2, (wire_In_Fail_runs 6 l n _ h3), (wire_In_Err_runs l n3 _ h4), trivial⟩)
    exact e_
  · obtain ⟨_, h3, h⟩ := bind_of h
    have h := some_of h
    subst h
    have e_ := wire_In_End_p1 l n n2
    have e_ := runs_of (objs := [[(.pv (.ints .u8 l false)), (.pv (.int .i64 n))]]) (Says.of e_ ⟨(wire_In_Left_runs l n _ h1), h2, (wire_In_Err_runs l n _ h3), trivial⟩)
    exact e_
/-! ### kinfolkref06_End -/
def kinfolkref06_End_out (l : List Int) (n : Int) (n2 : Int) : Int × Int → Res
  | (r1, r2) => ([(.one (.pv (.int .i64 r1)))], [[(.pv (.ints .u8 l false)), (.pv (.int .i64 n)), (.pv (.int .i64 r2))]], [])
theorem kinfolkref06_End_p0 (l : List Int) (n : Int) (n2 : Int) (n3 : Int) : evFn Try.prog cfg (Runs Try.prog) (LRuns Try.prog (lEnv Try.prog cfg 28 1).nt 1) 28 [(.one (.ref 0 0))] [[(.pv (.ints .u8 l false)), (.pv (.int .i64 n)), (.pv (.int .i64 n2))]] []
    [.br true, .res ([], [[(.pv (.ints .u8 l false)), (.pv (.int .i64 n)), (.pv (.int .i64 n3))]], [])] =
  some (([(.one (.pv (.int .i64 n3)))], [[(.pv (.ints .u8 l false)), (.pv (.int .i64 n)), (.pv (.int .i64 n3))]], []), [
    (⟨[(0, (.av (.one (.ref 0 0)))), (12, (.av (.one (.pv (.bool (decide ((n : Int) < ((l).length : Int))))))))], [(0, [(.pv (.ints .u8 l false)), (.pv (.int .i64 n)), (.pv (.int .i64 n2))])], []⟩ : St) = ⟨[(0, (.av (.one (.ref 0 0)))), (12, (.av (.one (.pv (.bool (decide ((n : Int) < ((l).length : Int))))))))], [(0, [(.pv (.ints .u8 l false)), (.pv (.int .i64 n)), (.pv (.int .i64 n2))])], []⟩,
    (decide ((n : Int) < ((l).length : Int))) = true,
    Runs Try.prog 26 [(.one (.ref 0 0)), (.one (.pv (.int .i64 6)))] [[(.pv (.ints .u8 l false)), (.pv (.int .i64 n)), (.pv (.int .i64 n2))]] [] ([], [[(.pv (.ints .u8 l false)), (.pv (.int .i64 n)), (.pv (.int .i64 n3))]], [])]) := by kernel_rfl
theorem kinfolkref06_End_p1 (l : List Int) (n : Int) (n2 : Int) : evFn Try.prog cfg (Runs Try.prog) (LRuns Try.prog (lEnv Try.prog cfg 28 1).nt 1) 28 [(.one (.ref 0 0))] [[(.pv (.ints .u8 l false)), (.pv (.int .i64 n)), (.pv (.int .i64 n2))]] []
    [.br false] =
  some (([(.one (.pv (.int .i64 n2)))], [[(.pv (.ints .u8 l false)), (.pv (.int .i64 n)), (.pv (.int .i64 n2))]], []), [
    (⟨[(0, (.av (.one (.ref 0 0)))), (12, (.av (.one (.pv (.bool (decide ((n : Int) < ((l).length : Int))))))))], [(0, [(.pv (.ints .u8 l false)), (.pv (.int .i64 n)), (.pv (.int .i64 n2))])], []⟩ : St) = ⟨[(0, (.av (.one (.ref 0 0)))), (12, (.av (.one (.pv (.bool (decide ((n : Int) < ((l).length : Int))))))))], [(0, [(.pv (.ints .u8 l false)), (.pv (.int .i64 n)), (.pv (.int .i64 n2))])], []⟩,
    (decide ((n : Int) < ((l).length : Int))) = false]) := by kernel_rfl
noncomputable def kinfolkref06_End (l : List Int) (n : Int) (n2 : Int) : Option (Int × Int) :=
  bif (decide ((n : Int) < ((l).length : Int))) then
    (kinfolkref06_Fail 6 l n n2).bind fun n3 =>
    some (n3, n3)
  else
    some (n2, n2)
theorem kinfolkref06_End_runs (l : List Int) (n : Int) (n2 : Int) (r_ : Int × Int) (h : kinfolkref06_End l n n2 = some r_) : Runs Try.prog 28 [(.one (.ref 0 0))] [[(.pv (.ints .u8 l false)), (.pv (.int .i64 n)), (.pv (.int .i64 n2))]] [] (kinfolkref06_End_out l n n2 r_) := by
  unfold kinfolkref06_End at h
  rcases cond_of h with ⟨h1, h⟩ | ⟨h1, h⟩
  · obtain ⟨n3, h2, h⟩ := bind_of h
    have h := some_of h
    subst h
    have e_ := kinfolkref06_End_p0 l n n2 n3
    have e_ := runs_of (objs := [[(.pv (.ints .u8 l false)), (.pv (.int .i64 n)), (.pv (.int .i64 n2))]]) (Says.of e_ ⟨rfl, h1, (kinfolkref06_Fail_runs 6 l n n2 _ h2), trivial⟩)
    exact e_
  · have h := some_of h
    subst h
    have e_ := kinfolkref06_End_p1 l n n2
    have e_ := runs_of (objs := [[(.pv (.ints .u8 l false)), (.pv (.int .i64 n)), (.pv (.int .i64 n2))]]) (Says.of e_ ⟨rfl, h1, trivial⟩)
    exact e_

end Go.Proofs.Ytecblpgljmbpeaa
