/- What functions compute, and that they do. -/
import Derived.Test.YtecblpgljmbpeaaCfg
set_option linter.unusedVariables false
set_option linter.unusedSimpArgs false
namespace Go.Proofs.Ytecblpgljmbpeaa
open Go.Ev

/-! ### bytes_Clone -/
theorem bytes_Clone_nil  : evFn Try.prog cfg (Runs Try.prog) (LRuns Try.prog (lEnv Try.prog cfg 37 0).nt 0) 37 [(.one (.pv .nils))] [] []
    [.br true] =
  some (([(.one (.pv .nils))], [], []), [
    true = true]) := by kernel_rfl
theorem bytes_Clone_emp  : evFn Try.prog cfg (Runs Try.prog) (LRuns Try.prog (lEnv Try.prog cfg 37 0).nt 0) 37 [(.one (.pv .emp))] [] []
    [.br false, .br true] =
  some (([(.one (.own 0 0 0 false))], [], [(.ints .u8 [])]), [
    false = false,
    true = true]) := by kernel_rfl
theorem bytes_Clone_fn (l : List Int) (t : Bool) : evFn Try.prog cfg (Runs Try.prog) (LRuns Try.prog (lEnv Try.prog cfg 37 0).nt 0) 37 [(.one (.pv (.ints .u8 l t)))] [] []
    [.br false, .br false] =
  some (([(.one (.own 0 0 (([] ++ l)).length false))], [], [(.ints .u8 ([] ++ l))]), [
    (!(Nat.beq (l).length 0)) = true,
    false = false,
    (!(Nat.beq (l).length 0)) = true,
    (fits (([] ++ l)).length) = true]) := by kernel_rfl
theorem bytes_Clone_runs {l : List Int} {t : Bool} (hl : fits l.length = true) : Runs Try.prog 37 [.one (.pv (.ints .u8 l t))] [] [] ([.one (.pv (.ints .u8 l false))], [], []) := by
  cases l with
  | nil =>
    have h1 : Runs Try.prog 37 [.one (.pv .nils)] [] [] ([.one (.pv (.ints .u8 [] false))], [], []) := by
      have h0 : Runs Try.prog 37 [.one (.pv .nils)] [] [] ([.one (.pv .nils)], [], []) := runs_of (Says.of bytes_Clone_nil ⟨rfl, trivial⟩)
      refine h0.res rfl (Nat.zero_le _) fun y v hs hv => ⟨y, rfl, Ext.refl y, rfl, hs, nils_ints hv⟩
    have h2 : Runs Try.prog 37 [.one (.pv .emp)] [] [] ([.one (.pv (.ints .u8 [] false))], [], []) :=
      Runs.close0 (rw := .ints .u8 []) (runs_of (Says.of bytes_Clone_emp ⟨rfl, rfl, trivial⟩)) rfl
    refine h1.split h2 fun x vals hr => ?_
    match vals, hr with
    | [v], hr =>
      rcases rep_empty hr.1 with h | h
      · exact .inl ⟨h, trivial⟩
      · exact .inr ⟨h, trivial⟩
  | cons a l =>
    have H := bytes_Clone_fn (a :: l) t
    rw [List.nil_append] at H
    exact Runs.close0 (rw := .ints .u8 (a :: l)) (runs_of (Says.of H ⟨by simp [Nat.beq], rfl, by simp [Nat.beq], hl, trivial⟩)) rfl
/-! ### wire_Sum_L1_2 -/
def wire_Sum_L1_2_st (l : List Int) (n : Int) (n2 : Int) : Int × Int → St
  | (r, n3) => ⟨[(3, (.av (.one (.pv (.int .u32 r))))), (6, (.av (.one (.pv (.ints .u8 l false))))), (7, (.av (.one (.pv (.int .i64 n))))), (8, (.av (.one (.pv (.int .i64 n2))))), (16, (.av (.one (.pv (.int .i64 n3)))))], [], []⟩
def wire_Sum_L1_2_ex (l : List Int) (n : Int) (n2 : Int) : Int → Ex × St
  | r1 => ((.exit 2), ⟨[(3, (.av (.one (.pv (.int .u32 r1))))), (6, (.av (.one (.pv (.ints .u8 l false))))), (7, (.av (.one (.pv (.int .i64 n))))), (8, (.av (.one (.pv (.int .i64 n2)))))], [], []⟩)
theorem wire_Sum_L1_2_q0_0 (l : List Int) (n : Int) (n2 : Int) (r : Int) (n3 : Int) : evRound (lEnv Try.prog cfg 11 0) (loopAt Try.prog 11 1) ⟨[(3, (.av (.one (.pv (.int .u32 r))))), (6, (.av (.one (.pv (.ints .u8 l false))))), (7, (.av (.one (.pv (.int .i64 n))))), (8, (.av (.one (.pv (.int .i64 n2))))), (16, (.av (.one (.pv (.int .i64 n3)))))], [], []⟩
    [.br true, .br true] =
  some ((.normal, ⟨[(3, (.av (.one (.pv (.int .u32 (ixor .u32 (ishr .u32 r 1) 3988292384)))))), (6, (.av (.one (.pv (.ints .u8 l false))))), (7, (.av (.one (.pv (.int .i64 n))))), (8, (.av (.one (.pv (.int .i64 n2))))), (16, (.av (.one (.pv (.int .i64 (iadd .i64 n3 1))))))], [], []⟩), [
    (decide ((n3 : Int) < 8)) = true,
    (decide (((iand .u32 r 1) : Int) = 1)) = true,
    true = true]) := by kernel_rfl
theorem wire_Sum_L1_2_q0_1 (l : List Int) (n : Int) (n2 : Int) (r : Int) (n3 : Int) : evRound (lEnv Try.prog cfg 11 0) (loopAt Try.prog 11 1) ⟨[(3, (.av (.one (.pv (.int .u32 r))))), (6, (.av (.one (.pv (.ints .u8 l false))))), (7, (.av (.one (.pv (.int .i64 n))))), (8, (.av (.one (.pv (.int .i64 n2))))), (16, (.av (.one (.pv (.int .i64 n3)))))], [], []⟩
    [.br true, .br false] =
  some ((.normal, ⟨[(3, (.av (.one (.pv (.int .u32 (ishr .u32 r 1)))))), (6, (.av (.one (.pv (.ints .u8 l false))))), (7, (.av (.one (.pv (.int .i64 n))))), (8, (.av (.one (.pv (.int .i64 n2))))), (16, (.av (.one (.pv (.int .i64 (iadd .i64 n3 1))))))], [], []⟩), [
    (decide ((n3 : Int) < 8)) = true,
    (decide (((iand .u32 r 1) : Int) = 1)) = false,
    true = true]) := by kernel_rfl
theorem wire_Sum_L1_2_q0_2 (l : List Int) (n : Int) (n2 : Int) (r : Int) (n3 : Int) : evRound (lEnv Try.prog cfg 11 0) (loopAt Try.prog 11 1) ⟨[(3, (.av (.one (.pv (.int .u32 r))))), (6, (.av (.one (.pv (.ints .u8 l false))))), (7, (.av (.one (.pv (.int .i64 n))))), (8, (.av (.one (.pv (.int .i64 n2))))), (16, (.av (.one (.pv (.int .i64 n3)))))], [], []⟩
    [.br false] =
  some (((.exit 2), ⟨[(17, (.av (.one (.pv (.bool false))))), (3, (.av (.one (.pv (.int .u32 r))))), (6, (.av (.one (.pv (.ints .u8 l false))))), (7, (.av (.one (.pv (.int .i64 n))))), (8, (.av (.one (.pv (.int .i64 n2))))), (16, (.av (.one (.pv (.int .i64 n3))))), (17, (.av (.one (.pv (.bool (decide ((n3 : Int) < 8)))))))], [], []⟩), [
    (decide ((n3 : Int) < 8)) = false]) := by kernel_rfl
noncomputable def wire_Sum_L1_2_step (l : List Int) (n : Int) (n2 : Int) : Int × Int → Option ((Int × Int) ⊕ (Int))
  | (r, n3) =>
  bif (decide ((n3 : Int) < 8)) then
    bif (decide (((iand .u32 r 1) : Int) = 1)) then
      some (.inl ((ixor .u32 (ishr .u32 r 1) 3988292384), (iadd .i64 n3 1)))
    else
      some (.inl ((ishr .u32 r 1), (iadd .i64 n3 1)))
  else
    some (.inr r)
theorem wire_Sum_L1_2_ok (l : List Int) (n : Int) (n2 : Int) (s_ : Int × Int) (z_ : (Int × Int) ⊕ (Int)) (h : wire_Sum_L1_2_step l n n2 s_ = some z_) : RoundOk Try.prog cfg 11 0 (loopAt Try.prog 11 1) (wire_Sum_L1_2_st l n n2) (wire_Sum_L1_2_ex l n n2) s_ z_ := by
  rcases s_ with ⟨r, n3⟩
  rcases cond_of h with ⟨h1, h⟩ | ⟨h1, h⟩
  · rcases cond_of h with ⟨h2, h⟩ | ⟨h2, h⟩
    · have h := some_of h
      subst h
      have e_ := wire_Sum_L1_2_q0_0 l n n2 r n3
      have e_ := Says.of e_ ⟨h1, h2, rfl, trivial⟩
      exact ⟨_, _, e_, ⟨⟨⟨_, rfl, .eq rfl⟩, ⟨_, rfl, .eq rfl⟩, ⟨_, rfl, .eq rfl⟩, ⟨_, rfl, .eq rfl⟩, ⟨_, rfl, .eq rfl⟩, trivial⟩, trivial, trivial⟩⟩
    · have h := some_of h
      subst h
      have e_ := wire_Sum_L1_2_q0_1 l n n2 r n3
      have e_ := Says.of e_ ⟨h1, h2, rfl, trivial⟩
      exact ⟨_, _, e_, ⟨⟨⟨_, rfl, .eq rfl⟩, ⟨_, rfl, .eq rfl⟩, ⟨_, rfl, .eq rfl⟩, ⟨_, rfl, .eq rfl⟩, ⟨_, rfl, .eq rfl⟩, trivial⟩, trivial, trivial⟩⟩
  · have h := some_of h
    subst h
    have e_ := wire_Sum_L1_2_q0_2 l n n2 r n3
    have e_ := Says.of e_ ⟨h1, trivial⟩
    exact ⟨_, _, e_, ⟨⟨⟨_, rfl, .eq rfl⟩, ⟨_, rfl, .eq rfl⟩, ⟨_, rfl, .eq rfl⟩, ⟨_, rfl, .eq rfl⟩, trivial⟩, trivial, trivial⟩⟩
theorem wire_Sum_L1_2_runs (l : List Int) (n : Int) (n2 : Int) (s_ : Int × Int) (r_ : Int) (h : runL (wire_Sum_L1_2_step l n n2) s_ = some r_) : LRuns Try.prog (lEnv Try.prog cfg 11 0).nt 0 (.loop (loopAt Try.prog 11 1)) (wire_Sum_L1_2_st l n n2 s_) (wire_Sum_L1_2_ex l n n2 r_).1 (wire_Sum_L1_2_ex l n n2 r_).2 :=
  loop_run h (wire_Sum_L1_2_ok l n n2) (by intro r_; rcases r_ with r1 <;> simp [wire_Sum_L1_2_ex])
/-! ### wire_Sum_L0 -/
def wire_Sum_L0_st (l : List Int) (n : Int) : Int × Int → St
  | (r, n2) => ⟨[(3, (.av (.one (.pv (.int .u32 r))))), (6, (.av (.one (.pv (.ints .u8 l false))))), (7, (.av (.one (.pv (.int .i64 n))))), (8, (.av (.one (.pv (.int .i64 n2)))))], [], []⟩
def wire_Sum_L0_ex (l : List Int) (n : Int) : Int → Ex × St
  | r1 => ((.exit 0), ⟨[(3, (.av (.one (.pv (.int .u32 r1)))))], [], []⟩)
theorem wire_Sum_L0_q0_0 (l : List Int) (n : Int) (r : Int) (n2 : Int) (n3 : Int) : evRound (lEnv Try.prog cfg 11 0) (loopAt Try.prog 11 0) ⟨[(3, (.av (.one (.pv (.int .u32 r))))), (6, (.av (.one (.pv (.ints .u8 l false))))), (7, (.av (.one (.pv (.int .i64 n))))), (8, (.av (.one (.pv (.int .i64 n2)))))], [], []⟩
    [.br true, .lp (.exit 2) ⟨[(3, (.av (.one (.pv (.int .u32 n3))))), (6, (.av (.one (.pv (.ints .u8 l false))))), (7, (.av (.one (.pv (.int .i64 n))))), (8, (.av (.one (.pv (.int .i64 n2)))))], [], []⟩] =
  some ((.normal, ⟨[(3, (.av (.one (.pv (.int .u32 n3))))), (6, (.av (.one (.pv (.ints .u8 l false))))), (7, (.av (.one (.pv (.int .i64 n))))), (8, (.av (.one (.pv (.int .i64 (iadd .i64 n2 1))))))], [], []⟩), [
    (decide ((n2 : Int) < n)) = true,
    (decide ((0 : Int) ≤ n2) && decide ((n2 : Int) < ((l).length : Int))) = true,
    LRuns Try.prog (lEnv Try.prog cfg 11 0).nt 0 (.loop (loopAt Try.prog 11 1)) ⟨[(3, (.av (.one (.pv (.int .u32 (ixor .u32 r (IntKind.u32.wrap (l.getD (n2).toNat 0)))))))), (6, (.av (.one (.pv (.ints .u8 l false))))), (7, (.av (.one (.pv (.int .i64 n))))), (8, (.av (.one (.pv (.int .i64 n2))))), (16, (.av (.one (.pv (.int .i64 0)))))], [], []⟩ (.exit 2) ⟨[(3, (.av (.one (.pv (.int .u32 n3))))), (6, (.av (.one (.pv (.ints .u8 l false))))), (7, (.av (.one (.pv (.int .i64 n))))), (8, (.av (.one (.pv (.int .i64 n2)))))], [], []⟩]) := by kernel_rfl
theorem wire_Sum_L0_q0_1 (l : List Int) (n : Int) (r : Int) (n2 : Int) : evRound (lEnv Try.prog cfg 11 0) (loopAt Try.prog 11 0) ⟨[(3, (.av (.one (.pv (.int .u32 r))))), (6, (.av (.one (.pv (.ints .u8 l false))))), (7, (.av (.one (.pv (.int .i64 n))))), (8, (.av (.one (.pv (.int .i64 n2)))))], [], []⟩
    [.br false] =
  some (((.exit 0), ⟨[(9, (.av (.one (.pv (.bool false))))), (3, (.av (.one (.pv (.int .u32 r))))), (6, (.av (.one (.pv (.ints .u8 l false))))), (7, (.av (.one (.pv (.int .i64 n))))), (8, (.av (.one (.pv (.int .i64 n2))))), (9, (.av (.one (.pv (.bool (decide ((n2 : Int) < n)))))))], [], []⟩), [
    (decide ((n2 : Int) < n)) = false]) := by kernel_rfl
noncomputable def wire_Sum_L0_step (l : List Int) (n : Int) : Int × Int → Option ((Int × Int) ⊕ (Int))
  | (r, n2) =>
  bif (decide ((n2 : Int) < n)) then
    bif decide ((0 : Int) ≤ n2) && decide ((n2 : Int) < ((l).length : Int)) then
    (runL (wire_Sum_L1_2_step l n n2) ((ixor .u32 r (IntKind.u32.wrap (l.getD (n2).toNat 0))), 0)).bind fun n3 =>
    some (.inl (n3, (iadd .i64 n2 1)))
    else none
  else
    some (.inr r)
theorem wire_Sum_L0_ok (l : List Int) (n : Int) (s_ : Int × Int) (z_ : (Int × Int) ⊕ (Int)) (h : wire_Sum_L0_step l n s_ = some z_) : RoundOk Try.prog cfg 11 0 (loopAt Try.prog 11 0) (wire_Sum_L0_st l n) (wire_Sum_L0_ex l n) s_ z_ := by
  rcases s_ with ⟨r, n2⟩
  rcases cond_of h with ⟨h1, h⟩ | ⟨h1, h⟩
  · obtain ⟨h2, h⟩ := need_of h
    obtain ⟨n3, h3, h⟩ := bind_of h
    have h := some_of h
    subst h
    have e_ := wire_Sum_L0_q0_0 l n r n2 n3
    have e_ := Says.of e_ ⟨h1, h2, (wire_Sum_L1_2_runs l n n2 _ _ h3), trivial⟩
    exact ⟨_, _, e_, ⟨⟨⟨_, rfl, .eq rfl⟩, ⟨_, rfl, .eq rfl⟩, ⟨_, rfl, .eq rfl⟩, ⟨_, rfl, .eq rfl⟩, trivial⟩, trivial, trivial⟩⟩
  · have h := some_of h
    subst h
    have e_ := wire_Sum_L0_q0_1 l n r n2
    have e_ := Says.of e_ ⟨h1, trivial⟩
    exact ⟨_, _, e_, ⟨⟨⟨_, rfl, .eq rfl⟩, trivial⟩, trivial, trivial⟩⟩
theorem wire_Sum_L0_runs (l : List Int) (n : Int) (s_ : Int × Int) (r_ : Int) (h : runL (wire_Sum_L0_step l n) s_ = some r_) : LRuns Try.prog (lEnv Try.prog cfg 11 0).nt 0 (.loop (loopAt Try.prog 11 0)) (wire_Sum_L0_st l n s_) (wire_Sum_L0_ex l n r_).1 (wire_Sum_L0_ex l n r_).2 :=
  loop_run h (wire_Sum_L0_ok l n) (by intro r_; rcases r_ with r1 <;> simp [wire_Sum_L0_ex])
/-! ### wire_Sum -/
def wire_Sum_out (p : List Int) : Int → Res
  | r1 => ([(.one (.pv (.int .u32 r1)))], [], [])
theorem wire_Sum_p0 (p : List Int) (n : Int) : evFn Try.prog cfg (Runs Try.prog) (LRuns Try.prog (lEnv Try.prog cfg 11 0).nt 0) 11 [(.one (.pv (.ints .u8 p false)))] [] []
    [.lp (.exit 0) ⟨[(3, (.av (.one (.pv (.int .u32 n)))))], [], []⟩] =
  some (([(.one (.pv (.int .u32 (ixor .u32 4294967295 n))))], [], []), [
    LRuns Try.prog (lEnv Try.prog cfg 11 0).nt 0 (.loop (loopAt Try.prog 11 0)) ⟨[(3, (.av (.one (.pv (.int .u32 4294967295))))), (6, (.av (.one (.pv (.ints .u8 p false))))), (7, (.av (.one (.pv (.int .i64 ((p).length : Int)))))), (8, (.av (.one (.pv (.int .i64 0)))))], [], []⟩ (.exit 0) ⟨[(3, (.av (.one (.pv (.int .u32 n)))))], [], []⟩]) := by kernel_rfl
noncomputable def wire_Sum (p : List Int) : Option (Int) :=
  (runL (wire_Sum_L0_step p ((p).length : Int)) (4294967295, 0)).bind fun n =>
  some (ixor .u32 4294967295 n)
theorem wire_Sum_runs (p : List Int) (r_ : Int) (h : wire_Sum p = some r_) : Runs Try.prog 11 [(.one (.pv (.ints .u8 p false)))] [] [] (wire_Sum_out p r_) := by
  unfold wire_Sum at h
  obtain ⟨n, h1, h⟩ := bind_of h
  have h := some_of h
  subst h
  have e_ := wire_Sum_p0 p n
  have e_ := runs_of (objs := []) (Says.of e_ ⟨(wire_Sum_L0_runs p ((p).length : Int) _ _ h1), trivial⟩)
  exact e_
/-! ### wire_Num_L0 -/
def wire_Num_L0_st (p : List Int) (n : Int) : (Unit) ⊕ (Int × List Int) → St
  | .inl _ => ⟨[(0, (.av (.one (.pv (.ints .u8 p true))))), (1, (.av (.one (.pv (.int .u64 n)))))], [], []⟩
  | .inr (n2, l) => ⟨[(0, (.av (.one (.own 0 0 (l).length false)))), (1, (.av (.one (.pv (.int .u64 n2)))))], [], [(0, (.live (.ints .u8 l)))]⟩
def wire_Num_L0_ex (p : List Int) (n : Int) : (Unit) ⊕ (Int × List Int) → Ex × St
  | .inl _ => ((.exit 0), ⟨[(0, (.av (.one (.pv (.ints .u8 p true))))), (1, (.av (.one (.pv (.int .u64 n)))))], [], []⟩)
  | .inr (r1, r2) => ((.exit 0), ⟨[(0, (.av (.one (.own 0 0 (r2).length false)))), (1, (.av (.one (.pv (.int .u64 r1)))))], [], [(0, (.live (.ints .u8 r2)))]⟩)
theorem wire_Num_L0_q0_0 (p : List Int) (n : Int) : evRound (lEnv Try.prog cfg 32 0) (loopAt Try.prog 32 0) ⟨[(0, (.av (.one (.pv (.ints .u8 p true))))), (1, (.av (.one (.pv (.int .u64 n)))))], [], []⟩
    [.br true, .br false] =
  some ((.normal, ⟨[(0, (.av (.one (.own 0 0 ((p ++ [(ior .u8 (IntKind.u8.wrap n) 128)])).length false)))), (1, (.av (.one (.pv (.int .u64 (ishr .u64 n 7))))))], [], [(0, (.live (.ints .u8 (p ++ [(ior .u8 (IntKind.u8.wrap n) 128)]))))]⟩), [
    (decide ((128 : Int) ≤ n)) = true,
    true = true,
    (fits ((p ++ [(ior .u8 (IntKind.u8.wrap n) 128)])).length) = true,
    true = true]) := by kernel_rfl
theorem wire_Num_L0_q0_1 (p : List Int) (n : Int) : evRound (lEnv Try.prog cfg 32 0) (loopAt Try.prog 32 0) ⟨[(0, (.av (.one (.pv (.ints .u8 p true))))), (1, (.av (.one (.pv (.int .u64 n)))))], [], []⟩
    [.br false] =
  some (((.exit 0), ⟨[(12, (.av (.one (.pv (.bool false))))), (0, (.av (.one (.pv (.ints .u8 p true))))), (1, (.av (.one (.pv (.int .u64 n))))), (12, (.av (.one (.pv (.bool (decide ((128 : Int) ≤ n)))))))], [], []⟩), [
    (decide ((128 : Int) ≤ n)) = false]) := by kernel_rfl
theorem wire_Num_L0_q1_0 (p : List Int) (n : Int) (n2 : Int) (l : List Int) : evRound (lEnv Try.prog cfg 32 0) (loopAt Try.prog 32 0) ⟨[(0, (.av (.one (.own 0 0 (l).length false)))), (1, (.av (.one (.pv (.int .u64 n2)))))], [], [(0, (.live (.ints .u8 l)))]⟩
    [.br true] =
  some ((.normal, ⟨[(0, (.av (.one (.own 0 0 ((l ++ [(ior .u8 (IntKind.u8.wrap n2) 128)])).length false)))), (1, (.av (.one (.pv (.int .u64 (ishr .u64 n2 7))))))], [], [(0, (.live (.ints .u8 (l ++ [(ior .u8 (IntKind.u8.wrap n2) 128)]))))]⟩), [
    (decide ((128 : Int) ≤ n2)) = true,
    (Nat.beq (l).length (l).length) = true,
    (fits ((l ++ [(ior .u8 (IntKind.u8.wrap n2) 128)])).length) = true,
    true = true]) := by kernel_rfl
theorem wire_Num_L0_q1_1 (p : List Int) (n : Int) (n2 : Int) (l : List Int) : evRound (lEnv Try.prog cfg 32 0) (loopAt Try.prog 32 0) ⟨[(0, (.av (.one (.own 0 0 (l).length false)))), (1, (.av (.one (.pv (.int .u64 n2)))))], [], [(0, (.live (.ints .u8 l)))]⟩
    [.br false] =
  some (((.exit 0), ⟨[(12, (.av (.one (.pv (.bool false))))), (0, (.av (.one (.own 0 0 (l).length false)))), (1, (.av (.one (.pv (.int .u64 n2))))), (12, (.av (.one (.pv (.bool (decide ((128 : Int) ≤ n2)))))))], [], [(0, (.live (.ints .u8 l)))]⟩), [
    (decide ((128 : Int) ≤ n2)) = false]) := by kernel_rfl
noncomputable def wire_Num_L0_step (p : List Int) (n : Int) : (Unit) ⊕ (Int × List Int) → Option (((Unit) ⊕ (Int × List Int)) ⊕ ((Unit) ⊕ (Int × List Int)))
  | .inl _ =>
    bif (decide ((128 : Int) ≤ n)) then
      bif fits ((p ++ [(ior .u8 (IntKind.u8.wrap n) 128)])).length then
      some (.inl (.inr ((ishr .u64 n 7), (p ++ [(ior .u8 (IntKind.u8.wrap n) 128)]))))
      else none
    else
      some (.inr (.inl ()))
  | .inr (n2, l) =>
    bif (decide ((128 : Int) ≤ n2)) then
      bif fits ((l ++ [(ior .u8 (IntKind.u8.wrap n2) 128)])).length then
      some (.inl (.inr ((ishr .u64 n2 7), (l ++ [(ior .u8 (IntKind.u8.wrap n2) 128)]))))
      else none
    else
      some (.inr (.inr (n2, l)))
theorem wire_Num_L0_ok (p : List Int) (n : Int) (s_ : (Unit) ⊕ (Int × List Int)) (z_ : ((Unit) ⊕ (Int × List Int)) ⊕ ((Unit) ⊕ (Int × List Int))) (h : wire_Num_L0_step p n s_ = some z_) : RoundOk Try.prog cfg 32 0 (loopAt Try.prog 32 0) (wire_Num_L0_st p n) (wire_Num_L0_ex p n) s_ z_ := by
  rcases s_ with _ | ⟨n2, l⟩
  · rcases cond_of h with ⟨h1, h⟩ | ⟨h1, h⟩
    · obtain ⟨h2, h⟩ := need_of h
      have h := some_of h
      subst h
      have e_ := wire_Num_L0_q0_0 p n
      have e_ := Says.of e_ ⟨h1, rfl, h2, rfl, trivial⟩
      exact ⟨_, _, e_, ⟨⟨⟨_, rfl, .eq rfl⟩, ⟨_, rfl, .eq rfl⟩, trivial⟩, trivial, ⟨⟨rfl, .eq rfl⟩, trivial⟩⟩⟩
    · have h := some_of h
      subst h
      have e_ := wire_Num_L0_q0_1 p n
      have e_ := Says.of e_ ⟨h1, trivial⟩
      exact ⟨_, _, e_, ⟨⟨⟨_, rfl, .eq rfl⟩, ⟨_, rfl, .eq rfl⟩, trivial⟩, trivial, trivial⟩⟩
  · rcases cond_of h with ⟨h1, h⟩ | ⟨h1, h⟩
    · obtain ⟨h2, h⟩ := need_of h
      have h := some_of h
      subst h
      have e_ := wire_Num_L0_q1_0 p n n2 l
      have e_ := Says.of e_ ⟨h1, (Nat.beq_refl _), h2, rfl, trivial⟩
      exact ⟨_, _, e_, ⟨⟨⟨_, rfl, .eq rfl⟩, ⟨_, rfl, .eq rfl⟩, trivial⟩, trivial, ⟨⟨rfl, .eq rfl⟩, trivial⟩⟩⟩
    · have h := some_of h
      subst h
      have e_ := wire_Num_L0_q1_1 p n n2 l
      have e_ := Says.of e_ ⟨h1, trivial⟩
      exact ⟨_, _, e_, ⟨⟨⟨_, rfl, .eq rfl⟩, ⟨_, rfl, .eq rfl⟩, trivial⟩, trivial, ⟨⟨rfl, .eq rfl⟩, trivial⟩⟩⟩
theorem wire_Num_L0_runs (p : List Int) (n : Int) (s_ : (Unit) ⊕ (Int × List Int)) (r_ : (Unit) ⊕ (Int × List Int)) (h : runL (wire_Num_L0_step p n) s_ = some r_) : LRuns Try.prog (lEnv Try.prog cfg 32 0).nt 0 (.loop (loopAt Try.prog 32 0)) (wire_Num_L0_st p n s_) (wire_Num_L0_ex p n r_).1 (wire_Num_L0_ex p n r_).2 :=
  loop_run h (wire_Num_L0_ok p n) (by intro r_; rcases r_ with _ | ⟨r1, r2⟩ <;> simp [wire_Num_L0_ex])
/-! ### wire_Num -/
def wire_Num_out (p : List Int) (n : Int) : List Int → Res
  | r1 => ([(.one (.own 0 0 (r1).length false))], [], [(.ints .u8 r1)])
theorem wire_Num_p0 (p : List Int) (n : Int) : evFn Try.prog cfg (Runs Try.prog) (LRuns Try.prog (lEnv Try.prog cfg 32 0).nt 0) 32 [(.one (.pv (.ints .u8 p false))), (.one (.pv (.int .u64 n)))] [] []
    [.lp (.exit 0) ⟨[(0, (.av (.one (.pv (.ints .u8 (List.take (((p).length : Int) - 0).toNat p) true))))), (1, (.av (.one (.pv (.int .u64 n)))))], [], []⟩, .br false] =
  some (([(.one (.own 0 0 (((List.take (((p).length : Int) - 0).toNat p) ++ [(IntKind.u8.wrap n)])).length false))], [], [(.ints .u8 ((List.take (((p).length : Int) - 0).toNat p) ++ [(IntKind.u8.wrap n)]))]), [
    (decide ((0 : Int) ≤ 0) && decide ((0 : Int) ≤ ((p).length : Int)) && decide ((((p).length : Int) : Int) ≤ ((p).length : Int)) && decide ((((p).length : Int) : Int) = ((p).length : Int))) = true,
    LRuns Try.prog (lEnv Try.prog cfg 32 0).nt 0 (.loop (loopAt Try.prog 32 0)) ⟨[(0, (.av (.one (.pv (.ints .u8 (List.take (((p).length : Int) - 0).toNat p) true))))), (1, (.av (.one (.pv (.int .u64 n)))))], [], []⟩ (.exit 0) ⟨[(0, (.av (.one (.pv (.ints .u8 (List.take (((p).length : Int) - 0).toNat p) true))))), (1, (.av (.one (.pv (.int .u64 n)))))], [], []⟩,
    true = true,
    (fits (((List.take (((p).length : Int) - 0).toNat p) ++ [(IntKind.u8.wrap n)])).length) = true]) := by kernel_rfl
theorem wire_Num_p1 (p : List Int) (n : Int) (n2 : Int) (l_ : List Int) : evFn Try.prog cfg (Runs Try.prog) (LRuns Try.prog (lEnv Try.prog cfg 32 0).nt 0) 32 [(.one (.pv (.ints .u8 p false))), (.one (.pv (.int .u64 n)))] [] []
    [.lp (.exit 0) ⟨[(0, (.av (.one (.own 0 0 (l_).length false)))), (1, (.av (.one (.pv (.int .u64 n2)))))], [], [(0, (.live (.ints .u8 l_)))]⟩] =
  some (([(.one (.own 0 0 ((l_ ++ [(IntKind.u8.wrap n2)])).length false))], [], [(.ints .u8 (l_ ++ [(IntKind.u8.wrap n2)]))]), [
    (decide ((0 : Int) ≤ 0) && decide ((0 : Int) ≤ ((p).length : Int)) && decide ((((p).length : Int) : Int) ≤ ((p).length : Int)) && decide ((((p).length : Int) : Int) = ((p).length : Int))) = true,
    LRuns Try.prog (lEnv Try.prog cfg 32 0).nt 0 (.loop (loopAt Try.prog 32 0)) ⟨[(0, (.av (.one (.pv (.ints .u8 (List.take (((p).length : Int) - 0).toNat p) true))))), (1, (.av (.one (.pv (.int .u64 n)))))], [], []⟩ (.exit 0) ⟨[(0, (.av (.one (.own 0 0 (l_).length false)))), (1, (.av (.one (.pv (.int .u64 n2)))))], [], [(0, (.live (.ints .u8 l_)))]⟩,
    (Nat.beq (l_).length (l_).length) = true,
    (fits ((l_ ++ [(IntKind.u8.wrap n2)])).length) = true]) := by kernel_rfl
noncomputable def wire_Num (p : List Int) (n : Int) : Option (List Int) :=
  bif decide ((0 : Int) ≤ 0) && decide ((0 : Int) ≤ ((p).length : Int)) && decide ((((p).length : Int) : Int) ≤ ((p).length : Int)) && decide ((((p).length : Int) : Int) = ((p).length : Int)) then
  (runL (wire_Num_L0_step (List.take (((p).length : Int) - 0).toNat p) n) (.inl ())).bind fun z_ => match z_ with
  | .inl _ =>
    bif fits (((List.take (((p).length : Int) - 0).toNat p) ++ [(IntKind.u8.wrap n)])).length then
    some ((List.take (((p).length : Int) - 0).toNat p) ++ [(IntKind.u8.wrap n)])
    else none
  | .inr (n2, l_) =>
    bif fits ((l_ ++ [(IntKind.u8.wrap n2)])).length then
    some (l_ ++ [(IntKind.u8.wrap n2)])
    else none
  else none
theorem wire_Num_runs (p : List Int) (n : Int) (r_ : List Int) (h : wire_Num p n = some r_) : Runs Try.prog 32 [(.one (.pv (.ints .u8 p false))), (.one (.pv (.int .u64 n)))] [] [] (wire_Num_out p n r_) := by
  unfold wire_Num at h
  obtain ⟨h1, h⟩ := need_of h
  obtain ⟨z_, h2, h⟩ := bind_of h
  rcases z_ with _ | ⟨n2, l_⟩
  · obtain ⟨h3, h⟩ := need_of h
    have h := some_of h
    subst h
    have e_ := wire_Num_p0 p n
    have e_ := runs_of (objs := []) (Says.of e_ ⟨h1, (wire_Num_L0_runs (List.take (((p).length : Int) - 0).toNat p) n _ _ h2), rfl, h3, trivial⟩)
    exact e_
  · obtain ⟨h3, h⟩ := need_of h
    have h := some_of h
    subst h
    have e_ := wire_Num_p1 p n n2 l_
    have e_ := runs_of (objs := []) (Says.of e_ ⟨h1, (wire_Num_L0_runs (List.take (((p).length : Int) - 0).toNat p) n _ _ h2), (Nat.beq_refl _), h3, trivial⟩)
    exact e_
/-! ### kinfolkref06_Same_L0 -/
def kinfolkref06_Same_L0_st (a : List Int) (b : List Int) (n : Int) : Int → St
  | n2 => ⟨[(0, (.av (.one (.bor (.ints .u8 a false))))), (1, (.av (.one (.bor (.ints .u8 b false))))), (12, (.av (.one (.pv (.int .i64 n))))), (13, (.av (.one (.pv (.int .i64 n2)))))], [], []⟩
def kinfolkref06_Same_L0_ex (a : List Int) (b : List Int) (n : Int) : (Unit) ⊕ (Unit) → Ex × St
  | .inl _ => (.ret, ⟨[(4, (.av (.one (.pv (.bool false)))))], [], []⟩)
  | .inr _ => ((.exit 0), ⟨[], [], []⟩)
theorem kinfolkref06_Same_L0_q0_0 (a : List Int) (b : List Int) (n : Int) (n2 : Int) : evRound (lEnv Try.prog cfg 15 0) (loopAt Try.prog 15 0) ⟨[(0, (.av (.one (.bor (.ints .u8 a false))))), (1, (.av (.one (.bor (.ints .u8 b false))))), (12, (.av (.one (.pv (.int .i64 n))))), (13, (.av (.one (.pv (.int .i64 n2)))))], [], []⟩
    [.br true, .br false] =
  some ((.normal, ⟨[(0, (.av (.one (.bor (.ints .u8 a false))))), (1, (.av (.one (.bor (.ints .u8 b false))))), (12, (.av (.one (.pv (.int .i64 n))))), (13, (.av (.one (.pv (.int .i64 (iadd .i64 n2 1))))))], [], []⟩), [
    (decide ((n2 : Int) < n)) = true,
    (decide ((0 : Int) ≤ n2) && decide ((n2 : Int) < ((a).length : Int))) = true,
    (decide ((0 : Int) ≤ n2) && decide ((n2 : Int) < ((b).length : Int))) = true,
    (!(decide (((a.getD (n2).toNat 0) : Int) = (b.getD (n2).toNat 0)))) = false]) := by kernel_rfl
theorem kinfolkref06_Same_L0_q0_1 (a : List Int) (b : List Int) (n : Int) (n2 : Int) : evRound (lEnv Try.prog cfg 15 0) (loopAt Try.prog 15 0) ⟨[(0, (.av (.one (.bor (.ints .u8 a false))))), (1, (.av (.one (.bor (.ints .u8 b false))))), (12, (.av (.one (.pv (.int .i64 n))))), (13, (.av (.one (.pv (.int .i64 n2)))))], [], []⟩
    [.br true, .br true] =
  some ((.ret, ⟨[(4, (.av (.one (.pv (.bool false)))))], [], []⟩), [
    (decide ((n2 : Int) < n)) = true,
    (decide ((0 : Int) ≤ n2) && decide ((n2 : Int) < ((a).length : Int))) = true,
    (decide ((0 : Int) ≤ n2) && decide ((n2 : Int) < ((b).length : Int))) = true,
    (!(decide (((a.getD (n2).toNat 0) : Int) = (b.getD (n2).toNat 0)))) = true]) := by kernel_rfl
theorem kinfolkref06_Same_L0_q0_2 (a : List Int) (b : List Int) (n : Int) (n2 : Int) : evRound (lEnv Try.prog cfg 15 0) (loopAt Try.prog 15 0) ⟨[(0, (.av (.one (.bor (.ints .u8 a false))))), (1, (.av (.one (.bor (.ints .u8 b false))))), (12, (.av (.one (.pv (.int .i64 n))))), (13, (.av (.one (.pv (.int .i64 n2)))))], [], []⟩
    [.br false] =
  some (((.exit 0), ⟨[(14, (.av (.one (.pv (.bool false))))), (0, (.av (.one (.bor (.ints .u8 a false))))), (1, (.av (.one (.bor (.ints .u8 b false))))), (12, (.av (.one (.pv (.int .i64 n))))), (13, (.av (.one (.pv (.int .i64 n2))))), (14, (.av (.one (.pv (.bool (decide ((n2 : Int) < n)))))))], [], []⟩), [
    (decide ((n2 : Int) < n)) = false]) := by kernel_rfl
noncomputable def kinfolkref06_Same_L0_step (a : List Int) (b : List Int) (n : Int) : Int → Option ((Int) ⊕ ((Unit) ⊕ (Unit)))
  | n2 =>
  bif (decide ((n2 : Int) < n)) then
    bif decide ((0 : Int) ≤ n2) && decide ((n2 : Int) < ((a).length : Int)) then
    bif decide ((0 : Int) ≤ n2) && decide ((n2 : Int) < ((b).length : Int)) then
    bif (decide (((a.getD (n2).toNat 0) : Int) = (b.getD (n2).toNat 0))) then
      some (.inl (iadd .i64 n2 1))
    else
      some (.inr (.inl ()))
    else none
    else none
  else
    some (.inr (.inr ()))
theorem kinfolkref06_Same_L0_ok (a : List Int) (b : List Int) (n : Int) (n2 : Int) (z_ : (Int) ⊕ ((Unit) ⊕ (Unit))) (h : kinfolkref06_Same_L0_step a b n n2 = some z_) : RoundOk Try.prog cfg 15 0 (loopAt Try.prog 15 0) (kinfolkref06_Same_L0_st a b n) (kinfolkref06_Same_L0_ex a b n) n2 z_ := by
  rcases cond_of h with ⟨h1, h⟩ | ⟨h1, h⟩
  · obtain ⟨h2, h⟩ := need_of h
    obtain ⟨h3, h⟩ := need_of h
    rcases cond_of h with ⟨h4, h⟩ | ⟨h4, h⟩
    · have h := some_of h
      subst h
      have e_ := kinfolkref06_Same_L0_q0_0 a b n n2
      have e_ := Says.of e_ ⟨h1, h2, h3, (not_of2 h4), trivial⟩
      exact ⟨_, _, e_, ⟨⟨⟨_, rfl, .eq rfl⟩, ⟨_, rfl, .eq rfl⟩, ⟨_, rfl, .eq rfl⟩, ⟨_, rfl, .eq rfl⟩, trivial⟩, trivial, trivial⟩⟩
    · have h := some_of h
      subst h
      have e_ := kinfolkref06_Same_L0_q0_1 a b n n2
      have e_ := Says.of e_ ⟨h1, h2, h3, (not_of h4), trivial⟩
      exact ⟨_, _, e_, ⟨⟨⟨_, rfl, .eq rfl⟩, trivial⟩, trivial, trivial⟩⟩
  · have h := some_of h
    subst h
    have e_ := kinfolkref06_Same_L0_q0_2 a b n n2
    have e_ := Says.of e_ ⟨h1, trivial⟩
    exact ⟨_, _, e_, ⟨trivial, trivial, trivial⟩⟩
theorem kinfolkref06_Same_L0_runs (a : List Int) (b : List Int) (n : Int) (s_ : Int) (r_ : (Unit) ⊕ (Unit)) (h : runL (kinfolkref06_Same_L0_step a b n) s_ = some r_) : LRuns Try.prog (lEnv Try.prog cfg 15 0).nt 0 (.loop (loopAt Try.prog 15 0)) (kinfolkref06_Same_L0_st a b n s_) (kinfolkref06_Same_L0_ex a b n r_).1 (kinfolkref06_Same_L0_ex a b n r_).2 :=
  loop_run h (kinfolkref06_Same_L0_ok a b n) (by intro r_; rcases r_ with _ | _ <;> simp [kinfolkref06_Same_L0_ex])
/-! ### kinfolkref06_Same -/
def kinfolkref06_Same_out (a : List Int) (b : List Int) : Bool → Res
  | r1 => ([(.one (.pv (.bool r1)))], [], [])
theorem kinfolkref06_Same_p0 (a : List Int) (b : List Int) : evFn Try.prog cfg (Runs Try.prog) (LRuns Try.prog (lEnv Try.prog cfg 15 0).nt 0) 15 [(.one (.bor (.ints .u8 a false))), (.one (.bor (.ints .u8 b false)))] [] []
    [.br false, .lp .ret ⟨[(4, (.av (.one (.pv (.bool false)))))], [], []⟩] =
  some (([(.one (.pv (.bool false)))], [], []), [
    (!(decide ((((a).length : Int) : Int) = ((b).length : Int)))) = false,
    LRuns Try.prog (lEnv Try.prog cfg 15 0).nt 0 (.loop (loopAt Try.prog 15 0)) ⟨[(0, (.av (.one (.bor (.ints .u8 a false))))), (1, (.av (.one (.bor (.ints .u8 b false))))), (12, (.av (.one (.pv (.int .i64 ((a).length : Int)))))), (13, (.av (.one (.pv (.int .i64 0)))))], [], []⟩ .ret ⟨[(4, (.av (.one (.pv (.bool false)))))], [], []⟩]) := by kernel_rfl
theorem kinfolkref06_Same_p1 (a : List Int) (b : List Int) : evFn Try.prog cfg (Runs Try.prog) (LRuns Try.prog (lEnv Try.prog cfg 15 0).nt 0) 15 [(.one (.bor (.ints .u8 a false))), (.one (.bor (.ints .u8 b false)))] [] []
    [.br false, .lp (.exit 0) ⟨[], [], []⟩] =
  some (([(.one (.pv (.bool true)))], [], []), [
    (!(decide ((((a).length : Int) : Int) = ((b).length : Int)))) = false,
    LRuns Try.prog (lEnv Try.prog cfg 15 0).nt 0 (.loop (loopAt Try.prog 15 0)) ⟨[(0, (.av (.one (.bor (.ints .u8 a false))))), (1, (.av (.one (.bor (.ints .u8 b false))))), (12, (.av (.one (.pv (.int .i64 ((a).length : Int)))))), (13, (.av (.one (.pv (.int .i64 0)))))], [], []⟩ (.exit 0) ⟨[], [], []⟩]) := by kernel_rfl
theorem kinfolkref06_Same_p2 (a : List Int) (b : List Int) : evFn Try.prog cfg (Runs Try.prog) (LRuns Try.prog (lEnv Try.prog cfg 15 0).nt 0) 15 [(.one (.bor (.ints .u8 a false))), (.one (.bor (.ints .u8 b false)))] [] []
    [.br true] =
  some (([(.one (.pv (.bool false)))], [], []), [
    (!(decide ((((a).length : Int) : Int) = ((b).length : Int)))) = true]) := by kernel_rfl
noncomputable def kinfolkref06_Same (a : List Int) (b : List Int) : Option (Bool) :=
  bif (decide ((((a).length : Int) : Int) = ((b).length : Int))) then
    (runL (kinfolkref06_Same_L0_step a b ((a).length : Int)) 0).bind fun z_ => match z_ with
    | .inl _ =>
      some false
    | .inr _ =>
      some true
  else
    some false
theorem kinfolkref06_Same_runs (a : List Int) (b : List Int) (r_ : Bool) (h : kinfolkref06_Same a b = some r_) : Runs Try.prog 15 [(.one (.bor (.ints .u8 a false))), (.one (.bor (.ints .u8 b false)))] [] [] (kinfolkref06_Same_out a b r_) := by
  unfold kinfolkref06_Same at h
  rcases cond_of h with ⟨h1, h⟩ | ⟨h1, h⟩
  · obtain ⟨z_, h2, h⟩ := bind_of h
    rcases z_ with _ | _
    · have h := some_of h
      subst h
      have e_ := kinfolkref06_Same_p0 a b
      have e_ := runs_of (objs := []) (Says.of e_ ⟨(not_of2 h1), (kinfolkref06_Same_L0_runs a b ((a).length : Int) _ _ h2), trivial⟩)
      exact e_
    · have h := some_of h
      subst h
      have e_ := kinfolkref06_Same_p1 a b
      have e_ := runs_of (objs := []) (Says.of e_ ⟨(not_of2 h1), (kinfolkref06_Same_L0_runs a b ((a).length : Int) _ _ h2), trivial⟩)
      exact e_
  · have h := some_of h
    subst h
    have e_ := kinfolkref06_Same_p2 a b
    have e_ := runs_of (objs := []) (Says.of e_ ⟨(not_of h1), trivial⟩)
    exact e_
/-! ### kinfolklaw06_awake -/
def kinfolklaw06_awake_out : Bool → Res
  | r1 => ([(.one (.pv (.bool r1)))], [], [])
theorem kinfolklaw06_awake_p0 (n : Int) (l_ : List Int) (b : Bool) : evFn Try.prog cfg (Runs Try.prog) (LRuns Try.prog (lEnv Try.prog cfg 9 0).nt 0) 9 [] [] []
    [.res ([(.one (.pv (.int .u32 n)))], [], []), .br true, .res ([(.one (.own 0 0 (l_).length false))], [], [(.ints .u8 l_)]), .res ([(.one (.pv (.bool b)))], [], [])] =
  some (([(.one (.pv (.bool b)))], [], []), [
    Runs Try.prog 11 [(.one (.pv (.ints .u8 [49, 50, 51, 52, 53, 54, 55, 56, 57] true)))] [] [] ([(.one (.pv (.int .u32 n)))], [], []),
    (decide ((n : Int) = 3421780262)) = true,
    Runs Try.prog 32 [(.one (.pv .nils)), (.one (.pv (.int .u64 300)))] [] [] ([(.one (.own 0 0 (l_).length false))], [], [(.ints .u8 l_)]),
    Runs Try.prog 15 [(.one (.bor (.ints .u8 (List.take (l_).length l_) false))), (.one (.bor (.ints .u8 [172, 2] true)))] [] [] ([(.one (.pv (.bool b)))], [], [])]) := by kernel_rfl
theorem kinfolklaw06_awake_p1 (n : Int) : evFn Try.prog cfg (Runs Try.prog) (LRuns Try.prog (lEnv Try.prog cfg 9 0).nt 0) 9 [] [] []
    [.res ([(.one (.pv (.int .u32 n)))], [], []), .br false] =
  some (([(.one (.pv (.bool false)))], [], []), [
    Runs Try.prog 11 [(.one (.pv (.ints .u8 [49, 50, 51, 52, 53, 54, 55, 56, 57] true)))] [] [] ([(.one (.pv (.int .u32 n)))], [], []),
    (decide ((n : Int) = 3421780262)) = false]) := by kernel_rfl
noncomputable def kinfolklaw06_awake : Option (Bool) :=
  (wire_Sum [49, 50, 51, 52, 53, 54, 55, 56, 57]).bind fun n =>
  bif (decide ((n : Int) = 3421780262)) then
    (wire_Num [] 300).bind fun l_ =>
    (kinfolkref06_Same l_ [172, 2]).bind fun b =>
    some b
  else
    some false
theorem kinfolklaw06_awake_runs (r_ : Bool) (h : kinfolklaw06_awake = some r_) : Runs Try.prog 9 [] [] [] (kinfolklaw06_awake_out r_) := by
  unfold kinfolklaw06_awake at h
  obtain ⟨n, h1, h⟩ := bind_of h
  rcases cond_of h with ⟨h2, h⟩ | ⟨h2, h⟩
  · obtain ⟨l_, h3, h⟩ := bind_of h
    obtain ⟨b, h4, h⟩ := bind_of h
    have h := some_of h
    subst h
    have e_ := kinfolklaw06_awake_p0 n l_ b
    have e_ := runs_of (objs := []) (Says.of e_ ⟨((wire_Sum_runs [49, 50, 51, 52, 53, 54, 55, 56, 57] _ h1).coe ⟨.pv (.ints rfl), trivial⟩ trivial trivial), h2, ((wire_Num_runs [] 300 _ h3).coe ⟨.pv (.nilsI), .eq rfl, trivial⟩ trivial trivial), ((kinfolkref06_Same_runs l_ [172, 2] _ h4).coe ⟨.bor (.ints (by first | rfl | (simp only [List.take_length]; done) | (simp only [List.take_length, List.length_append, List.drop_zero, List.map_append, List.map_take, List.map_drop, List.map_cons, List.map_nil, List.append_nil, List.nil_append]; done) | (simp; done))), .bor (.ints rfl), trivial⟩ trivial trivial), trivial⟩)
    exact e_
  · have h := some_of h
    subst h
    have e_ := kinfolklaw06_awake_p1 n
    have e_ := runs_of (objs := []) (Says.of e_ ⟨((wire_Sum_runs [49, 50, 51, 52, 53, 54, 55, 56, 57] _ h1).coe ⟨.pv (.ints rfl), trivial⟩ trivial trivial), h2, trivial⟩)
    exact e_
/-! ### kinfolklaw06_cut -/
def kinfolklaw06_cut_out (p : List Int) (most : Int) : List Int → Res
  | r1 => ([(.one (.own 0 0 (r1).length false))], [], [(.ints .u8 r1)])
theorem kinfolklaw06_cut_p0 (p : List Int) (most : Int) : evFn Try.prog cfg (Runs Try.prog) (LRuns Try.prog (lEnv Try.prog cfg 10 0).nt 0) 10 [(.one (.bor (.ints .u8 p false))), (.one (.pv (.int .i64 most)))] [] []
    [.br true] =
  some (([(.one (.own 0 0 0 false))], [], [(.ints .u8 [])]), [
    (decide ((0 : Int) ≤ 0) && decide ((0 : Int) ≤ (if (most : Int) < ((p).length : Int) then most else ((p).length : Int))) && decide (((if (most : Int) < ((p).length : Int) then most else ((p).length : Int)) : Int) ≤ ((p).length : Int)) && decide (((if (most : Int) < ((p).length : Int) then most else ((p).length : Int)) : Int) = (if (most : Int) < ((p).length : Int) then most else ((p).length : Int)))) = true,
    (Nat.beq ((List.take ((if (most : Int) < ((p).length : Int) then most else ((p).length : Int)) - 0).toNat p)).length 0) = true]) := by kernel_rfl
theorem kinfolklaw06_cut_p1 (p : List Int) (most : Int) : evFn Try.prog cfg (Runs Try.prog) (LRuns Try.prog (lEnv Try.prog cfg 10 0).nt 0) 10 [(.one (.bor (.ints .u8 p false))), (.one (.pv (.int .i64 most)))] [] []
    [.br false] =
  some (([(.one (.own 0 0 (([] ++ (List.take ((if (most : Int) < ((p).length : Int) then most else ((p).length : Int)) - 0).toNat p))).length false))], [], [(.ints .u8 ([] ++ (List.take ((if (most : Int) < ((p).length : Int) then most else ((p).length : Int)) - 0).toNat p)))]), [
    (decide ((0 : Int) ≤ 0) && decide ((0 : Int) ≤ (if (most : Int) < ((p).length : Int) then most else ((p).length : Int))) && decide (((if (most : Int) < ((p).length : Int) then most else ((p).length : Int)) : Int) ≤ ((p).length : Int)) && decide (((if (most : Int) < ((p).length : Int) then most else ((p).length : Int)) : Int) = (if (most : Int) < ((p).length : Int) then most else ((p).length : Int)))) = true,
    (!(Nat.beq ((List.take ((if (most : Int) < ((p).length : Int) then most else ((p).length : Int)) - 0).toNat p)).length 0)) = true,
    (fits (([] ++ (List.take ((if (most : Int) < ((p).length : Int) then most else ((p).length : Int)) - 0).toNat p))).length) = true]) := by kernel_rfl
noncomputable def kinfolklaw06_cut (p : List Int) (most : Int) : Option (List Int) :=
  bif decide ((0 : Int) ≤ 0) && decide ((0 : Int) ≤ (if (most : Int) < ((p).length : Int) then most else ((p).length : Int))) && decide (((if (most : Int) < ((p).length : Int) then most else ((p).length : Int)) : Int) ≤ ((p).length : Int)) && decide (((if (most : Int) < ((p).length : Int) then most else ((p).length : Int)) : Int) = (if (most : Int) < ((p).length : Int) then most else ((p).length : Int))) then
  bif Nat.beq ((List.take ((if (most : Int) < ((p).length : Int) then most else ((p).length : Int)) - 0).toNat p)).length 0 then
    some []
  else
    bif fits (([] ++ (List.take ((if (most : Int) < ((p).length : Int) then most else ((p).length : Int)) - 0).toNat p))).length then
    some ([] ++ (List.take ((if (most : Int) < ((p).length : Int) then most else ((p).length : Int)) - 0).toNat p))
    else none
  else none
theorem kinfolklaw06_cut_runs (p : List Int) (most : Int) (r_ : List Int) (h : kinfolklaw06_cut p most = some r_) : Runs Try.prog 10 [(.one (.bor (.ints .u8 p false))), (.one (.pv (.int .i64 most)))] [] [] (kinfolklaw06_cut_out p most r_) := by
  unfold kinfolklaw06_cut at h
  obtain ⟨h1, h⟩ := need_of h
  rcases cond_of h with ⟨h2, h⟩ | ⟨h2, h⟩
  · have h := some_of h
    subst h
    have e_ := kinfolklaw06_cut_p0 p most
    have e_ := runs_of (objs := []) (Says.of e_ ⟨h1, h2, trivial⟩)
    exact e_.out ⟨.own (by first | rfl | (simp only [List.take_length]; done) | (simp only [List.take_length, List.length_append, List.drop_zero, List.map_append, List.map_take, List.map_drop, List.map_cons, List.map_nil, List.append_nil, List.nil_append]; done) | (simp; done)), trivial⟩ trivial ⟨.eq rfl, trivial⟩ rfl
  · obtain ⟨h3, h⟩ := need_of h
    have h := some_of h
    subst h
    have e_ := kinfolklaw06_cut_p1 p most
    have e_ := runs_of (objs := []) (Says.of e_ ⟨h1, (not_of h2), h3, trivial⟩)
    exact e_
/-! ### kinfolkref06_Sum_L1_2 -/
def kinfolkref06_Sum_L1_2_st (l : List Int) (n : Int) (n2 : Int) : Int × Int × Int → St
  | (r, b, k) => ⟨[(3, (.av (.one (.pv (.int .u32 r))))), (5, (.av (.one (.pv (.int .u8 b))))), (6, (.av (.one (.pv (.int .i64 k))))), (8, (.av (.one (.pv (.ints .u8 l false))))), (9, (.av (.one (.pv (.int .i64 n))))), (10, (.av (.one (.pv (.int .i64 n2)))))], [], []⟩
def kinfolkref06_Sum_L1_2_ex (l : List Int) (n : Int) (n2 : Int) : Int → Ex × St
  | r1 => ((.exit 2), ⟨[(3, (.av (.one (.pv (.int .u32 r1))))), (8, (.av (.one (.pv (.ints .u8 l false))))), (9, (.av (.one (.pv (.int .i64 n))))), (10, (.av (.one (.pv (.int .i64 n2)))))], [], []⟩)
theorem kinfolkref06_Sum_L1_2_q0_0 (l : List Int) (n : Int) (n2 : Int) (r : Int) (b : Int) (k : Int) : evRound (lEnv Try.prog cfg 12 0) (loopAt Try.prog 12 1) ⟨[(3, (.av (.one (.pv (.int .u32 r))))), (5, (.av (.one (.pv (.int .u8 b))))), (6, (.av (.one (.pv (.int .i64 k))))), (8, (.av (.one (.pv (.ints .u8 l false))))), (9, (.av (.one (.pv (.int .i64 n))))), (10, (.av (.one (.pv (.int .i64 n2)))))], [], []⟩
    [.br true, .br false] =
  some ((.normal, ⟨[(3, (.av (.one (.pv (.int .u32 (iquo .u32 r 2)))))), (5, (.av (.one (.pv (.int .u8 (iquo .u8 b 2)))))), (6, (.av (.one (.pv (.int .i64 (iadd .i64 k 1)))))), (8, (.av (.one (.pv (.ints .u8 l false))))), (9, (.av (.one (.pv (.int .i64 n))))), (10, (.av (.one (.pv (.int .i64 n2)))))], [], []⟩), [
    (decide ((k : Int) < 8)) = true,
    true = true,
    true = true,
    true = true,
    true = true,
    (!(decide (((irem .u32 r 2) : Int) = (IntKind.u32.wrap (irem .u8 b 2))))) = false]) := by kernel_rfl
theorem kinfolkref06_Sum_L1_2_q0_1 (l : List Int) (n : Int) (n2 : Int) (r : Int) (b : Int) (k : Int) : evRound (lEnv Try.prog cfg 12 0) (loopAt Try.prog 12 1) ⟨[(3, (.av (.one (.pv (.int .u32 r))))), (5, (.av (.one (.pv (.int .u8 b))))), (6, (.av (.one (.pv (.int .i64 k))))), (8, (.av (.one (.pv (.ints .u8 l false))))), (9, (.av (.one (.pv (.int .i64 n))))), (10, (.av (.one (.pv (.int .i64 n2)))))], [], []⟩
    [.br true, .br true] =
  some ((.normal, ⟨[(3, (.av (.one (.pv (.int .u32 (ixor .u32 (iquo .u32 r 2) 3988292384)))))), (5, (.av (.one (.pv (.int .u8 (iquo .u8 b 2)))))), (6, (.av (.one (.pv (.int .i64 (iadd .i64 k 1)))))), (8, (.av (.one (.pv (.ints .u8 l false))))), (9, (.av (.one (.pv (.int .i64 n))))), (10, (.av (.one (.pv (.int .i64 n2)))))], [], []⟩), [
    (decide ((k : Int) < 8)) = true,
    true = true,
    true = true,
    true = true,
    true = true,
    (!(decide (((irem .u32 r 2) : Int) = (IntKind.u32.wrap (irem .u8 b 2))))) = true]) := by kernel_rfl
theorem kinfolkref06_Sum_L1_2_q0_2 (l : List Int) (n : Int) (n2 : Int) (r : Int) (b : Int) (k : Int) : evRound (lEnv Try.prog cfg 12 0) (loopAt Try.prog 12 1) ⟨[(3, (.av (.one (.pv (.int .u32 r))))), (5, (.av (.one (.pv (.int .u8 b))))), (6, (.av (.one (.pv (.int .i64 k))))), (8, (.av (.one (.pv (.ints .u8 l false))))), (9, (.av (.one (.pv (.int .i64 n))))), (10, (.av (.one (.pv (.int .i64 n2)))))], [], []⟩
    [.br false] =
  some (((.exit 2), ⟨[(15, (.av (.one (.pv (.bool false))))), (3, (.av (.one (.pv (.int .u32 r))))), (5, (.av (.one (.pv (.int .u8 b))))), (6, (.av (.one (.pv (.int .i64 k))))), (8, (.av (.one (.pv (.ints .u8 l false))))), (9, (.av (.one (.pv (.int .i64 n))))), (10, (.av (.one (.pv (.int .i64 n2))))), (15, (.av (.one (.pv (.bool (decide ((k : Int) < 8)))))))], [], []⟩), [
    (decide ((k : Int) < 8)) = false]) := by kernel_rfl
noncomputable def kinfolkref06_Sum_L1_2_step (l : List Int) (n : Int) (n2 : Int) : Int × Int × Int → Option ((Int × Int × Int) ⊕ (Int))
  | (r, b, k) =>
  bif (decide ((k : Int) < 8)) then
    bif (decide (((irem .u32 r 2) : Int) = (IntKind.u32.wrap (irem .u8 b 2)))) then
      some (.inl ((iquo .u32 r 2), (iquo .u8 b 2), (iadd .i64 k 1)))
    else
      some (.inl ((ixor .u32 (iquo .u32 r 2) 3988292384), (iquo .u8 b 2), (iadd .i64 k 1)))
  else
    some (.inr r)
theorem kinfolkref06_Sum_L1_2_ok (l : List Int) (n : Int) (n2 : Int) (s_ : Int × Int × Int) (z_ : (Int × Int × Int) ⊕ (Int)) (h : kinfolkref06_Sum_L1_2_step l n n2 s_ = some z_) : RoundOk Try.prog cfg 12 0 (loopAt Try.prog 12 1) (kinfolkref06_Sum_L1_2_st l n n2) (kinfolkref06_Sum_L1_2_ex l n n2) s_ z_ := by
  rcases s_ with ⟨r, b, k⟩
  rcases cond_of h with ⟨h1, h⟩ | ⟨h1, h⟩
  · rcases cond_of h with ⟨h2, h⟩ | ⟨h2, h⟩
    · have h := some_of h
      subst h
      have e_ := kinfolkref06_Sum_L1_2_q0_0 l n n2 r b k
      have e_ := Says.of e_ ⟨h1, rfl, rfl, rfl, rfl, (not_of2 h2), trivial⟩
      exact ⟨_, _, e_, ⟨⟨⟨_, rfl, .eq rfl⟩, ⟨_, rfl, .eq rfl⟩, ⟨_, rfl, .eq rfl⟩, ⟨_, rfl, .eq rfl⟩, ⟨_, rfl, .eq rfl⟩, ⟨_, rfl, .eq rfl⟩, trivial⟩, trivial, trivial⟩⟩
    · have h := some_of h
      subst h
      have e_ := kinfolkref06_Sum_L1_2_q0_1 l n n2 r b k
      have e_ := Says.of e_ ⟨h1, rfl, rfl, rfl, rfl, (not_of h2), trivial⟩
      exact ⟨_, _, e_, ⟨⟨⟨_, rfl, .eq rfl⟩, ⟨_, rfl, .eq rfl⟩, ⟨_, rfl, .eq rfl⟩, ⟨_, rfl, .eq rfl⟩, ⟨_, rfl, .eq rfl⟩, ⟨_, rfl, .eq rfl⟩, trivial⟩, trivial, trivial⟩⟩
  · have h := some_of h
    subst h
    have e_ := kinfolkref06_Sum_L1_2_q0_2 l n n2 r b k
    have e_ := Says.of e_ ⟨h1, trivial⟩
    exact ⟨_, _, e_, ⟨⟨⟨_, rfl, .eq rfl⟩, ⟨_, rfl, .eq rfl⟩, ⟨_, rfl, .eq rfl⟩, ⟨_, rfl, .eq rfl⟩, trivial⟩, trivial, trivial⟩⟩
theorem kinfolkref06_Sum_L1_2_runs (l : List Int) (n : Int) (n2 : Int) (s_ : Int × Int × Int) (r_ : Int) (h : runL (kinfolkref06_Sum_L1_2_step l n n2) s_ = some r_) : LRuns Try.prog (lEnv Try.prog cfg 12 0).nt 0 (.loop (loopAt Try.prog 12 1)) (kinfolkref06_Sum_L1_2_st l n n2 s_) (kinfolkref06_Sum_L1_2_ex l n n2 r_).1 (kinfolkref06_Sum_L1_2_ex l n n2 r_).2 :=
  loop_run h (kinfolkref06_Sum_L1_2_ok l n n2) (by intro r_; rcases r_ with r1 <;> simp [kinfolkref06_Sum_L1_2_ex])
/-! ### kinfolkref06_Sum_L0 -/
def kinfolkref06_Sum_L0_st (l : List Int) (n : Int) : Int × Int → St
  | (r, n2) => ⟨[(3, (.av (.one (.pv (.int .u32 r))))), (8, (.av (.one (.pv (.ints .u8 l false))))), (9, (.av (.one (.pv (.int .i64 n))))), (10, (.av (.one (.pv (.int .i64 n2)))))], [], []⟩
def kinfolkref06_Sum_L0_ex (l : List Int) (n : Int) : Int → Ex × St
  | r1 => ((.exit 0), ⟨[(3, (.av (.one (.pv (.int .u32 r1)))))], [], []⟩)
theorem kinfolkref06_Sum_L0_q0_0 (l : List Int) (n : Int) (r : Int) (n2 : Int) (n3 : Int) : evRound (lEnv Try.prog cfg 12 0) (loopAt Try.prog 12 0) ⟨[(3, (.av (.one (.pv (.int .u32 r))))), (8, (.av (.one (.pv (.ints .u8 l false))))), (9, (.av (.one (.pv (.int .i64 n))))), (10, (.av (.one (.pv (.int .i64 n2)))))], [], []⟩
    [.br true, .lp (.exit 2) ⟨[(3, (.av (.one (.pv (.int .u32 n3))))), (8, (.av (.one (.pv (.ints .u8 l false))))), (9, (.av (.one (.pv (.int .i64 n))))), (10, (.av (.one (.pv (.int .i64 n2)))))], [], []⟩] =
  some ((.normal, ⟨[(3, (.av (.one (.pv (.int .u32 n3))))), (8, (.av (.one (.pv (.ints .u8 l false))))), (9, (.av (.one (.pv (.int .i64 n))))), (10, (.av (.one (.pv (.int .i64 (iadd .i64 n2 1))))))], [], []⟩), [
    (decide ((n2 : Int) < n)) = true,
    (decide ((0 : Int) ≤ n2) && decide ((n2 : Int) < ((l).length : Int))) = true,
    LRuns Try.prog (lEnv Try.prog cfg 12 0).nt 0 (.loop (loopAt Try.prog 12 1)) ⟨[(3, (.av (.one (.pv (.int .u32 r))))), (5, (.av (.one (.pv (.int .u8 (l.getD (n2).toNat 0)))))), (6, (.av (.one (.pv (.int .i64 0))))), (8, (.av (.one (.pv (.ints .u8 l false))))), (9, (.av (.one (.pv (.int .i64 n))))), (10, (.av (.one (.pv (.int .i64 n2)))))], [], []⟩ (.exit 2) ⟨[(3, (.av (.one (.pv (.int .u32 n3))))), (8, (.av (.one (.pv (.ints .u8 l false))))), (9, (.av (.one (.pv (.int .i64 n))))), (10, (.av (.one (.pv (.int .i64 n2)))))], [], []⟩]) := by kernel_rfl
theorem kinfolkref06_Sum_L0_q0_1 (l : List Int) (n : Int) (r : Int) (n2 : Int) : evRound (lEnv Try.prog cfg 12 0) (loopAt Try.prog 12 0) ⟨[(3, (.av (.one (.pv (.int .u32 r))))), (8, (.av (.one (.pv (.ints .u8 l false))))), (9, (.av (.one (.pv (.int .i64 n))))), (10, (.av (.one (.pv (.int .i64 n2)))))], [], []⟩
    [.br false] =
  some (((.exit 0), ⟨[(11, (.av (.one (.pv (.bool false))))), (3, (.av (.one (.pv (.int .u32 r))))), (8, (.av (.one (.pv (.ints .u8 l false))))), (9, (.av (.one (.pv (.int .i64 n))))), (10, (.av (.one (.pv (.int .i64 n2))))), (11, (.av (.one (.pv (.bool (decide ((n2 : Int) < n)))))))], [], []⟩), [
    (decide ((n2 : Int) < n)) = false]) := by kernel_rfl
noncomputable def kinfolkref06_Sum_L0_step (l : List Int) (n : Int) : Int × Int → Option ((Int × Int) ⊕ (Int))
  | (r, n2) =>
  bif (decide ((n2 : Int) < n)) then
    bif decide ((0 : Int) ≤ n2) && decide ((n2 : Int) < ((l).length : Int)) then
    (runL (kinfolkref06_Sum_L1_2_step l n n2) (r, (l.getD (n2).toNat 0), 0)).bind fun n3 =>
    some (.inl (n3, (iadd .i64 n2 1)))
    else none
  else
    some (.inr r)
theorem kinfolkref06_Sum_L0_ok (l : List Int) (n : Int) (s_ : Int × Int) (z_ : (Int × Int) ⊕ (Int)) (h : kinfolkref06_Sum_L0_step l n s_ = some z_) : RoundOk Try.prog cfg 12 0 (loopAt Try.prog 12 0) (kinfolkref06_Sum_L0_st l n) (kinfolkref06_Sum_L0_ex l n) s_ z_ := by
  rcases s_ with ⟨r, n2⟩
  rcases cond_of h with ⟨h1, h⟩ | ⟨h1, h⟩
  · obtain ⟨h2, h⟩ := need_of h
    obtain ⟨n3, h3, h⟩ := bind_of h
    have h := some_of h
    subst h
    have e_ := kinfolkref06_Sum_L0_q0_0 l n r n2 n3
    have e_ := Says.of e_ ⟨h1, h2, (kinfolkref06_Sum_L1_2_runs l n n2 _ _ h3), trivial⟩
    exact ⟨_, _, e_, ⟨⟨⟨_, rfl, .eq rfl⟩, ⟨_, rfl, .eq rfl⟩, ⟨_, rfl, .eq rfl⟩, ⟨_, rfl, .eq rfl⟩, trivial⟩, trivial, trivial⟩⟩
  · have h := some_of h
    subst h
    have e_ := kinfolkref06_Sum_L0_q0_1 l n r n2
    have e_ := Says.of e_ ⟨h1, trivial⟩
    exact ⟨_, _, e_, ⟨⟨⟨_, rfl, .eq rfl⟩, trivial⟩, trivial, trivial⟩⟩
theorem kinfolkref06_Sum_L0_runs (l : List Int) (n : Int) (s_ : Int × Int) (r_ : Int) (h : runL (kinfolkref06_Sum_L0_step l n) s_ = some r_) : LRuns Try.prog (lEnv Try.prog cfg 12 0).nt 0 (.loop (loopAt Try.prog 12 0)) (kinfolkref06_Sum_L0_st l n s_) (kinfolkref06_Sum_L0_ex l n r_).1 (kinfolkref06_Sum_L0_ex l n r_).2 :=
  loop_run h (kinfolkref06_Sum_L0_ok l n) (by intro r_; rcases r_ with r1 <;> simp [kinfolkref06_Sum_L0_ex])
/-! ### kinfolkref06_Sum -/
def kinfolkref06_Sum_out (p : List Int) : Int → Res
  | r1 => ([(.one (.pv (.int .u32 r1)))], [], [])
theorem kinfolkref06_Sum_p0 (p : List Int) (n : Int) : evFn Try.prog cfg (Runs Try.prog) (LRuns Try.prog (lEnv Try.prog cfg 12 0).nt 0) 12 [(.one (.pv (.ints .u8 p false)))] [] []
    [.lp (.exit 0) ⟨[(3, (.av (.one (.pv (.int .u32 n)))))], [], []⟩] =
  some (([(.one (.pv (.int .u32 (isub .u32 4294967295 n))))], [], []), [
    LRuns Try.prog (lEnv Try.prog cfg 12 0).nt 0 (.loop (loopAt Try.prog 12 0)) ⟨[(3, (.av (.one (.pv (.int .u32 4294967295))))), (8, (.av (.one (.pv (.ints .u8 p false))))), (9, (.av (.one (.pv (.int .i64 ((p).length : Int)))))), (10, (.av (.one (.pv (.int .i64 0)))))], [], []⟩ (.exit 0) ⟨[(3, (.av (.one (.pv (.int .u32 n)))))], [], []⟩]) := by kernel_rfl
noncomputable def kinfolkref06_Sum (p : List Int) : Option (Int) :=
  (runL (kinfolkref06_Sum_L0_step p ((p).length : Int)) (4294967295, 0)).bind fun n =>
  some (isub .u32 4294967295 n)
theorem kinfolkref06_Sum_runs (p : List Int) (r_ : Int) (h : kinfolkref06_Sum p = some r_) : Runs Try.prog 12 [(.one (.pv (.ints .u8 p false)))] [] [] (kinfolkref06_Sum_out p r_) := by
  unfold kinfolkref06_Sum at h
  obtain ⟨n, h1, h⟩ := bind_of h
  have h := some_of h
  subst h
  have e_ := kinfolkref06_Sum_p0 p n
  have e_ := runs_of (objs := []) (Says.of e_ ⟨(kinfolkref06_Sum_L0_runs p ((p).length : Int) _ _ h1), trivial⟩)
  exact e_
/-! ### kinfolklaw06_WireSums_L0 -/
def kinfolklaw06_WireSums_L0_st (p : List Int) (at_ : Int) (turn : Int) (l : List Int) : (Int) ⊕ (Nat × Int × List Int) → St
  | .inl n => ⟨[(0, (.av (.one (.pv (.ints .u8 p false))))), (1, (.av (.one (.pv (.int .u16 at_))))), (2, (.av (.one (.pv (.int .u32 turn))))), (7, (.av (.one (.own 0 0 (l).length false)))), (8, (.av (.one (.pv (.bool true))))), (29, (.av (.one (.pv (.int .i64 n)))))], [], [(0, (.live (.ints .u8 l)))]⟩
  | .inr (k, n2, l2) => ⟨[(0, (.av (.one (.pv (.ints .u8 p false))))), (1, (.av (.one (.pv (.int .u16 at_))))), (2, (.av (.one (.pv (.int .u32 turn))))), (7, (.av (.one (.own 0 0 k false)))), (8, (.av (.one (.pv (.bool false))))), (29, (.av (.one (.pv (.int .i64 n2)))))], [], [(0, (.live (.ints .u8 l2)))]⟩
def kinfolklaw06_WireSums_L0_ex (p : List Int) (at_ : Int) (turn : Int) (l : List Int) : (Unit) ⊕ (Nat × List Int) → Ex × St
  | .inl _ => ((.exit 0), ⟨[(0, (.av (.one (.pv (.ints .u8 p false))))), (7, (.av (.one (.own 0 0 (l).length false)))), (8, (.av (.one (.pv (.bool true)))))], [], [(0, (.live (.ints .u8 l)))]⟩)
  | .inr (r1, r2) => ((.exit 0), ⟨[(0, (.av (.one (.pv (.ints .u8 p false))))), (7, (.av (.one (.own 0 0 r1 false)))), (8, (.av (.one (.pv (.bool false)))))], [], [(0, (.live (.ints .u8 r2)))]⟩)
theorem kinfolklaw06_WireSums_L0_q0_0 (p : List Int) (at_ : Int) (turn : Int) (l : List Int) (n : Int) : evRound (lEnv Try.prog cfg 3 0) (loopAt Try.prog 3 0) ⟨[(0, (.av (.one (.pv (.ints .u8 p false))))), (1, (.av (.one (.pv (.int .u16 at_))))), (2, (.av (.one (.pv (.int .u32 turn))))), (7, (.av (.one (.own 0 0 (l).length false)))), (8, (.av (.one (.pv (.bool true))))), (29, (.av (.one (.pv (.int .i64 n)))))], [], [(0, (.live (.ints .u8 l)))]⟩
    [.br true, .br true, .br true] =
  some ((.normal, ⟨[(0, (.av (.one (.pv (.ints .u8 p false))))), (1, (.av (.one (.pv (.int .u16 at_))))), (2, (.av (.one (.pv (.int .u32 turn))))), (7, (.av (.one (.own 0 0 (l).length false)))), (8, (.av (.one (.pv (.bool false))))), (29, (.av (.one (.pv (.int .i64 (iadd .i64 n 1))))))], [], [(0, (.live (.ints .u8 (l.set (0 + ((iquo .i64 (iadd .i64 (irem .i64 (IntKind.i64.wrap at_) (imul .i64 8 ((l).length : Int))) n) 8)).toNat) (ixor .u8 (l.getD (0 + ((iquo .i64 (iadd .i64 (irem .i64 (IntKind.i64.wrap at_) (imul .i64 8 ((l).length : Int))) n) 8)).toNat) 0) (ishl .u8 1 (irem .i64 (iadd .i64 (irem .i64 (IntKind.i64.wrap at_) (imul .i64 8 ((l).length : Int))) n) 8)))))))]⟩), [
    (decide ((n : Int) < 32)) = true,
    (!decide (((imul .i64 8 ((l).length : Int)) : Int) = 0)) = true,
    (decide (((iadd .i64 (irem .i64 (IntKind.i64.wrap at_) (imul .i64 8 ((l).length : Int))) n) : Int) < (imul .i64 8 ((l).length : Int)))) = true,
    (decide ((0 : Int) ≤ n)) = true,
    (decide (((iand .u32 (ishr .u32 turn n) 1) : Int) = 1)) = true,
    true = true,
    (decide ((0 : Int) ≤ (iquo .i64 (iadd .i64 (irem .i64 (IntKind.i64.wrap at_) (imul .i64 8 ((l).length : Int))) n) 8)) && decide (((iquo .i64 (iadd .i64 (irem .i64 (IntKind.i64.wrap at_) (imul .i64 8 ((l).length : Int))) n) 8) : Int) < ((l).length : Int))) = true,
    true = true,
    (decide ((0 : Int) ≤ (irem .i64 (iadd .i64 (irem .i64 (IntKind.i64.wrap at_) (imul .i64 8 ((l).length : Int))) n) 8))) = true,
    (decide ((0 : Int) ≤ (iquo .i64 (iadd .i64 (irem .i64 (IntKind.i64.wrap at_) (imul .i64 8 ((l).length : Int))) n) 8)) && decide (((iquo .i64 (iadd .i64 (irem .i64 (IntKind.i64.wrap at_) (imul .i64 8 ((l).length : Int))) n) 8) : Int) < ((l).length : Int))) = true]) := by kernel_rfl
theorem kinfolklaw06_WireSums_L0_q0_1 (p : List Int) (at_ : Int) (turn : Int) (l : List Int) (n : Int) : evRound (lEnv Try.prog cfg 3 0) (loopAt Try.prog 3 0) ⟨[(0, (.av (.one (.pv (.ints .u8 p false))))), (1, (.av (.one (.pv (.int .u16 at_))))), (2, (.av (.one (.pv (.int .u32 turn))))), (7, (.av (.one (.own 0 0 (l).length false)))), (8, (.av (.one (.pv (.bool true))))), (29, (.av (.one (.pv (.int .i64 n)))))], [], [(0, (.live (.ints .u8 l)))]⟩
    [.br true, .br true, .br false] =
  some ((.normal, ⟨[(0, (.av (.one (.pv (.ints .u8 p false))))), (1, (.av (.one (.pv (.int .u16 at_))))), (2, (.av (.one (.pv (.int .u32 turn))))), (7, (.av (.one (.own 0 0 (l).length false)))), (8, (.av (.one (.pv (.bool true))))), (29, (.av (.one (.pv (.int .i64 (iadd .i64 n 1))))))], [], [(0, (.live (.ints .u8 l)))]⟩), [
    (decide ((n : Int) < 32)) = true,
    (!decide (((imul .i64 8 ((l).length : Int)) : Int) = 0)) = true,
    (decide (((iadd .i64 (irem .i64 (IntKind.i64.wrap at_) (imul .i64 8 ((l).length : Int))) n) : Int) < (imul .i64 8 ((l).length : Int)))) = true,
    (decide ((0 : Int) ≤ n)) = true,
    (decide (((iand .u32 (ishr .u32 turn n) 1) : Int) = 1)) = false]) := by kernel_rfl
theorem kinfolklaw06_WireSums_L0_q0_2 (p : List Int) (at_ : Int) (turn : Int) (l : List Int) (n : Int) : evRound (lEnv Try.prog cfg 3 0) (loopAt Try.prog 3 0) ⟨[(0, (.av (.one (.pv (.ints .u8 p false))))), (1, (.av (.one (.pv (.int .u16 at_))))), (2, (.av (.one (.pv (.int .u32 turn))))), (7, (.av (.one (.own 0 0 (l).length false)))), (8, (.av (.one (.pv (.bool true))))), (29, (.av (.one (.pv (.int .i64 n)))))], [], [(0, (.live (.ints .u8 l)))]⟩
    [.br true, .br false, .br false] =
  some ((.normal, ⟨[(0, (.av (.one (.pv (.ints .u8 p false))))), (1, (.av (.one (.pv (.int .u16 at_))))), (2, (.av (.one (.pv (.int .u32 turn))))), (7, (.av (.one (.own 0 0 (l).length false)))), (8, (.av (.one (.pv (.bool true))))), (29, (.av (.one (.pv (.int .i64 (iadd .i64 n 1))))))], [], [(0, (.live (.ints .u8 l)))]⟩), [
    (decide ((n : Int) < 32)) = true,
    (!decide (((imul .i64 8 ((l).length : Int)) : Int) = 0)) = true,
    (decide (((iadd .i64 (irem .i64 (IntKind.i64.wrap at_) (imul .i64 8 ((l).length : Int))) n) : Int) < (imul .i64 8 ((l).length : Int)))) = false,
    false = false]) := by kernel_rfl
theorem kinfolklaw06_WireSums_L0_q0_3 (p : List Int) (at_ : Int) (turn : Int) (l : List Int) (n : Int) : evRound (lEnv Try.prog cfg 3 0) (loopAt Try.prog 3 0) ⟨[(0, (.av (.one (.pv (.ints .u8 p false))))), (1, (.av (.one (.pv (.int .u16 at_))))), (2, (.av (.one (.pv (.int .u32 turn))))), (7, (.av (.one (.own 0 0 (l).length false)))), (8, (.av (.one (.pv (.bool true))))), (29, (.av (.one (.pv (.int .i64 n)))))], [], [(0, (.live (.ints .u8 l)))]⟩
    [.br false] =
  some (((.exit 0), ⟨[(30, (.av (.one (.pv (.bool false))))), (0, (.av (.one (.pv (.ints .u8 p false))))), (1, (.av (.one (.pv (.int .u16 at_))))), (2, (.av (.one (.pv (.int .u32 turn))))), (7, (.av (.one (.own 0 0 (l).length false)))), (8, (.av (.one (.pv (.bool true))))), (29, (.av (.one (.pv (.int .i64 n))))), (30, (.av (.one (.pv (.bool (decide ((n : Int) < 32)))))))], [], [(0, (.live (.ints .u8 l)))]⟩), [
    (decide ((n : Int) < 32)) = false]) := by kernel_rfl
theorem kinfolklaw06_WireSums_L0_q1_0 (p : List Int) (at_ : Int) (turn : Int) (l : List Int) (k : Nat) (n2 : Int) (l2 : List Int) : evRound (lEnv Try.prog cfg 3 0) (loopAt Try.prog 3 0) ⟨[(0, (.av (.one (.pv (.ints .u8 p false))))), (1, (.av (.one (.pv (.int .u16 at_))))), (2, (.av (.one (.pv (.int .u32 turn))))), (7, (.av (.one (.own 0 0 k false)))), (8, (.av (.one (.pv (.bool false))))), (29, (.av (.one (.pv (.int .i64 n2)))))], [], [(0, (.live (.ints .u8 l2)))]⟩
    [.br true, .br true, .br true] =
  some ((.normal, ⟨[(0, (.av (.one (.pv (.ints .u8 p false))))), (1, (.av (.one (.pv (.int .u16 at_))))), (2, (.av (.one (.pv (.int .u32 turn))))), (7, (.av (.one (.own 0 0 k false)))), (8, (.av (.one (.pv (.bool false))))), (29, (.av (.one (.pv (.int .i64 (iadd .i64 n2 1))))))], [], [(0, (.live (.ints .u8 (l2.set (0 + ((iquo .i64 (iadd .i64 (irem .i64 (IntKind.i64.wrap at_) (imul .i64 8 (k : Int))) n2) 8)).toNat) (ixor .u8 (l2.getD (0 + ((iquo .i64 (iadd .i64 (irem .i64 (IntKind.i64.wrap at_) (imul .i64 8 (k : Int))) n2) 8)).toNat) 0) (ishl .u8 1 (irem .i64 (iadd .i64 (irem .i64 (IntKind.i64.wrap at_) (imul .i64 8 (k : Int))) n2) 8)))))))]⟩), [
    (decide ((n2 : Int) < 32)) = true,
    (!decide (((imul .i64 8 (k : Int)) : Int) = 0)) = true,
    (decide (((iadd .i64 (irem .i64 (IntKind.i64.wrap at_) (imul .i64 8 (k : Int))) n2) : Int) < (imul .i64 8 (k : Int)))) = true,
    (decide ((0 : Int) ≤ n2)) = true,
    (decide (((iand .u32 (ishr .u32 turn n2) 1) : Int) = 1)) = true,
    true = true,
    (decide ((0 : Int) ≤ (iquo .i64 (iadd .i64 (irem .i64 (IntKind.i64.wrap at_) (imul .i64 8 (k : Int))) n2) 8)) && decide (((iquo .i64 (iadd .i64 (irem .i64 (IntKind.i64.wrap at_) (imul .i64 8 (k : Int))) n2) 8) : Int) < (k : Int))) = true,
    true = true,
    (decide ((0 : Int) ≤ (irem .i64 (iadd .i64 (irem .i64 (IntKind.i64.wrap at_) (imul .i64 8 (k : Int))) n2) 8))) = true,
    (decide ((0 : Int) ≤ (iquo .i64 (iadd .i64 (irem .i64 (IntKind.i64.wrap at_) (imul .i64 8 (k : Int))) n2) 8)) && decide (((iquo .i64 (iadd .i64 (irem .i64 (IntKind.i64.wrap at_) (imul .i64 8 (k : Int))) n2) 8) : Int) < (k : Int))) = true]) := by kernel_rfl
theorem kinfolklaw06_WireSums_L0_q1_1 (p : List Int) (at_ : Int) (turn : Int) (l : List Int) (k : Nat) (n2 : Int) (l2 : List Int) : evRound (lEnv Try.prog cfg 3 0) (loopAt Try.prog 3 0) ⟨[(0, (.av (.one (.pv (.ints .u8 p false))))), (1, (.av (.one (.pv (.int .u16 at_))))), (2, (.av (.one (.pv (.int .u32 turn))))), (7, (.av (.one (.own 0 0 k false)))), (8, (.av (.one (.pv (.bool false))))), (29, (.av (.one (.pv (.int .i64 n2)))))], [], [(0, (.live (.ints .u8 l2)))]⟩
    [.br true, .br true, .br false] =
  some ((.normal, ⟨[(0, (.av (.one (.pv (.ints .u8 p false))))), (1, (.av (.one (.pv (.int .u16 at_))))), (2, (.av (.one (.pv (.int .u32 turn))))), (7, (.av (.one (.own 0 0 k false)))), (8, (.av (.one (.pv (.bool false))))), (29, (.av (.one (.pv (.int .i64 (iadd .i64 n2 1))))))], [], [(0, (.live (.ints .u8 l2)))]⟩), [
    (decide ((n2 : Int) < 32)) = true,
    (!decide (((imul .i64 8 (k : Int)) : Int) = 0)) = true,
    (decide (((iadd .i64 (irem .i64 (IntKind.i64.wrap at_) (imul .i64 8 (k : Int))) n2) : Int) < (imul .i64 8 (k : Int)))) = true,
    (decide ((0 : Int) ≤ n2)) = true,
    (decide (((iand .u32 (ishr .u32 turn n2) 1) : Int) = 1)) = false]) := by kernel_rfl
theorem kinfolklaw06_WireSums_L0_q1_2 (p : List Int) (at_ : Int) (turn : Int) (l : List Int) (k : Nat) (n2 : Int) (l2 : List Int) : evRound (lEnv Try.prog cfg 3 0) (loopAt Try.prog 3 0) ⟨[(0, (.av (.one (.pv (.ints .u8 p false))))), (1, (.av (.one (.pv (.int .u16 at_))))), (2, (.av (.one (.pv (.int .u32 turn))))), (7, (.av (.one (.own 0 0 k false)))), (8, (.av (.one (.pv (.bool false))))), (29, (.av (.one (.pv (.int .i64 n2)))))], [], [(0, (.live (.ints .u8 l2)))]⟩
    [.br true, .br false, .br false] =
  some ((.normal, ⟨[(0, (.av (.one (.pv (.ints .u8 p false))))), (1, (.av (.one (.pv (.int .u16 at_))))), (2, (.av (.one (.pv (.int .u32 turn))))), (7, (.av (.one (.own 0 0 k false)))), (8, (.av (.one (.pv (.bool false))))), (29, (.av (.one (.pv (.int .i64 (iadd .i64 n2 1))))))], [], [(0, (.live (.ints .u8 l2)))]⟩), [
    (decide ((n2 : Int) < 32)) = true,
    (!decide (((imul .i64 8 (k : Int)) : Int) = 0)) = true,
    (decide (((iadd .i64 (irem .i64 (IntKind.i64.wrap at_) (imul .i64 8 (k : Int))) n2) : Int) < (imul .i64 8 (k : Int)))) = false,
    false = false]) := by kernel_rfl
theorem kinfolklaw06_WireSums_L0_q1_3 (p : List Int) (at_ : Int) (turn : Int) (l : List Int) (k : Nat) (n2 : Int) (l2 : List Int) : evRound (lEnv Try.prog cfg 3 0) (loopAt Try.prog 3 0) ⟨[(0, (.av (.one (.pv (.ints .u8 p false))))), (1, (.av (.one (.pv (.int .u16 at_))))), (2, (.av (.one (.pv (.int .u32 turn))))), (7, (.av (.one (.own 0 0 k false)))), (8, (.av (.one (.pv (.bool false))))), (29, (.av (.one (.pv (.int .i64 n2)))))], [], [(0, (.live (.ints .u8 l2)))]⟩
    [.br false] =
  some (((.exit 0), ⟨[(30, (.av (.one (.pv (.bool false))))), (0, (.av (.one (.pv (.ints .u8 p false))))), (1, (.av (.one (.pv (.int .u16 at_))))), (2, (.av (.one (.pv (.int .u32 turn))))), (7, (.av (.one (.own 0 0 k false)))), (8, (.av (.one (.pv (.bool false))))), (29, (.av (.one (.pv (.int .i64 n2))))), (30, (.av (.one (.pv (.bool (decide ((n2 : Int) < 32)))))))], [], [(0, (.live (.ints .u8 l2)))]⟩), [
    (decide ((n2 : Int) < 32)) = false]) := by kernel_rfl
noncomputable def kinfolklaw06_WireSums_L0_step (p : List Int) (at_ : Int) (turn : Int) (l : List Int) : (Int) ⊕ (Nat × Int × List Int) → Option (((Int) ⊕ (Nat × Int × List Int)) ⊕ ((Unit) ⊕ (Nat × List Int)))
  | .inl n =>
    bif (decide ((n : Int) < 32)) then
      bif !decide (((imul .i64 8 ((l).length : Int)) : Int) = 0) then
      bif (decide (((iadd .i64 (irem .i64 (IntKind.i64.wrap at_) (imul .i64 8 ((l).length : Int))) n) : Int) < (imul .i64 8 ((l).length : Int)))) then
        bif decide ((0 : Int) ≤ n) then
        bif (decide (((iand .u32 (ishr .u32 turn n) 1) : Int) = 1)) then
          bif decide ((0 : Int) ≤ (iquo .i64 (iadd .i64 (irem .i64 (IntKind.i64.wrap at_) (imul .i64 8 ((l).length : Int))) n) 8)) && decide (((iquo .i64 (iadd .i64 (irem .i64 (IntKind.i64.wrap at_) (imul .i64 8 ((l).length : Int))) n) 8) : Int) < ((l).length : Int)) then
          bif decide ((0 : Int) ≤ (irem .i64 (iadd .i64 (irem .i64 (IntKind.i64.wrap at_) (imul .i64 8 ((l).length : Int))) n) 8)) then
          some (.inl (.inr ((l).length, (iadd .i64 n 1), (l.set (0 + ((iquo .i64 (iadd .i64 (irem .i64 (IntKind.i64.wrap at_) (imul .i64 8 ((l).length : Int))) n) 8)).toNat) (ixor .u8 (l.getD (0 + ((iquo .i64 (iadd .i64 (irem .i64 (IntKind.i64.wrap at_) (imul .i64 8 ((l).length : Int))) n) 8)).toNat) 0) (ishl .u8 1 (irem .i64 (iadd .i64 (irem .i64 (IntKind.i64.wrap at_) (imul .i64 8 ((l).length : Int))) n) 8)))))))
          else none
          else none
        else
          some (.inl (.inl (iadd .i64 n 1)))
        else none
      else
        some (.inl (.inl (iadd .i64 n 1)))
      else none
    else
      some (.inr (.inl ()))
  | .inr (k, n2, l2) =>
    bif (decide ((n2 : Int) < 32)) then
      bif !decide (((imul .i64 8 (k : Int)) : Int) = 0) then
      bif (decide (((iadd .i64 (irem .i64 (IntKind.i64.wrap at_) (imul .i64 8 (k : Int))) n2) : Int) < (imul .i64 8 (k : Int)))) then
        bif decide ((0 : Int) ≤ n2) then
        bif (decide (((iand .u32 (ishr .u32 turn n2) 1) : Int) = 1)) then
          bif decide ((0 : Int) ≤ (iquo .i64 (iadd .i64 (irem .i64 (IntKind.i64.wrap at_) (imul .i64 8 (k : Int))) n2) 8)) && decide (((iquo .i64 (iadd .i64 (irem .i64 (IntKind.i64.wrap at_) (imul .i64 8 (k : Int))) n2) 8) : Int) < (k : Int)) then
          bif decide ((0 : Int) ≤ (irem .i64 (iadd .i64 (irem .i64 (IntKind.i64.wrap at_) (imul .i64 8 (k : Int))) n2) 8)) then
          some (.inl (.inr (k, (iadd .i64 n2 1), (l2.set (0 + ((iquo .i64 (iadd .i64 (irem .i64 (IntKind.i64.wrap at_) (imul .i64 8 (k : Int))) n2) 8)).toNat) (ixor .u8 (l2.getD (0 + ((iquo .i64 (iadd .i64 (irem .i64 (IntKind.i64.wrap at_) (imul .i64 8 (k : Int))) n2) 8)).toNat) 0) (ishl .u8 1 (irem .i64 (iadd .i64 (irem .i64 (IntKind.i64.wrap at_) (imul .i64 8 (k : Int))) n2) 8)))))))
          else none
          else none
        else
          some (.inl (.inr (k, (iadd .i64 n2 1), l2)))
        else none
      else
        some (.inl (.inr (k, (iadd .i64 n2 1), l2)))
      else none
    else
      some (.inr (.inr (k, l2)))
theorem kinfolklaw06_WireSums_L0_ok (p : List Int) (at_ : Int) (turn : Int) (l : List Int) (s_ : (Int) ⊕ (Nat × Int × List Int)) (z_ : ((Int) ⊕ (Nat × Int × List Int)) ⊕ ((Unit) ⊕ (Nat × List Int))) (h : kinfolklaw06_WireSums_L0_step p at_ turn l s_ = some z_) : RoundOk Try.prog cfg 3 0 (loopAt Try.prog 3 0) (kinfolklaw06_WireSums_L0_st p at_ turn l) (kinfolklaw06_WireSums_L0_ex p at_ turn l) s_ z_ := by
  rcases s_ with n | ⟨k, n2, l2⟩
  · rcases cond_of h with ⟨h1, h⟩ | ⟨h1, h⟩
    · obtain ⟨h2, h⟩ := need_of h
      rcases cond_of h with ⟨h3, h⟩ | ⟨h3, h⟩
      · obtain ⟨h4, h⟩ := need_of h
        rcases cond_of h with ⟨h5, h⟩ | ⟨h5, h⟩
        · obtain ⟨h6, h⟩ := need_of h
          obtain ⟨h7, h⟩ := need_of h
          have h := some_of h
          subst h
          have e_ := kinfolklaw06_WireSums_L0_q0_0 p at_ turn l n
          have e_ := Says.of e_ ⟨h1, h2, h3, h4, h5, rfl, h6, rfl, h7, h6, trivial⟩
          exact ⟨_, _, e_, ⟨⟨⟨_, rfl, .eq rfl⟩, ⟨_, rfl, .eq rfl⟩, ⟨_, rfl, .eq rfl⟩, ⟨_, rfl, .eq rfl⟩, ⟨_, rfl, .eq rfl⟩, ⟨_, rfl, .eq rfl⟩, trivial⟩, trivial, ⟨⟨rfl, .eq rfl⟩, trivial⟩⟩⟩
        · have h := some_of h
          subst h
          have e_ := kinfolklaw06_WireSums_L0_q0_1 p at_ turn l n
          have e_ := Says.of e_ ⟨h1, h2, h3, h4, h5, trivial⟩
          exact ⟨_, _, e_, ⟨⟨⟨_, rfl, .eq rfl⟩, ⟨_, rfl, .eq rfl⟩, ⟨_, rfl, .eq rfl⟩, ⟨_, rfl, .eq rfl⟩, ⟨_, rfl, .eq rfl⟩, ⟨_, rfl, .eq rfl⟩, trivial⟩, trivial, ⟨⟨rfl, .eq rfl⟩, trivial⟩⟩⟩
      · have h := some_of h
        subst h
        have e_ := kinfolklaw06_WireSums_L0_q0_2 p at_ turn l n
        have e_ := Says.of e_ ⟨h1, h2, h3, rfl, trivial⟩
        exact ⟨_, _, e_, ⟨⟨⟨_, rfl, .eq rfl⟩, ⟨_, rfl, .eq rfl⟩, ⟨_, rfl, .eq rfl⟩, ⟨_, rfl, .eq rfl⟩, ⟨_, rfl, .eq rfl⟩, ⟨_, rfl, .eq rfl⟩, trivial⟩, trivial, ⟨⟨rfl, .eq rfl⟩, trivial⟩⟩⟩
    · have h := some_of h
      subst h
      have e_ := kinfolklaw06_WireSums_L0_q0_3 p at_ turn l n
      have e_ := Says.of e_ ⟨h1, trivial⟩
      exact ⟨_, _, e_, ⟨⟨⟨_, rfl, .eq rfl⟩, ⟨_, rfl, .eq rfl⟩, ⟨_, rfl, .eq rfl⟩, trivial⟩, trivial, ⟨⟨rfl, .eq rfl⟩, trivial⟩⟩⟩
  · rcases cond_of h with ⟨h1, h⟩ | ⟨h1, h⟩
    · obtain ⟨h2, h⟩ := need_of h
      rcases cond_of h with ⟨h3, h⟩ | ⟨h3, h⟩
      · obtain ⟨h4, h⟩ := need_of h
        rcases cond_of h with ⟨h5, h⟩ | ⟨h5, h⟩
        · obtain ⟨h6, h⟩ := need_of h
          obtain ⟨h7, h⟩ := need_of h
          have h := some_of h
          subst h
          have e_ := kinfolklaw06_WireSums_L0_q1_0 p at_ turn l k n2 l2
          have e_ := Says.of e_ ⟨h1, h2, h3, h4, h5, rfl, h6, rfl, h7, h6, trivial⟩
          exact ⟨_, _, e_, ⟨⟨⟨_, rfl, .eq rfl⟩, ⟨_, rfl, .eq rfl⟩, ⟨_, rfl, .eq rfl⟩, ⟨_, rfl, .eq rfl⟩, ⟨_, rfl, .eq rfl⟩, ⟨_, rfl, .eq rfl⟩, trivial⟩, trivial, ⟨⟨rfl, .eq rfl⟩, trivial⟩⟩⟩
        · have h := some_of h
          subst h
          have e_ := kinfolklaw06_WireSums_L0_q1_1 p at_ turn l k n2 l2
          have e_ := Says.of e_ ⟨h1, h2, h3, h4, h5, trivial⟩
          exact ⟨_, _, e_, ⟨⟨⟨_, rfl, .eq rfl⟩, ⟨_, rfl, .eq rfl⟩, ⟨_, rfl, .eq rfl⟩, ⟨_, rfl, .eq rfl⟩, ⟨_, rfl, .eq rfl⟩, ⟨_, rfl, .eq rfl⟩, trivial⟩, trivial, ⟨⟨rfl, .eq rfl⟩, trivial⟩⟩⟩
      · have h := some_of h
        subst h
        have e_ := kinfolklaw06_WireSums_L0_q1_2 p at_ turn l k n2 l2
        have e_ := Says.of e_ ⟨h1, h2, h3, rfl, trivial⟩
        exact ⟨_, _, e_, ⟨⟨⟨_, rfl, .eq rfl⟩, ⟨_, rfl, .eq rfl⟩, ⟨_, rfl, .eq rfl⟩, ⟨_, rfl, .eq rfl⟩, ⟨_, rfl, .eq rfl⟩, ⟨_, rfl, .eq rfl⟩, trivial⟩, trivial, ⟨⟨rfl, .eq rfl⟩, trivial⟩⟩⟩
    · have h := some_of h
      subst h
      have e_ := kinfolklaw06_WireSums_L0_q1_3 p at_ turn l k n2 l2
      have e_ := Says.of e_ ⟨h1, trivial⟩
      exact ⟨_, _, e_, ⟨⟨⟨_, rfl, .eq rfl⟩, ⟨_, rfl, .eq rfl⟩, ⟨_, rfl, .eq rfl⟩, trivial⟩, trivial, ⟨⟨rfl, .eq rfl⟩, trivial⟩⟩⟩
theorem kinfolklaw06_WireSums_L0_runs (p : List Int) (at_ : Int) (turn : Int) (l : List Int) (s_ : (Int) ⊕ (Nat × Int × List Int)) (r_ : (Unit) ⊕ (Nat × List Int)) (h : runL (kinfolklaw06_WireSums_L0_step p at_ turn l) s_ = some r_) : LRuns Try.prog (lEnv Try.prog cfg 3 0).nt 0 (.loop (loopAt Try.prog 3 0)) (kinfolklaw06_WireSums_L0_st p at_ turn l s_) (kinfolklaw06_WireSums_L0_ex p at_ turn l r_).1 (kinfolklaw06_WireSums_L0_ex p at_ turn l r_).2 :=
  loop_run h (kinfolklaw06_WireSums_L0_ok p at_ turn l) (by intro r_; rcases r_ with _ | ⟨r1, r2⟩ <;> simp [kinfolklaw06_WireSums_L0_ex])
/-! ### kinfolklaw06_WireSums -/
def kinfolklaw06_WireSums_out (p : List Int) (at_ : Int) (turn : Int) : Bool → Res
  | r1 => ([(.one (.pv (.bool r1)))], [], [])
theorem kinfolklaw06_WireSums_p0 (p : List Int) (at_ : Int) (turn : Int) (b : Bool) (l_ : List Int) (n : Int) (n2 : Int) : evFn Try.prog cfg (Runs Try.prog) (LRuns Try.prog (lEnv Try.prog cfg 3 0).nt 0) 3 [(.one (.pv (.ints .u8 p false))), (.one (.pv (.int .u16 at_))), (.one (.pv (.int .u32 turn)))] [] []
    [.res ([(.one (.pv (.bool b)))], [], []), .br false, .res ([(.one (.own 0 0 (l_).length false))], [], [(.ints .u8 l_)]), .res ([(.one (.pv (.int .u32 n)))], [], []), .res ([(.one (.pv (.int .u32 n2)))], [], []), .br false, .br true, .br true] =
  some (([(.one (.pv (.bool true)))], [], []), [
    Runs Try.prog 9 [] [] [] ([(.one (.pv (.bool b)))], [], []),
    (!b) = false,
    Runs Try.prog 10 [(.one (.bor (.ints .u8 p false))), (.one (.pv (.int .i64 200)))] [] [] ([(.one (.own 0 0 (l_).length false))], [], [(.ints .u8 l_)]),
    Runs Try.prog 11 [(.one (.pv (.ints .u8 (List.take (l_).length l_) false)))] [] [] ([(.one (.pv (.int .u32 n)))], [], []),
    Runs Try.prog 12 [(.one (.pv (.ints .u8 (List.take (l_).length l_) false)))] [] [] ([(.one (.pv (.int .u32 n2)))], [], []),
    (!(decide ((n : Int) = n2))) = false,
    (decide (((((List.take (l_).length l_)).length : Int) : Int) = 0)) = true,
    true = true]) := by kernel_rfl
theorem kinfolklaw06_WireSums_p1 (p : List Int) (at_ : Int) (turn : Int) (b : Bool) (l_ : List Int) (n : Int) (n2 : Int) : evFn Try.prog cfg (Runs Try.prog) (LRuns Try.prog (lEnv Try.prog cfg 3 0).nt 0) 3 [(.one (.pv (.ints .u8 p false))), (.one (.pv (.int .u16 at_))), (.one (.pv (.int .u32 turn)))] [] []
    [.res ([(.one (.pv (.bool b)))], [], []), .br false, .res ([(.one (.own 0 0 (l_).length false))], [], [(.ints .u8 l_)]), .res ([(.one (.pv (.int .u32 n)))], [], []), .res ([(.one (.pv (.int .u32 n2)))], [], []), .br false, .br false, .br true] =
  some (([(.one (.pv (.bool true)))], [], []), [
    Runs Try.prog 9 [] [] [] ([(.one (.pv (.bool b)))], [], []),
    (!b) = false,
    Runs Try.prog 10 [(.one (.bor (.ints .u8 p false))), (.one (.pv (.int .i64 200)))] [] [] ([(.one (.own 0 0 (l_).length false))], [], [(.ints .u8 l_)]),
    Runs Try.prog 11 [(.one (.pv (.ints .u8 (List.take (l_).length l_) false)))] [] [] ([(.one (.pv (.int .u32 n)))], [], []),
    Runs Try.prog 12 [(.one (.pv (.ints .u8 (List.take (l_).length l_) false)))] [] [] ([(.one (.pv (.int .u32 n2)))], [], []),
    (!(decide ((n : Int) = n2))) = false,
    (decide (((((List.take (l_).length l_)).length : Int) : Int) = 0)) = false,
    (decide ((turn : Int) = 0)) = true]) := by kernel_rfl
theorem kinfolklaw06_WireSums_p2 (p : List Int) (at_ : Int) (turn : Int) (b : Bool) (l_ : List Int) (n : Int) (n2 : Int) (l_2 : List Int) : evFn Try.prog cfg (Runs Try.prog) (LRuns Try.prog (lEnv Try.prog cfg 3 0).nt 0) 3 [(.one (.pv (.ints .u8 p false))), (.one (.pv (.int .u16 at_))), (.one (.pv (.int .u32 turn)))] [] []
    [.res ([(.one (.pv (.bool b)))], [], []), .br false, .res ([(.one (.own 0 0 (l_).length false))], [], [(.ints .u8 l_)]), .res ([(.one (.pv (.int .u32 n)))], [], []), .res ([(.one (.pv (.int .u32 n2)))], [], []), .br false, .br false, .br false, .res ([(.one (.own 0 0 (l_2).length false))], [], [(.ints .u8 l_2)]), .lp (.exit 0) ⟨[(0, (.av (.one (.pv (.ints .u8 l_ false))))), (7, (.av (.one (.own 0 0 (l_2).length false)))), (8, (.av (.one (.pv (.bool true)))))], [], [(0, (.live (.ints .u8 l_2)))]⟩, .br true] =
  some (([(.one (.pv (.bool true)))], [], []), [
    Runs Try.prog 9 [] [] [] ([(.one (.pv (.bool b)))], [], []),
    (!b) = false,
    Runs Try.prog 10 [(.one (.bor (.ints .u8 p false))), (.one (.pv (.int .i64 200)))] [] [] ([(.one (.own 0 0 (l_).length false))], [], [(.ints .u8 l_)]),
    Runs Try.prog 11 [(.one (.pv (.ints .u8 (List.take (l_).length l_) false)))] [] [] ([(.one (.pv (.int .u32 n)))], [], []),
    Runs Try.prog 12 [(.one (.pv (.ints .u8 (List.take (l_).length l_) false)))] [] [] ([(.one (.pv (.int .u32 n2)))], [], []),
    (!(decide ((n : Int) = n2))) = false,
    (decide (((((List.take (l_).length l_)).length : Int) : Int) = 0)) = false,
    (decide ((turn : Int) = 0)) = false,
    Runs Try.prog 10 [(.one (.bor (.ints .u8 (List.take (l_).length l_) false))), (.one (.pv (.int .i64 200)))] [] [] ([(.one (.own 0 0 (l_2).length false))], [], [(.ints .u8 l_2)]),
    LRuns Try.prog (lEnv Try.prog cfg 3 0).nt 0 (.loop (loopAt Try.prog 3 0)) ⟨[(0, (.av (.one (.pv (.ints .u8 (List.take (l_).length l_) false))))), (1, (.av (.one (.pv (.int .u16 at_))))), (2, (.av (.one (.pv (.int .u32 turn))))), (7, (.av (.one (.own 0 0 (l_2).length false)))), (8, (.av (.one (.pv (.bool true))))), (29, (.av (.one (.pv (.int .i64 0)))))], [], [(0, (.live (.ints .u8 l_2)))]⟩ (.exit 0) ⟨[(0, (.av (.one (.pv (.ints .u8 l_ false))))), (7, (.av (.one (.own 0 0 (l_2).length false)))), (8, (.av (.one (.pv (.bool true)))))], [], [(0, (.live (.ints .u8 l_2)))]⟩,
    true = true]) := by kernel_rfl
theorem kinfolklaw06_WireSums_p3 (p : List Int) (at_ : Int) (turn : Int) (b : Bool) (l_ : List Int) (n : Int) (n2 : Int) (l_2 : List Int) (k : Nat) (l_3 : List Int) (n3 : Int) (n4 : Int) : evFn Try.prog cfg (Runs Try.prog) (LRuns Try.prog (lEnv Try.prog cfg 3 0).nt 0) 3 [(.one (.pv (.ints .u8 p false))), (.one (.pv (.int .u16 at_))), (.one (.pv (.int .u32 turn)))] [] []
    [.res ([(.one (.pv (.bool b)))], [], []), .br false, .res ([(.one (.own 0 0 (l_).length false))], [], [(.ints .u8 l_)]), .res ([(.one (.pv (.int .u32 n)))], [], []), .res ([(.one (.pv (.int .u32 n2)))], [], []), .br false, .br false, .br false, .res ([(.one (.own 0 0 (l_2).length false))], [], [(.ints .u8 l_2)]), .lp (.exit 0) ⟨[(0, (.av (.one (.pv (.ints .u8 l_ false))))), (7, (.av (.one (.own 0 0 k false)))), (8, (.av (.one (.pv (.bool false)))))], [], [(0, (.live (.ints .u8 l_3)))]⟩, .br false, .res ([(.one (.pv (.int .u32 n3)))], [], []), .res ([(.one (.pv (.int .u32 n4)))], [], [])] =
  some (([(.one (.pv (.bool (!(decide ((n3 : Int) = n4))))))], [], []), [
    Runs Try.prog 9 [] [] [] ([(.one (.pv (.bool b)))], [], []),
    (!b) = false,
    Runs Try.prog 10 [(.one (.bor (.ints .u8 p false))), (.one (.pv (.int .i64 200)))] [] [] ([(.one (.own 0 0 (l_).length false))], [], [(.ints .u8 l_)]),
    Runs Try.prog 11 [(.one (.pv (.ints .u8 (List.take (l_).length l_) false)))] [] [] ([(.one (.pv (.int .u32 n)))], [], []),
    Runs Try.prog 12 [(.one (.pv (.ints .u8 (List.take (l_).length l_) false)))] [] [] ([(.one (.pv (.int .u32 n2)))], [], []),
    (!(decide ((n : Int) = n2))) = false,
    (decide (((((List.take (l_).length l_)).length : Int) : Int) = 0)) = false,
    (decide ((turn : Int) = 0)) = false,
    Runs Try.prog 10 [(.one (.bor (.ints .u8 (List.take (l_).length l_) false))), (.one (.pv (.int .i64 200)))] [] [] ([(.one (.own 0 0 (l_2).length false))], [], [(.ints .u8 l_2)]),
    LRuns Try.prog (lEnv Try.prog cfg 3 0).nt 0 (.loop (loopAt Try.prog 3 0)) ⟨[(0, (.av (.one (.pv (.ints .u8 (List.take (l_).length l_) false))))), (1, (.av (.one (.pv (.int .u16 at_))))), (2, (.av (.one (.pv (.int .u32 turn))))), (7, (.av (.one (.own 0 0 (l_2).length false)))), (8, (.av (.one (.pv (.bool true))))), (29, (.av (.one (.pv (.int .i64 0)))))], [], [(0, (.live (.ints .u8 l_2)))]⟩ (.exit 0) ⟨[(0, (.av (.one (.pv (.ints .u8 l_ false))))), (7, (.av (.one (.own 0 0 k false)))), (8, (.av (.one (.pv (.bool false)))))], [], [(0, (.live (.ints .u8 l_3)))]⟩,
    false = false,
    Runs Try.prog 11 [(.one (.pv (.ints .u8 (List.take k l_3) false)))] [] [] ([(.one (.pv (.int .u32 n3)))], [], []),
    Runs Try.prog 11 [(.one (.pv (.ints .u8 l_ false)))] [] [] ([(.one (.pv (.int .u32 n4)))], [], [])]) := by kernel_rfl
theorem kinfolklaw06_WireSums_p4 (p : List Int) (at_ : Int) (turn : Int) (b : Bool) (l_ : List Int) (n : Int) (n2 : Int) : evFn Try.prog cfg (Runs Try.prog) (LRuns Try.prog (lEnv Try.prog cfg 3 0).nt 0) 3 [(.one (.pv (.ints .u8 p false))), (.one (.pv (.int .u16 at_))), (.one (.pv (.int .u32 turn)))] [] []
    [.res ([(.one (.pv (.bool b)))], [], []), .br false, .res ([(.one (.own 0 0 (l_).length false))], [], [(.ints .u8 l_)]), .res ([(.one (.pv (.int .u32 n)))], [], []), .res ([(.one (.pv (.int .u32 n2)))], [], []), .br true] =
  some (([(.one (.pv (.bool false)))], [], []), [
    Runs Try.prog 9 [] [] [] ([(.one (.pv (.bool b)))], [], []),
    (!b) = false,
    Runs Try.prog 10 [(.one (.bor (.ints .u8 p false))), (.one (.pv (.int .i64 200)))] [] [] ([(.one (.own 0 0 (l_).length false))], [], [(.ints .u8 l_)]),
    Runs Try.prog 11 [(.one (.pv (.ints .u8 (List.take (l_).length l_) false)))] [] [] ([(.one (.pv (.int .u32 n)))], [], []),
    Runs Try.prog 12 [(.one (.pv (.ints .u8 (List.take (l_).length l_) false)))] [] [] ([(.one (.pv (.int .u32 n2)))], [], []),
    (!(decide ((n : Int) = n2))) = true]) := by kernel_rfl
theorem kinfolklaw06_WireSums_p5 (p : List Int) (at_ : Int) (turn : Int) (b : Bool) : evFn Try.prog cfg (Runs Try.prog) (LRuns Try.prog (lEnv Try.prog cfg 3 0).nt 0) 3 [(.one (.pv (.ints .u8 p false))), (.one (.pv (.int .u16 at_))), (.one (.pv (.int .u32 turn)))] [] []
    [.res ([(.one (.pv (.bool b)))], [], []), .br true] =
  some (([(.one (.pv (.bool false)))], [], []), [
    Runs Try.prog 9 [] [] [] ([(.one (.pv (.bool b)))], [], []),
    (!b) = true]) := by kernel_rfl
noncomputable def kinfolklaw06_WireSums (p : List Int) (at_ : Int) (turn : Int) : Option (Bool) :=
  (kinfolklaw06_awake).bind fun b =>
  bif b then
    (kinfolklaw06_cut p 200).bind fun l_ =>
    (wire_Sum l_).bind fun n =>
    (kinfolkref06_Sum l_).bind fun n2 =>
    bif (decide ((n : Int) = n2)) then
      bif (decide (((((List.take (l_).length l_)).length : Int) : Int) = 0)) then
        some true
      else
        bif (decide ((turn : Int) = 0)) then
          some true
        else
          (kinfolklaw06_cut l_ 200).bind fun l_2 =>
          (runL (kinfolklaw06_WireSums_L0_step l_ at_ turn l_2) (.inl 0)).bind fun z_ => match z_ with
          | .inl _ =>
            some true
          | .inr (k, l_3) =>
            (wire_Sum (List.take k l_3)).bind fun n3 =>
            (wire_Sum l_).bind fun n4 =>
            some (!(decide ((n3 : Int) = n4)))
    else
      some false
  else
    some false
theorem kinfolklaw06_WireSums_runs (p : List Int) (at_ : Int) (turn : Int) (r_ : Bool) (h : kinfolklaw06_WireSums p at_ turn = some r_) : Runs Try.prog 3 [(.one (.pv (.ints .u8 p false))), (.one (.pv (.int .u16 at_))), (.one (.pv (.int .u32 turn)))] [] [] (kinfolklaw06_WireSums_out p at_ turn r_) := by
  unfold kinfolklaw06_WireSums at h
  obtain ⟨b, h1, h⟩ := bind_of h
  rcases cond_of h with ⟨h2, h⟩ | ⟨h2, h⟩
  · obtain ⟨l_, h3, h⟩ := bind_of h
    obtain ⟨n, h4, h⟩ := bind_of h
    obtain ⟨n2, h5, h⟩ := bind_of h
    rcases cond_of h with ⟨h6, h⟩ | ⟨h6, h⟩
    · rcases cond_of h with ⟨h7, h⟩ | ⟨h7, h⟩
      · have h := some_of h
        subst h
        have e_ := kinfolklaw06_WireSums_p0 p at_ turn b l_ n n2
        have e_ := runs_of (objs := []) (Says.of e_ ⟨(kinfolklaw06_awake_runs _ h1), (not_of2 h2), (kinfolklaw06_cut_runs p 200 _ h3), ((wire_Sum_runs l_ _ h4).coe ⟨.pv (.ints (by first | rfl | (simp only [List.take_length]; done) | (simp only [List.take_length, List.length_append, List.drop_zero, List.map_append, List.map_take, List.map_drop, List.map_cons, List.map_nil, List.append_nil, List.nil_append]; done) | (simp; done))), trivial⟩ trivial trivial), ((kinfolkref06_Sum_runs l_ _ h5).coe ⟨.pv (.ints (by first | rfl | (simp only [List.take_length]; done) | (simp only [List.take_length, List.length_append, List.drop_zero, List.map_append, List.map_take, List.map_drop, List.map_cons, List.map_nil, List.append_nil, List.nil_append]; done) | (simp; done))), trivial⟩ trivial trivial), (not_of2 h6), h7, rfl, trivial⟩)
        exact e_
      · rcases cond_of h with ⟨h8, h⟩ | ⟨h8, h⟩
        · have h := some_of h
          subst h
          have e_ := kinfolklaw06_WireSums_p1 p at_ turn b l_ n n2
          have e_ := runs_of (objs := []) (Says.of e_ ⟨(kinfolklaw06_awake_runs _ h1), (not_of2 h2), (kinfolklaw06_cut_runs p 200 _ h3), ((wire_Sum_runs l_ _ h4).coe ⟨.pv (.ints (by first | rfl | (simp only [List.take_length]; done) | (simp only [List.take_length, List.length_append, List.drop_zero, List.map_append, List.map_take, List.map_drop, List.map_cons, List.map_nil, List.append_nil, List.nil_append]; done) | (simp; done))), trivial⟩ trivial trivial), ((kinfolkref06_Sum_runs l_ _ h5).coe ⟨.pv (.ints (by first | rfl | (simp only [List.take_length]; done) | (simp only [List.take_length, List.length_append, List.drop_zero, List.map_append, List.map_take, List.map_drop, List.map_cons, List.map_nil, List.append_nil, List.nil_append]; done) | (simp; done))), trivial⟩ trivial trivial), (not_of2 h6), h7, h8, trivial⟩)
          exact e_
        · obtain ⟨l_2, h9, h⟩ := bind_of h
          obtain ⟨z_, h10, h⟩ := bind_of h
          rcases z_ with _ | ⟨k, l_3⟩
          · have h := some_of h
            subst h
            have e_ := kinfolklaw06_WireSums_p2 p at_ turn b l_ n n2 l_2
            have e_ := runs_of (objs := []) (Says.of e_ ⟨(kinfolklaw06_awake_runs _ h1), (not_of2 h2), (kinfolklaw06_cut_runs p 200 _ h3), ((wire_Sum_runs l_ _ h4).coe ⟨.pv (.ints (by first | rfl | (simp only [List.take_length]; done) | (simp only [List.take_length, List.length_append, List.drop_zero, List.map_append, List.map_take, List.map_drop, List.map_cons, List.map_nil, List.append_nil, List.nil_append]; done) | (simp; done))), trivial⟩ trivial trivial), ((kinfolkref06_Sum_runs l_ _ h5).coe ⟨.pv (.ints (by first | rfl | (simp only [List.take_length]; done) | (simp only [List.take_length, List.length_append, List.drop_zero, List.map_append, List.map_take, List.map_drop, List.map_cons, List.map_nil, List.append_nil, List.nil_append]; done) | (simp; done))), trivial⟩ trivial trivial), (not_of2 h6), h7, h8, ((kinfolklaw06_cut_runs l_ 200 _ h9).coe ⟨.bor (.ints (by first | rfl | (simp only [List.take_length]; done) | (simp only [List.take_length, List.length_append, List.drop_zero, List.map_append, List.map_take, List.map_drop, List.map_cons, List.map_nil, List.append_nil, List.nil_append]; done) | (simp; done))), .eq rfl, trivial⟩ trivial trivial), ((kinfolklaw06_WireSums_L0_runs l_ at_ turn l_2 _ _ h10).coe ⟨⟨⟨_, rfl, .pv (.ints (by first | rfl | (simp only [List.take_length]; done) | (simp only [List.take_length, List.length_append, List.drop_zero, List.map_append, List.map_take, List.map_drop, List.map_cons, List.map_nil, List.append_nil, List.nil_append]; done) | (simp; done)))⟩, ⟨_, rfl, .eq rfl⟩, ⟨_, rfl, .eq rfl⟩, ⟨_, rfl, .eq rfl⟩, ⟨_, rfl, .eq rfl⟩, ⟨_, rfl, .eq rfl⟩, trivial⟩, trivial, ⟨⟨rfl, .eq rfl⟩, trivial⟩⟩), rfl, trivial⟩)
            exact e_
          · obtain ⟨n3, h11, h⟩ := bind_of h
            obtain ⟨n4, h12, h⟩ := bind_of h
            have h := some_of h
            subst h
            have e_ := kinfolklaw06_WireSums_p3 p at_ turn b l_ n n2 l_2 k l_3 n3 n4
            have e_ := runs_of (objs := []) (Says.of e_ ⟨(kinfolklaw06_awake_runs _ h1), (not_of2 h2), (kinfolklaw06_cut_runs p 200 _ h3), ((wire_Sum_runs l_ _ h4).coe ⟨.pv (.ints (by first | rfl | (simp only [List.take_length]; done) | (simp only [List.take_length, List.length_append, List.drop_zero, List.map_append, List.map_take, List.map_drop, List.map_cons, List.map_nil, List.append_nil, List.nil_append]; done) | (simp; done))), trivial⟩ trivial trivial), ((kinfolkref06_Sum_runs l_ _ h5).coe ⟨.pv (.ints (by first | rfl | (simp only [List.take_length]; done) | (simp only [List.take_length, List.length_append, List.drop_zero, List.map_append, List.map_take, List.map_drop, List.map_cons, List.map_nil, List.append_nil, List.nil_append]; done) | (simp; done))), trivial⟩ trivial trivial), (not_of2 h6), h7, h8, ((kinfolklaw06_cut_runs l_ 200 _ h9).coe ⟨.bor (.ints (by first | rfl | (simp only [List.take_length]; done) | (simp only [List.take_length, List.length_append, List.drop_zero, List.map_append, List.map_take, List.map_drop, List.map_cons, List.map_nil, List.append_nil, List.nil_append]; done) | (simp; done))), .eq rfl, trivial⟩ trivial trivial), ((kinfolklaw06_WireSums_L0_runs l_ at_ turn l_2 _ _ h10).coe ⟨⟨⟨_, rfl, .pv (.ints (by first | rfl | (simp only [List.take_length]; done) | (simp only [List.take_length, List.length_append, List.drop_zero, List.map_append, List.map_take, List.map_drop, List.map_cons, List.map_nil, List.append_nil, List.nil_append]; done) | (simp; done)))⟩, ⟨_, rfl, .eq rfl⟩, ⟨_, rfl, .eq rfl⟩, ⟨_, rfl, .eq rfl⟩, ⟨_, rfl, .eq rfl⟩, ⟨_, rfl, .eq rfl⟩, trivial⟩, trivial, ⟨⟨rfl, .eq rfl⟩, trivial⟩⟩), rfl, (wire_Sum_runs (List.take k l_3) _ h11), (wire_Sum_runs l_ _ h12), trivial⟩)
            exact e_
    · have h := some_of h
      subst h
      have e_ := kinfolklaw06_WireSums_p4 p at_ turn b l_ n n2
      have e_ := runs_of (objs := []) (Says.of e_ ⟨(kinfolklaw06_awake_runs _ h1), (not_of2 h2), (kinfolklaw06_cut_runs p 200 _ h3), ((wire_Sum_runs l_ _ h4).coe ⟨.pv (.ints (by first | rfl | (simp only [List.take_length]; done) | (simp only [List.take_length, List.length_append, List.drop_zero, List.map_append, List.map_take, List.map_drop, List.map_cons, List.map_nil, List.append_nil, List.nil_append]; done) | (simp; done))), trivial⟩ trivial trivial), ((kinfolkref06_Sum_runs l_ _ h5).coe ⟨.pv (.ints (by first | rfl | (simp only [List.take_length]; done) | (simp only [List.take_length, List.length_append, List.drop_zero, List.map_append, List.map_take, List.map_drop, List.map_cons, List.map_nil, List.append_nil, List.nil_append]; done) | (simp; done))), trivial⟩ trivial trivial), (not_of h6), trivial⟩)
      exact e_
  · have h := some_of h
    subst h
    have e_ := kinfolklaw06_WireSums_p5 p at_ turn b
    have e_ := runs_of (objs := []) (Says.of e_ ⟨(kinfolklaw06_awake_runs _ h1), (not_of h2), trivial⟩)
    exact e_
/-! ### wire_take_L0 -/
def wire_take_L0_st (p : List Int) : Int × Int → St
  | (n, n2) => ⟨[(0, (.av (.one (.pv (.ints .u8 p false))))), (3, (.av (.one (.pv (.int .u32 n))))), (5, (.av (.one (.pv (.int .i64 n2)))))], [], []⟩
def wire_take_L0_ex (p : List Int) : Int → Ex × St
  | r1 => ((.exit 0), ⟨[(3, (.av (.one (.pv (.int .u32 r1)))))], [], []⟩)
theorem wire_take_L0_q0_0 (p : List Int) (n : Int) (n2 : Int) : evRound (lEnv Try.prog cfg 36 0) (loopAt Try.prog 36 0) ⟨[(0, (.av (.one (.pv (.ints .u8 p false))))), (3, (.av (.one (.pv (.int .u32 n))))), (5, (.av (.one (.pv (.int .i64 n2)))))], [], []⟩
    [.br true] =
  some ((.normal, ⟨[(0, (.av (.one (.pv (.ints .u8 p false))))), (3, (.av (.one (.pv (.int .u32 (ior .u32 n (ishl .u32 (IntKind.u32.wrap (p.getD (n2).toNat 0)) (imul .i64 8 n2)))))))), (5, (.av (.one (.pv (.int .i64 (iadd .i64 n2 1))))))], [], []⟩), [
    (decide ((n2 : Int) < 4)) = true,
    (decide ((0 : Int) ≤ n2) && decide ((n2 : Int) < ((p).length : Int))) = true,
    (decide ((0 : Int) ≤ (imul .i64 8 n2))) = true]) := by kernel_rfl
theorem wire_take_L0_q0_1 (p : List Int) (n : Int) (n2 : Int) : evRound (lEnv Try.prog cfg 36 0) (loopAt Try.prog 36 0) ⟨[(0, (.av (.one (.pv (.ints .u8 p false))))), (3, (.av (.one (.pv (.int .u32 n))))), (5, (.av (.one (.pv (.int .i64 n2)))))], [], []⟩
    [.br false] =
  some (((.exit 0), ⟨[(6, (.av (.one (.pv (.bool false))))), (0, (.av (.one (.pv (.ints .u8 p false))))), (3, (.av (.one (.pv (.int .u32 n))))), (5, (.av (.one (.pv (.int .i64 n2))))), (6, (.av (.one (.pv (.bool (decide ((n2 : Int) < 4)))))))], [], []⟩), [
    (decide ((n2 : Int) < 4)) = false]) := by kernel_rfl
noncomputable def wire_take_L0_step (p : List Int) : Int × Int → Option ((Int × Int) ⊕ (Int))
  | (n, n2) =>
  bif (decide ((n2 : Int) < 4)) then
    bif decide ((0 : Int) ≤ n2) && decide ((n2 : Int) < ((p).length : Int)) then
    bif decide ((0 : Int) ≤ (imul .i64 8 n2)) then
    some (.inl ((ior .u32 n (ishl .u32 (IntKind.u32.wrap (p.getD (n2).toNat 0)) (imul .i64 8 n2))), (iadd .i64 n2 1)))
    else none
    else none
  else
    some (.inr n)
theorem wire_take_L0_ok (p : List Int) (s_ : Int × Int) (z_ : (Int × Int) ⊕ (Int)) (h : wire_take_L0_step p s_ = some z_) : RoundOk Try.prog cfg 36 0 (loopAt Try.prog 36 0) (wire_take_L0_st p) (wire_take_L0_ex p) s_ z_ := by
  rcases s_ with ⟨n, n2⟩
  rcases cond_of h with ⟨h1, h⟩ | ⟨h1, h⟩
  · obtain ⟨h2, h⟩ := need_of h
    obtain ⟨h3, h⟩ := need_of h
    have h := some_of h
    subst h
    have e_ := wire_take_L0_q0_0 p n n2
    have e_ := Says.of e_ ⟨h1, h2, h3, trivial⟩
    exact ⟨_, _, e_, ⟨⟨⟨_, rfl, .eq rfl⟩, ⟨_, rfl, .eq rfl⟩, ⟨_, rfl, .eq rfl⟩, trivial⟩, trivial, trivial⟩⟩
  · have h := some_of h
    subst h
    have e_ := wire_take_L0_q0_1 p n n2
    have e_ := Says.of e_ ⟨h1, trivial⟩
    exact ⟨_, _, e_, ⟨⟨⟨_, rfl, .eq rfl⟩, trivial⟩, trivial, trivial⟩⟩
theorem wire_take_L0_runs (p : List Int) (s_ : Int × Int) (r_ : Int) (h : runL (wire_take_L0_step p) s_ = some r_) : LRuns Try.prog (lEnv Try.prog cfg 36 0).nt 0 (.loop (loopAt Try.prog 36 0)) (wire_take_L0_st p s_) (wire_take_L0_ex p r_).1 (wire_take_L0_ex p r_).2 :=
  loop_run h (wire_take_L0_ok p) (by intro r_; rcases r_ with r1 <;> simp [wire_take_L0_ex])
/-! ### wire_take -/
def wire_take_out (p : List Int) : Int → Res
  | r1 => ([(.one (.pv (.int .u32 r1)))], [], [])
theorem wire_take_p0 (p : List Int) (n : Int) : evFn Try.prog cfg (Runs Try.prog) (LRuns Try.prog (lEnv Try.prog cfg 36 0).nt 0) 36 [(.one (.pv (.ints .u8 p false)))] [] []
    [.lp (.exit 0) ⟨[(3, (.av (.one (.pv (.int .u32 n)))))], [], []⟩] =
  some (([(.one (.pv (.int .u32 n)))], [], []), [
    LRuns Try.prog (lEnv Try.prog cfg 36 0).nt 0 (.loop (loopAt Try.prog 36 0)) ⟨[(0, (.av (.one (.pv (.ints .u8 p false))))), (3, (.av (.one (.pv (.int .u32 0))))), (5, (.av (.one (.pv (.int .i64 0)))))], [], []⟩ (.exit 0) ⟨[(3, (.av (.one (.pv (.int .u32 n)))))], [], []⟩]) := by kernel_rfl
noncomputable def wire_take (p : List Int) : Option (Int) :=
  (runL (wire_take_L0_step p) (0, 0)).bind fun n =>
  some n
theorem wire_take_runs (p : List Int) (r_ : Int) (h : wire_take p = some r_) : Runs Try.prog 36 [(.one (.pv (.ints .u8 p false)))] [] [] (wire_take_out p r_) := by
  unfold wire_take at h
  obtain ⟨n, h1, h⟩ := bind_of h
  have h := some_of h
  subst h
  have e_ := wire_take_p0 p n
  have e_ := runs_of (objs := []) (Says.of e_ ⟨(wire_take_L0_runs p _ _ h1), trivial⟩)
  exact e_
/-! ### wire_Open -/
def wire_Open_out (p : List Int) : List Int × Int × Int → Res
  | (r1, r2, r3) => ([(.one (.pv (.ints .u8 r1 false))), (.one (.pv (.int .i64 r2))), (.one (.pv (.int .i64 r3)))], [], [])
theorem wire_Open_p0 (p : List Int) : evFn Try.prog cfg (Runs Try.prog) (LRuns Try.prog (lEnv Try.prog cfg 13 0).nt 0) 13 [(.one (.pv (.ints .u8 p false)))] [] []
    [.br true] =
  some (([(.one (.pv .nils)), (.one (.pv (.int .i64 0))), (.one (.pv (.int .i64 6)))], [], []), [
    (decide ((((p).length : Int) : Int) < 8)) = true]) := by kernel_rfl
theorem wire_Open_p1 (p : List Int) (n : Int) : evFn Try.prog cfg (Runs Try.prog) (LRuns Try.prog (lEnv Try.prog cfg 13 0).nt 0) 13 [(.one (.pv (.ints .u8 p false)))] [] []
    [.br false, .res ([(.one (.pv (.int .u32 n)))], [], []), .br true] =
  some (([(.one (.pv .nils)), (.one (.pv (.int .i64 0))), (.one (.pv (.int .i64 9)))], [], []), [
    (decide ((((p).length : Int) : Int) < 8)) = false,
    Runs Try.prog 36 [(.one (.pv (.ints .u8 p false)))] [] [] ([(.one (.pv (.int .u32 n)))], [], []),
    (decide ((1048576 : Int) < n)) = true]) := by kernel_rfl
theorem wire_Open_p2 (p : List Int) (n : Int) : evFn Try.prog cfg (Runs Try.prog) (LRuns Try.prog (lEnv Try.prog cfg 13 0).nt 0) 13 [(.one (.pv (.ints .u8 p false)))] [] []
    [.br false, .res ([(.one (.pv (.int .u32 n)))], [], []), .br false, .br true] =
  some (([(.one (.pv .nils)), (.one (.pv (.int .i64 0))), (.one (.pv (.int .i64 6)))], [], []), [
    (decide ((((p).length : Int) : Int) < 8)) = false,
    Runs Try.prog 36 [(.one (.pv (.ints .u8 p false)))] [] [] ([(.one (.pv (.int .u32 n)))], [], []),
    (decide ((1048576 : Int) < n)) = false,
    (decide (((isub .i64 ((p).length : Int) 8) : Int) < (IntKind.i64.wrap n))) = true]) := by kernel_rfl
theorem wire_Open_p3 (p : List Int) (n : Int) (n2 : Int) (n3 : Int) : evFn Try.prog cfg (Runs Try.prog) (LRuns Try.prog (lEnv Try.prog cfg 13 0).nt 0) 13 [(.one (.pv (.ints .u8 p false)))] [] []
    [.br false, .res ([(.one (.pv (.int .u32 n)))], [], []), .br false, .br false, .res ([(.one (.pv (.ints .u8 (List.take ((iadd .i64 8 (IntKind.i64.wrap n)) - 8).toNat (List.drop 8 p)) false)))], [], []), .res ([(.one (.pv (.int .u32 n2)))], [], []), .br true, .res ([(.one (.pv (.int .u32 n3)))], [], []), .br false] =
  some (([(.one (.pv (.ints .u8 (List.take ((iadd .i64 8 (IntKind.i64.wrap n)) - 8).toNat (List.drop 8 p)) false))), (.one (.pv (.int .i64 (iadd .i64 8 (IntKind.i64.wrap n))))), (.one (.pv (.int .i64 0)))], [], []), [
    (decide ((((p).length : Int) : Int) < 8)) = false,
    Runs Try.prog 36 [(.one (.pv (.ints .u8 p false)))] [] [] ([(.one (.pv (.int .u32 n)))], [], []),
    (decide ((1048576 : Int) < n)) = false,
    (decide (((isub .i64 ((p).length : Int) 8) : Int) < (IntKind.i64.wrap n))) = false,
    (decide ((0 : Int) ≤ 8) && decide ((8 : Int) ≤ (iadd .i64 8 (IntKind.i64.wrap n))) && decide (((iadd .i64 8 (IntKind.i64.wrap n)) : Int) ≤ ((p).length : Int)) && decide (((iadd .i64 8 (IntKind.i64.wrap n)) : Int) = (iadd .i64 8 (IntKind.i64.wrap n)))) = true,
    Runs Try.prog 37 [(.one (.pv (.ints .u8 (List.take ((iadd .i64 8 (IntKind.i64.wrap n)) - 8).toNat (List.drop 8 p)) false)))] [] [] ([(.one (.pv (.ints .u8 (List.take ((iadd .i64 8 (IntKind.i64.wrap n)) - 8).toNat (List.drop 8 p)) false)))], [], []),
    (decide ((0 : Int) ≤ 4) && decide ((4 : Int) ≤ ((p).length : Int)) && decide ((((p).length : Int) : Int) ≤ ((p).length : Int)) && decide ((((p).length : Int) : Int) = ((p).length : Int))) = true,
    (decide ((0 : Int) ≤ 0) && decide ((0 : Int) ≤ 4) && decide ((4 : Int) ≤ ((p).length : Int)) && decide ((4 : Int) = 4)) = true,
    Runs Try.prog 36 [(.one (.pv (.ints .u8 (List.take (((p).length : Int) - 4).toNat (List.drop 4 p)) false)))] [] [] ([(.one (.pv (.int .u32 n2)))], [], []),
    (Nat.beq ((List.take ((iadd .i64 8 (IntKind.i64.wrap n)) - 8).toNat (List.drop 8 p))).length 0) = true,
    Runs Try.prog 11 [(.one (.pv (.ints .u8 (List.take 4 p) true)))] [] [] ([(.one (.pv (.int .u32 n3)))], [], []),
    (!(decide ((n2 : Int) = n3))) = false]) := by kernel_rfl
theorem wire_Open_p4 (p : List Int) (n : Int) (n2 : Int) (n3 : Int) : evFn Try.prog cfg (Runs Try.prog) (LRuns Try.prog (lEnv Try.prog cfg 13 0).nt 0) 13 [(.one (.pv (.ints .u8 p false)))] [] []
    [.br false, .res ([(.one (.pv (.int .u32 n)))], [], []), .br false, .br false, .res ([(.one (.pv (.ints .u8 (List.take ((iadd .i64 8 (IntKind.i64.wrap n)) - 8).toNat (List.drop 8 p)) false)))], [], []), .res ([(.one (.pv (.int .u32 n2)))], [], []), .br true, .res ([(.one (.pv (.int .u32 n3)))], [], []), .br true] =
  some (([(.one (.pv .nils)), (.one (.pv (.int .i64 0))), (.one (.pv (.int .i64 13)))], [], []), [
    (decide ((((p).length : Int) : Int) < 8)) = false,
    Runs Try.prog 36 [(.one (.pv (.ints .u8 p false)))] [] [] ([(.one (.pv (.int .u32 n)))], [], []),
    (decide ((1048576 : Int) < n)) = false,
    (decide (((isub .i64 ((p).length : Int) 8) : Int) < (IntKind.i64.wrap n))) = false,
    (decide ((0 : Int) ≤ 8) && decide ((8 : Int) ≤ (iadd .i64 8 (IntKind.i64.wrap n))) && decide (((iadd .i64 8 (IntKind.i64.wrap n)) : Int) ≤ ((p).length : Int)) && decide (((iadd .i64 8 (IntKind.i64.wrap n)) : Int) = (iadd .i64 8 (IntKind.i64.wrap n)))) = true,
    Runs Try.prog 37 [(.one (.pv (.ints .u8 (List.take ((iadd .i64 8 (IntKind.i64.wrap n)) - 8).toNat (List.drop 8 p)) false)))] [] [] ([(.one (.pv (.ints .u8 (List.take ((iadd .i64 8 (IntKind.i64.wrap n)) - 8).toNat (List.drop 8 p)) false)))], [], []),
    (decide ((0 : Int) ≤ 4) && decide ((4 : Int) ≤ ((p).length : Int)) && decide ((((p).length : Int) : Int) ≤ ((p).length : Int)) && decide ((((p).length : Int) : Int) = ((p).length : Int))) = true,
    (decide ((0 : Int) ≤ 0) && decide ((0 : Int) ≤ 4) && decide ((4 : Int) ≤ ((p).length : Int)) && decide ((4 : Int) = 4)) = true,
    Runs Try.prog 36 [(.one (.pv (.ints .u8 (List.take (((p).length : Int) - 4).toNat (List.drop 4 p)) false)))] [] [] ([(.one (.pv (.int .u32 n2)))], [], []),
    (Nat.beq ((List.take ((iadd .i64 8 (IntKind.i64.wrap n)) - 8).toNat (List.drop 8 p))).length 0) = true,
    Runs Try.prog 11 [(.one (.pv (.ints .u8 (List.take 4 p) true)))] [] [] ([(.one (.pv (.int .u32 n3)))], [], []),
    (!(decide ((n2 : Int) = n3))) = true]) := by kernel_rfl
theorem wire_Open_p5 (p : List Int) (n : Int) (n2 : Int) (n3 : Int) : evFn Try.prog cfg (Runs Try.prog) (LRuns Try.prog (lEnv Try.prog cfg 13 0).nt 0) 13 [(.one (.pv (.ints .u8 p false)))] [] []
    [.br false, .res ([(.one (.pv (.int .u32 n)))], [], []), .br false, .br false, .res ([(.one (.pv (.ints .u8 (List.take ((iadd .i64 8 (IntKind.i64.wrap n)) - 8).toNat (List.drop 8 p)) false)))], [], []), .res ([(.one (.pv (.int .u32 n2)))], [], []), .br false, .res ([(.one (.pv (.int .u32 n3)))], [], []), .br false] =
  some (([(.one (.pv (.ints .u8 (List.take ((iadd .i64 8 (IntKind.i64.wrap n)) - 8).toNat (List.drop 8 p)) false))), (.one (.pv (.int .i64 (iadd .i64 8 (IntKind.i64.wrap n))))), (.one (.pv (.int .i64 0)))], [], []), [
    (decide ((((p).length : Int) : Int) < 8)) = false,
    Runs Try.prog 36 [(.one (.pv (.ints .u8 p false)))] [] [] ([(.one (.pv (.int .u32 n)))], [], []),
    (decide ((1048576 : Int) < n)) = false,
    (decide (((isub .i64 ((p).length : Int) 8) : Int) < (IntKind.i64.wrap n))) = false,
    (decide ((0 : Int) ≤ 8) && decide ((8 : Int) ≤ (iadd .i64 8 (IntKind.i64.wrap n))) && decide (((iadd .i64 8 (IntKind.i64.wrap n)) : Int) ≤ ((p).length : Int)) && decide (((iadd .i64 8 (IntKind.i64.wrap n)) : Int) = (iadd .i64 8 (IntKind.i64.wrap n)))) = true,
    Runs Try.prog 37 [(.one (.pv (.ints .u8 (List.take ((iadd .i64 8 (IntKind.i64.wrap n)) - 8).toNat (List.drop 8 p)) false)))] [] [] ([(.one (.pv (.ints .u8 (List.take ((iadd .i64 8 (IntKind.i64.wrap n)) - 8).toNat (List.drop 8 p)) false)))], [], []),
    (decide ((0 : Int) ≤ 4) && decide ((4 : Int) ≤ ((p).length : Int)) && decide ((((p).length : Int) : Int) ≤ ((p).length : Int)) && decide ((((p).length : Int) : Int) = ((p).length : Int))) = true,
    (decide ((0 : Int) ≤ 0) && decide ((0 : Int) ≤ 4) && decide ((4 : Int) ≤ ((p).length : Int)) && decide ((4 : Int) = 4)) = true,
    Runs Try.prog 36 [(.one (.pv (.ints .u8 (List.take (((p).length : Int) - 4).toNat (List.drop 4 p)) false)))] [] [] ([(.one (.pv (.int .u32 n2)))], [], []),
    (!(Nat.beq ((List.take ((iadd .i64 8 (IntKind.i64.wrap n)) - 8).toNat (List.drop 8 p))).length 0)) = true,
    (fits (((List.take 4 p) ++ (List.take ((iadd .i64 8 (IntKind.i64.wrap n)) - 8).toNat (List.drop 8 p)))).length) = true,
    Runs Try.prog 11 [(.one (.pv (.ints .u8 (List.take (((List.take 4 p) ++ (List.take ((iadd .i64 8 (IntKind.i64.wrap n)) - 8).toNat (List.drop 8 p)))).length ((List.take 4 p) ++ (List.take ((iadd .i64 8 (IntKind.i64.wrap n)) - 8).toNat (List.drop 8 p)))) false)))] [] [] ([(.one (.pv (.int .u32 n3)))], [], []),
    (!(decide ((n2 : Int) = n3))) = false]) := by kernel_rfl
theorem wire_Open_p6 (p : List Int) (n : Int) (n2 : Int) (n3 : Int) : evFn Try.prog cfg (Runs Try.prog) (LRuns Try.prog (lEnv Try.prog cfg 13 0).nt 0) 13 [(.one (.pv (.ints .u8 p false)))] [] []
    [.br false, .res ([(.one (.pv (.int .u32 n)))], [], []), .br false, .br false, .res ([(.one (.pv (.ints .u8 (List.take ((iadd .i64 8 (IntKind.i64.wrap n)) - 8).toNat (List.drop 8 p)) false)))], [], []), .res ([(.one (.pv (.int .u32 n2)))], [], []), .br false, .res ([(.one (.pv (.int .u32 n3)))], [], []), .br true] =
  some (([(.one (.pv .nils)), (.one (.pv (.int .i64 0))), (.one (.pv (.int .i64 13)))], [], []), [
    (decide ((((p).length : Int) : Int) < 8)) = false,
    Runs Try.prog 36 [(.one (.pv (.ints .u8 p false)))] [] [] ([(.one (.pv (.int .u32 n)))], [], []),
    (decide ((1048576 : Int) < n)) = false,
    (decide (((isub .i64 ((p).length : Int) 8) : Int) < (IntKind.i64.wrap n))) = false,
    (decide ((0 : Int) ≤ 8) && decide ((8 : Int) ≤ (iadd .i64 8 (IntKind.i64.wrap n))) && decide (((iadd .i64 8 (IntKind.i64.wrap n)) : Int) ≤ ((p).length : Int)) && decide (((iadd .i64 8 (IntKind.i64.wrap n)) : Int) = (iadd .i64 8 (IntKind.i64.wrap n)))) = true,
    Runs Try.prog 37 [(.one (.pv (.ints .u8 (List.take ((iadd .i64 8 (IntKind.i64.wrap n)) - 8).toNat (List.drop 8 p)) false)))] [] [] ([(.one (.pv (.ints .u8 (List.take ((iadd .i64 8 (IntKind.i64.wrap n)) - 8).toNat (List.drop 8 p)) false)))], [], []),
    (decide ((0 : Int) ≤ 4) && decide ((4 : Int) ≤ ((p).length : Int)) && decide ((((p).length : Int) : Int) ≤ ((p).length : Int)) && decide ((((p).length : Int) : Int) = ((p).length : Int))) = true,
    (decide ((0 : Int) ≤ 0) && decide ((0 : Int) ≤ 4) && decide ((4 : Int) ≤ ((p).length : Int)) && decide ((4 : Int) = 4)) = true,
    Runs Try.prog 36 [(.one (.pv (.ints .u8 (List.take (((p).length : Int) - 4).toNat (List.drop 4 p)) false)))] [] [] ([(.one (.pv (.int .u32 n2)))], [], []),
    (!(Nat.beq ((List.take ((iadd .i64 8 (IntKind.i64.wrap n)) - 8).toNat (List.drop 8 p))).length 0)) = true,
    (fits (((List.take 4 p) ++ (List.take ((iadd .i64 8 (IntKind.i64.wrap n)) - 8).toNat (List.drop 8 p)))).length) = true,
    Runs Try.prog 11 [(.one (.pv (.ints .u8 (List.take (((List.take 4 p) ++ (List.take ((iadd .i64 8 (IntKind.i64.wrap n)) - 8).toNat (List.drop 8 p)))).length ((List.take 4 p) ++ (List.take ((iadd .i64 8 (IntKind.i64.wrap n)) - 8).toNat (List.drop 8 p)))) false)))] [] [] ([(.one (.pv (.int .u32 n3)))], [], []),
    (!(decide ((n2 : Int) = n3))) = true]) := by kernel_rfl
noncomputable def wire_Open (p : List Int) : Option (List Int × Int × Int) :=
  bif (decide ((((p).length : Int) : Int) < 8)) then
    some ([], 0, 6)
  else
    (wire_take p).bind fun n =>
    bif (decide ((1048576 : Int) < n)) then
      some ([], 0, 9)
    else
      bif (decide (((isub .i64 ((p).length : Int) 8) : Int) < (IntKind.i64.wrap n))) then
        some ([], 0, 6)
      else
        bif decide ((0 : Int) ≤ 8) && decide ((8 : Int) ≤ (iadd .i64 8 (IntKind.i64.wrap n))) && decide (((iadd .i64 8 (IntKind.i64.wrap n)) : Int) ≤ ((p).length : Int)) && decide (((iadd .i64 8 (IntKind.i64.wrap n)) : Int) = (iadd .i64 8 (IntKind.i64.wrap n))) then
        bif fits ((List.take ((iadd .i64 8 (IntKind.i64.wrap n)) - 8).toNat (List.drop 8 p))).length then
        bif decide ((0 : Int) ≤ 4) && decide ((4 : Int) ≤ ((p).length : Int)) && decide ((((p).length : Int) : Int) ≤ ((p).length : Int)) && decide ((((p).length : Int) : Int) = ((p).length : Int)) then
        bif decide ((0 : Int) ≤ 0) && decide ((0 : Int) ≤ 4) && decide ((4 : Int) ≤ ((p).length : Int)) && decide ((4 : Int) = 4) then
        (wire_take (List.take (((p).length : Int) - 4).toNat (List.drop 4 p))).bind fun n2 =>
        bif Nat.beq ((List.take ((iadd .i64 8 (IntKind.i64.wrap n)) - 8).toNat (List.drop 8 p))).length 0 then
          (wire_Sum (List.take 4 p)).bind fun n3 =>
          bif (decide ((n2 : Int) = n3)) then
            some ((List.take ((iadd .i64 8 (IntKind.i64.wrap n)) - 8).toNat (List.drop 8 p)), (iadd .i64 8 (IntKind.i64.wrap n)), 0)
          else
            some ([], 0, 13)
        else
          bif fits (((List.take 4 p) ++ (List.take ((iadd .i64 8 (IntKind.i64.wrap n)) - 8).toNat (List.drop 8 p)))).length then
          (wire_Sum ((List.take 4 p) ++ (List.take ((iadd .i64 8 (IntKind.i64.wrap n)) - 8).toNat (List.drop 8 p)))).bind fun n3 =>
          bif (decide ((n2 : Int) = n3)) then
            some ((List.take ((iadd .i64 8 (IntKind.i64.wrap n)) - 8).toNat (List.drop 8 p)), (iadd .i64 8 (IntKind.i64.wrap n)), 0)
          else
            some ([], 0, 13)
          else none
        else none
        else none
        else none
        else none
theorem wire_Open_runs (p : List Int) (r_ : List Int × Int × Int) (h : wire_Open p = some r_) : Runs Try.prog 13 [(.one (.pv (.ints .u8 p false)))] [] [] (wire_Open_out p r_) := by
  unfold wire_Open at h
  rcases cond_of h with ⟨h1, h⟩ | ⟨h1, h⟩
  · have h := some_of h
    subst h
    have e_ := wire_Open_p0 p
    have e_ := runs_of (objs := []) (Says.of e_ ⟨h1, trivial⟩)
    exact e_.out ⟨.pv (.nilsI), .eq rfl, .eq rfl, trivial⟩ trivial trivial rfl
  · obtain ⟨n, h2, h⟩ := bind_of h
    rcases cond_of h with ⟨h3, h⟩ | ⟨h3, h⟩
    · have h := some_of h
      subst h
      have e_ := wire_Open_p1 p n
      have e_ := runs_of (objs := []) (Says.of e_ ⟨h1, (wire_take_runs p _ h2), h3, trivial⟩)
      exact e_.out ⟨.pv (.nilsI), .eq rfl, .eq rfl, trivial⟩ trivial trivial rfl
    · rcases cond_of h with ⟨h4, h⟩ | ⟨h4, h⟩
      · have h := some_of h
        subst h
        have e_ := wire_Open_p2 p n
        have e_ := runs_of (objs := []) (Says.of e_ ⟨h1, (wire_take_runs p _ h2), h3, h4, trivial⟩)
        exact e_.out ⟨.pv (.nilsI), .eq rfl, .eq rfl, trivial⟩ trivial trivial rfl
      · obtain ⟨h5, h⟩ := need_of h
        obtain ⟨h6, h⟩ := need_of h
        obtain ⟨h7, h⟩ := need_of h
        obtain ⟨h8, h⟩ := need_of h
        obtain ⟨n2, h9, h⟩ := bind_of h
        rcases cond_of h with ⟨h10, h⟩ | ⟨h10, h⟩
        · obtain ⟨n3, h11, h⟩ := bind_of h
          rcases cond_of h with ⟨h12, h⟩ | ⟨h12, h⟩
          · have h := some_of h
            subst h
            have e_ := wire_Open_p3 p n n2 n3
            have e_ := runs_of (objs := []) (Says.of e_ ⟨h1, (wire_take_runs p _ h2), h3, h4, h5, (bytes_Clone_runs h6), h7, h8, (wire_take_runs (List.take (((p).length : Int) - 4).toNat (List.drop 4 p)) _ h9), h10, ((wire_Sum_runs (List.take 4 p) _ h11).coe ⟨.pv (.ints rfl), trivial⟩ trivial trivial), (not_of2 h12), trivial⟩)
            exact e_
          · have h := some_of h
            subst h
            have e_ := wire_Open_p4 p n n2 n3
            have e_ := runs_of (objs := []) (Says.of e_ ⟨h1, (wire_take_runs p _ h2), h3, h4, h5, (bytes_Clone_runs h6), h7, h8, (wire_take_runs (List.take (((p).length : Int) - 4).toNat (List.drop 4 p)) _ h9), h10, ((wire_Sum_runs (List.take 4 p) _ h11).coe ⟨.pv (.ints rfl), trivial⟩ trivial trivial), (not_of h12), trivial⟩)
            exact e_.out ⟨.pv (.nilsI), .eq rfl, .eq rfl, trivial⟩ trivial trivial rfl
        · obtain ⟨h11, h⟩ := need_of h
          obtain ⟨n3, h12, h⟩ := bind_of h
          rcases cond_of h with ⟨h13, h⟩ | ⟨h13, h⟩
          · have h := some_of h
            subst h
            have e_ := wire_Open_p5 p n n2 n3
            have e_ := runs_of (objs := []) (Says.of e_ ⟨h1, (wire_take_runs p _ h2), h3, h4, h5, (bytes_Clone_runs h6), h7, h8, (wire_take_runs (List.take (((p).length : Int) - 4).toNat (List.drop 4 p)) _ h9), (not_of h10), h11, ((wire_Sum_runs ((List.take 4 p) ++ (List.take ((iadd .i64 8 (IntKind.i64.wrap n)) - 8).toNat (List.drop 8 p))) _ h12).coe ⟨.pv (.ints (by first | rfl | (simp only [List.take_length]; done) | (simp only [List.take_length, List.length_append, List.drop_zero, List.map_append, List.map_take, List.map_drop, List.map_cons, List.map_nil, List.append_nil, List.nil_append]; done) | (simp; done))), trivial⟩ trivial trivial), (not_of2 h13), trivial⟩)
            exact e_
          · have h := some_of h
            subst h
            have e_ := wire_Open_p6 p n n2 n3
            have e_ := runs_of (objs := []) (Says.of e_ ⟨h1, (wire_take_runs p _ h2), h3, h4, h5, (bytes_Clone_runs h6), h7, h8, (wire_take_runs (List.take (((p).length : Int) - 4).toNat (List.drop 4 p)) _ h9), (not_of h10), h11, ((wire_Sum_runs ((List.take 4 p) ++ (List.take ((iadd .i64 8 (IntKind.i64.wrap n)) - 8).toNat (List.drop 8 p))) _ h12).coe ⟨.pv (.ints (by first | rfl | (simp only [List.take_length]; done) | (simp only [List.take_length, List.length_append, List.drop_zero, List.map_append, List.map_take, List.map_drop, List.map_cons, List.map_nil, List.append_nil, List.nil_append]; done) | (simp; done))), trivial⟩ trivial trivial), (not_of h13), trivial⟩)
            exact e_.out ⟨.pv (.nilsI), .eq rfl, .eq rfl, trivial⟩ trivial trivial rfl
/-! ### kinfolkref06_four -/
def kinfolkref06_four_out (p : List Int) : Int → Res
  | r1 => ([(.one (.pv (.int .u32 r1)))], [], [])
theorem kinfolkref06_four_p0 (p : List Int) : evFn Try.prog cfg (Runs Try.prog) (LRuns Try.prog (lEnv Try.prog cfg 38 0).nt 0) 38 [(.one (.pv (.ints .u8 p false)))] [] []
    [] =
  some (([(.one (.pv (.int .u32 (iadd .u32 (iadd .u32 (iadd .u32 (IntKind.u32.wrap (p.getD 0 0)) (imul .u32 256 (IntKind.u32.wrap (p.getD 1 0)))) (imul .u32 65536 (IntKind.u32.wrap (p.getD 2 0)))) (imul .u32 16777216 (IntKind.u32.wrap (p.getD 3 0)))))))], [], []), [
    (decide ((0 : Int) ≤ 0) && decide ((0 : Int) < ((p).length : Int))) = true,
    (decide ((0 : Int) ≤ 1) && decide ((1 : Int) < ((p).length : Int))) = true,
    (decide ((0 : Int) ≤ 2) && decide ((2 : Int) < ((p).length : Int))) = true,
    (decide ((0 : Int) ≤ 3) && decide ((3 : Int) < ((p).length : Int))) = true]) := by kernel_rfl
noncomputable def kinfolkref06_four (p : List Int) : Option (Int) :=
  bif decide ((0 : Int) ≤ 0) && decide ((0 : Int) < ((p).length : Int)) then
  bif decide ((0 : Int) ≤ 1) && decide ((1 : Int) < ((p).length : Int)) then
  bif decide ((0 : Int) ≤ 2) && decide ((2 : Int) < ((p).length : Int)) then
  bif decide ((0 : Int) ≤ 3) && decide ((3 : Int) < ((p).length : Int)) then
  some (iadd .u32 (iadd .u32 (iadd .u32 (IntKind.u32.wrap (p.getD 0 0)) (imul .u32 256 (IntKind.u32.wrap (p.getD 1 0)))) (imul .u32 65536 (IntKind.u32.wrap (p.getD 2 0)))) (imul .u32 16777216 (IntKind.u32.wrap (p.getD 3 0))))
  else none
  else none
  else none
  else none
theorem kinfolkref06_four_runs (p : List Int) (r_ : Int) (h : kinfolkref06_four p = some r_) : Runs Try.prog 38 [(.one (.pv (.ints .u8 p false)))] [] [] (kinfolkref06_four_out p r_) := by
  unfold kinfolkref06_four at h
  obtain ⟨h1, h⟩ := need_of h
  obtain ⟨h2, h⟩ := need_of h
  obtain ⟨h3, h⟩ := need_of h
  obtain ⟨h4, h⟩ := need_of h
  have h := some_of h
  subst h
  have e_ := kinfolkref06_four_p0 p
  have e_ := runs_of (objs := []) (Says.of e_ ⟨h1, h2, h3, h4, trivial⟩)
  exact e_
/-! ### kinfolkref06_Join_L0_2 -/
def kinfolkref06_Join_L0_2_st (r : List E_uint8) (n : Int) : Int × List Int → St
  | (n2, l) => ⟨[(3, (.av (.one (.own 0 0 (l).length false)))), (6, (.av (.one (.pv (.recs 1 (List.map E_uint8.pv r) false))))), (7, (.av (.one (.pv (.int .i64 n))))), (8, (.av (.one (.pv (.int .i64 n2)))))], [], [(0, (.live (.ints .u8 l)))]⟩
def kinfolkref06_Join_L0_2_ex (r : List E_uint8) (n : Int) : List Int → Ex × St
  | r1 => ((.exit 0), ⟨[(3, (.av (.one (.own 0 0 (r1).length false))))], [], [(0, (.live (.ints .u8 r1)))]⟩)
theorem kinfolkref06_Join_L0_2_q0_0 (r : List E_uint8) (n : Int) (n2 : Int) (l : List Int) (l_ : List Int) : evRound (lEnv Try.prog cfg 33 0) (loopAt Try.prog 33 0) ⟨[(3, (.av (.one (.own 0 0 (l).length false)))), (6, (.av (.one (.pv (.recs 1 (List.map E_uint8.pv r) false))))), (7, (.av (.one (.pv (.int .i64 n))))), (8, (.av (.one (.pv (.int .i64 n2)))))], [], [(0, (.live (.ints .u8 l)))]⟩
    [.br true, .el [(.ints .u8 l_ false)]] =
  some ((.normal, ⟨[(3, (.av (.one (.own 0 0 ((l ++ l_)).length false)))), (6, (.av (.one (.pv (.recs 1 (List.map E_uint8.pv r) false))))), (7, (.av (.one (.pv (.int .i64 n))))), (8, (.av (.one (.pv (.int .i64 (iadd .i64 n2 1))))))], [], [(0, (.live (.ints .u8 (l ++ l_))))]⟩), [
    (decide ((n2 : Int) < n)) = true,
    (decide ((0 : Int) ≤ n2) && decide ((n2 : Int) < (((List.map E_uint8.pv r)).length : Int))) = true,
    (List.map E_uint8.pv r).getD (n2).toNat [] = [(.ints .u8 l_ false)],
    (Nat.beq (l).length (l).length) = true,
    (fits ((l ++ l_)).length) = true]) := by kernel_rfl
theorem kinfolkref06_Join_L0_2_q0_1 (r : List E_uint8) (n : Int) (n2 : Int) (l : List Int) : evRound (lEnv Try.prog cfg 33 0) (loopAt Try.prog 33 0) ⟨[(3, (.av (.one (.own 0 0 (l).length false)))), (6, (.av (.one (.pv (.recs 1 (List.map E_uint8.pv r) false))))), (7, (.av (.one (.pv (.int .i64 n))))), (8, (.av (.one (.pv (.int .i64 n2)))))], [], [(0, (.live (.ints .u8 l)))]⟩
    [.br false] =
  some (((.exit 0), ⟨[(9, (.av (.one (.pv (.bool false))))), (3, (.av (.one (.own 0 0 (l).length false)))), (6, (.av (.one (.pv (.recs 1 (List.map E_uint8.pv r) false))))), (7, (.av (.one (.pv (.int .i64 n))))), (8, (.av (.one (.pv (.int .i64 n2))))), (9, (.av (.one (.pv (.bool (decide ((n2 : Int) < n)))))))], [], [(0, (.live (.ints .u8 l)))]⟩), [
    (decide ((n2 : Int) < n)) = false]) := by kernel_rfl
noncomputable def kinfolkref06_Join_L0_2_step (r : List E_uint8) (n : Int) : Int × List Int → Option ((Int × List Int) ⊕ (List Int))
  | (n2, l) =>
  bif (decide ((n2 : Int) < n)) then
    bif decide ((0 : Int) ≤ n2) && decide ((n2 : Int) < (((List.map E_uint8.pv r)).length : Int)) then
    (r[(n2).toNat]?).bind fun e_ => match e_ with
    | .mk l_ =>
    bif fits ((l ++ l_)).length then
    some (.inl ((iadd .i64 n2 1), (l ++ l_)))
    else none
    else none
  else
    some (.inr l)
theorem kinfolkref06_Join_L0_2_ok (r : List E_uint8) (n : Int) (s_ : Int × List Int) (z_ : (Int × List Int) ⊕ (List Int)) (h : kinfolkref06_Join_L0_2_step r n s_ = some z_) : RoundOk Try.prog cfg 33 0 (loopAt Try.prog 33 0) (kinfolkref06_Join_L0_2_st r n) (kinfolkref06_Join_L0_2_ex r n) s_ z_ := by
  rcases s_ with ⟨n2, l⟩
  rcases cond_of h with ⟨h1, h⟩ | ⟨h1, h⟩
  · obtain ⟨h2, h⟩ := need_of h
    obtain ⟨⟨l_⟩, h3, h⟩ := bind_of h
    obtain ⟨h4, h⟩ := need_of h
    have h := some_of h
    subst h
    have e_ := kinfolkref06_Join_L0_2_q0_0 r n n2 l l_
    have e_ := Says.of e_ ⟨h1, h2, (el_of h3), (Nat.beq_refl _), h4, trivial⟩
    exact ⟨_, _, e_, ⟨⟨⟨_, rfl, .eq rfl⟩, ⟨_, rfl, .eq rfl⟩, ⟨_, rfl, .eq rfl⟩, ⟨_, rfl, .eq rfl⟩, trivial⟩, trivial, ⟨⟨rfl, .eq rfl⟩, trivial⟩⟩⟩
  · have h := some_of h
    subst h
    have e_ := kinfolkref06_Join_L0_2_q0_1 r n n2 l
    have e_ := Says.of e_ ⟨h1, trivial⟩
    exact ⟨_, _, e_, ⟨⟨⟨_, rfl, .eq rfl⟩, trivial⟩, trivial, ⟨⟨rfl, .eq rfl⟩, trivial⟩⟩⟩
theorem kinfolkref06_Join_L0_2_runs (r : List E_uint8) (n : Int) (s_ : Int × List Int) (r_ : List Int) (h : runL (kinfolkref06_Join_L0_2_step r n) s_ = some r_) : LRuns Try.prog (lEnv Try.prog cfg 33 0).nt 0 (.loop (loopAt Try.prog 33 0)) (kinfolkref06_Join_L0_2_st r n s_) (kinfolkref06_Join_L0_2_ex r n r_).1 (kinfolkref06_Join_L0_2_ex r n r_).2 :=
  loop_run h (kinfolkref06_Join_L0_2_ok r n) (by intro r_; rcases r_ with r1 <;> simp [kinfolkref06_Join_L0_2_ex])
/-! ### kinfolkref06_Join -/
def kinfolkref06_Join_out (l : List E_uint8) : List Int → Res
  | r1 => ([(.one (.own 0 0 (r1).length false))], [], [(.ints .u8 r1)])
theorem kinfolkref06_Join_p0 (l : List E_uint8) (l_ : List Int) : evFn Try.prog cfg (Runs Try.prog) (LRuns Try.prog (lEnv Try.prog cfg 33 0).nt 0) 33 [(.one (.pv (.recs 1 (List.map E_uint8.pv l) false)))] [] []
    [.lp (.exit 0) ⟨[(3, (.av (.one (.own 0 0 (l_).length false))))], [], [(0, (.live (.ints .u8 l_)))]⟩] =
  some (([(.one (.own 0 0 (l_).length false))], [], [(.ints .u8 l_)]), [
    LRuns Try.prog (lEnv Try.prog cfg 33 0).nt 0 (.loop (loopAt Try.prog 33 0)) ⟨[(3, (.av (.one (.own 0 0 0 false)))), (6, (.av (.one (.pv (.recs 1 (List.map E_uint8.pv l) false))))), (7, (.av (.one (.pv (.int .i64 (((List.map E_uint8.pv l)).length : Int)))))), (8, (.av (.one (.pv (.int .i64 0)))))], [], [(0, (.live (.ints .u8 [])))]⟩ (.exit 0) ⟨[(3, (.av (.one (.own 0 0 (l_).length false))))], [], [(0, (.live (.ints .u8 l_)))]⟩]) := by kernel_rfl
noncomputable def kinfolkref06_Join (l : List E_uint8) : Option (List Int) :=
  (runL (kinfolkref06_Join_L0_2_step l (((List.map E_uint8.pv l)).length : Int)) (0, [])).bind fun l_ =>
  some l_
theorem kinfolkref06_Join_runs (l : List E_uint8) (r_ : List Int) (h : kinfolkref06_Join l = some r_) : Runs Try.prog 33 [(.one (.pv (.recs 1 (List.map E_uint8.pv l) false)))] [] [] (kinfolkref06_Join_out l r_) := by
  unfold kinfolkref06_Join at h
  obtain ⟨l_, h1, h⟩ := bind_of h
  have h := some_of h
  subst h
  have e_ := kinfolkref06_Join_p0 l l_
  have e_ := runs_of (objs := []) (Says.of e_ ⟨((kinfolkref06_Join_L0_2_runs l (((List.map E_uint8.pv l)).length : Int) _ _ h1).coe ⟨⟨⟨_, rfl, .own (by first | rfl | (simp only [List.take_length]; done) | (simp only [List.take_length, List.length_append, List.drop_zero, List.map_append, List.map_take, List.map_drop, List.map_cons, List.map_nil, List.append_nil, List.nil_append, E_uint8.pv]; done) | (simp; done))⟩, ⟨_, rfl, .eq rfl⟩, ⟨_, rfl, .eq rfl⟩, ⟨_, rfl, .eq rfl⟩, trivial⟩, trivial, ⟨⟨rfl, .eq rfl⟩, trivial⟩⟩), trivial⟩)
  exact e_

end Go.Proofs.Ytecblpgljmbpeaa
