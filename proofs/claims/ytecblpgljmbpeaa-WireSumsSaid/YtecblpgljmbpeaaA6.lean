/- What functions compute, and that they do. -/
import Derived.Test.YtecblpgljmbpeaaA5
set_option linter.unusedVariables false
set_option linter.unusedSimpArgs false
namespace Go.Proofs.Ytecblpgljmbpeaa
open Go.Ev

/-! ### kinfolklaw06_WireReads -/
def kinfolklaw06_WireReads_out (p : List Int) (acts : List E_kinfolklaw06_Act) : Bool → Res
  | r1 => ([(.one (.pv (.bool r1)))], [], [])
theorem kinfolklaw06_WireReads_p0 (p : List Int) (acts : List E_kinfolklaw06_Act) (b : Bool) (l_ : List Int) (l_2 : List Int) (l_3 : List Int) (n : Int) (n2 : Int) (n3 : Int) (n4 : Int) (n5 : Int) : evFn Try.prog cfg (Runs Try.prog) (LRuns Try.prog (lEnv Try.prog cfg 7 0).nt 0) 7 [(.one (.pv (.ints .u8 p false))), (.one (.pv (.recs 2 (List.map E_kinfolklaw06_Act.pv acts) false)))] [] []
    [.res ([(.one (.pv (.bool b)))], [], []), .br false, .res ([(.one (.own 0 0 (l_).length false))], [], [(.ints .u8 l_)]), .res ([(.one (.own 0 0 (l_2).length false))], [], [(.ints .u8 l_2)]), .res ([(.one (.ref 0 0))], [[(.pv (.ints .u8 l_2 false)), (.pv (.int .i64 0))]], []), .lp (.exit 0) ⟨[], [(0, [(.pv (.ints .u8 l_3 false)), (.pv (.int .i64 n))]), (1, [(.pv (.ints .u8 l_ false)), (.pv (.int .i64 n2)), (.pv (.int .i64 n3))]), (2, [(.pv (.int .u8 n4)), (.pv (.int .i64 n5))])], []⟩] =
  some (([(.one (.pv (.bool true)))], [], []), [
    Runs Try.prog 9 [] [] [] ([(.one (.pv (.bool b)))], [], []),
    (!b) = false,
    Runs Try.prog 10 [(.one (.bor (.ints .u8 p false))), (.one (.pv (.int .i64 200)))] [] [] ([(.one (.own 0 0 (l_).length false))], [], [(.ints .u8 l_)]),
    Runs Try.prog 10 [(.one (.bor (.ints .u8 (List.take (l_).length l_) false))), (.one (.pv (.int .i64 200)))] [] [] ([(.one (.own 0 0 (l_2).length false))], [], [(.ints .u8 l_2)]),
    Runs Try.prog 18 [(.one (.pv (.ints .u8 (List.take (l_2).length l_2) false)))] [] [] ([(.one (.ref 0 0))], [[(.pv (.ints .u8 l_2 false)), (.pv (.int .i64 0))]], []),
    LRuns Try.prog (lEnv Try.prog cfg 7 0).nt 0 (.loop (loopAt Try.prog 7 0)) ⟨[(0, (.av (.one (.pv (.ints .u8 (List.take (l_).length l_) false))))), (5, (.av (.one (.ref 0 0)))), (6, (.av (.one (.ref 1 0)))), (21, (.av (.one (.pv (.recs 2 (List.map E_kinfolklaw06_Act.pv acts) false))))), (22, (.av (.one (.pv (.int .i64 (((List.map E_kinfolklaw06_Act.pv acts)).length : Int)))))), (23, (.av (.one (.pv (.int .i64 0)))))], [(0, [(.pv (.ints .u8 l_2 false)), (.pv (.int .i64 0))]), (1, [(.pv (.ints .u8 (List.take (l_).length l_) false)), (.pv (.int .i64 0)), (.pv (.int .i64 0))])], []⟩ (.exit 0) ⟨[], [(0, [(.pv (.ints .u8 l_3 false)), (.pv (.int .i64 n))]), (1, [(.pv (.ints .u8 l_ false)), (.pv (.int .i64 n2)), (.pv (.int .i64 n3))]), (2, [(.pv (.int .u8 n4)), (.pv (.int .i64 n5))])], []⟩]) := by kernel_rfl
theorem kinfolklaw06_WireReads_p1 (p : List Int) (acts : List E_kinfolklaw06_Act) (b : Bool) (l_ : List Int) (l_2 : List Int) : evFn Try.prog cfg (Runs Try.prog) (LRuns Try.prog (lEnv Try.prog cfg 7 0).nt 0) 7 [(.one (.pv (.ints .u8 p false))), (.one (.pv (.recs 2 (List.map E_kinfolklaw06_Act.pv acts) false)))] [] []
    [.res ([(.one (.pv (.bool b)))], [], []), .br false, .res ([(.one (.own 0 0 (l_).length false))], [], [(.ints .u8 l_)]), .res ([(.one (.own 0 0 (l_2).length false))], [], [(.ints .u8 l_2)]), .res ([(.one (.ref 0 0))], [[(.pv (.ints .u8 l_2 false)), (.pv (.int .i64 0))]], []), .lp .ret ⟨[(4, (.av (.one (.pv (.bool false)))))], [], []⟩] =
  some (([(.one (.pv (.bool false)))], [], []), [
    Runs Try.prog 9 [] [] [] ([(.one (.pv (.bool b)))], [], []),
    (!b) = false,
    Runs Try.prog 10 [(.one (.bor (.ints .u8 p false))), (.one (.pv (.int .i64 200)))] [] [] ([(.one (.own 0 0 (l_).length false))], [], [(.ints .u8 l_)]),
    Runs Try.prog 10 [(.one (.bor (.ints .u8 (List.take (l_).length l_) false))), (.one (.pv (.int .i64 200)))] [] [] ([(.one (.own 0 0 (l_2).length false))], [], [(.ints .u8 l_2)]),
    Runs Try.prog 18 [(.one (.pv (.ints .u8 (List.take (l_2).length l_2) false)))] [] [] ([(.one (.ref 0 0))], [[(.pv (.ints .u8 l_2 false)), (.pv (.int .i64 0))]], []),
    LRuns Try.prog (lEnv Try.prog cfg 7 0).nt 0 (.loop (loopAt Try.prog 7 0)) ⟨[(0, (.av (.one (.pv (.ints .u8 (List.take (l_).length l_) false))))), (5, (.av (.one (.ref 0 0)))), (6, (.av (.one (.ref 1 0)))), (21, (.av (.one (.pv (.recs 2 (List.map E_kinfolklaw06_Act.pv acts) false))))), (22, (.av (.one (.pv (.int .i64 (((List.map E_kinfolklaw06_Act.pv acts)).length : Int)))))), (23, (.av (.one (.pv (.int .i64 0)))))], [(0, [(.pv (.ints .u8 l_2 false)), (.pv (.int .i64 0))]), (1, [(.pv (.ints .u8 (List.take (l_).length l_) false)), (.pv (.int .i64 0)), (.pv (.int .i64 0))])], []⟩ .ret ⟨[(4, (.av (.one (.pv (.bool false)))))], [], []⟩]) := by kernel_rfl
theorem kinfolklaw06_WireReads_p2 (p : List Int) (acts : List E_kinfolklaw06_Act) (b : Bool) (l_ : List Int) (l_2 : List Int) (l_3 : List Int) (n : Int) (n2 : Int) (n3 : Int) : evFn Try.prog cfg (Runs Try.prog) (LRuns Try.prog (lEnv Try.prog cfg 7 0).nt 0) 7 [(.one (.pv (.ints .u8 p false))), (.one (.pv (.recs 2 (List.map E_kinfolklaw06_Act.pv acts) false)))] [] []
    [.res ([(.one (.pv (.bool b)))], [], []), .br false, .res ([(.one (.own 0 0 (l_).length false))], [], [(.ints .u8 l_)]), .res ([(.one (.own 0 0 (l_2).length false))], [], [(.ints .u8 l_2)]), .res ([(.one (.ref 0 0))], [[(.pv (.ints .u8 l_2 false)), (.pv (.int .i64 0))]], []), .lp (.exit 0) ⟨[], [(0, [(.pv (.ints .u8 l_3 false)), (.pv (.int .i64 n))]), (1, [(.pv (.ints .u8 l_ false)), (.pv (.int .i64 n2)), (.pv (.int .i64 n3))])], []⟩] =
  some (([(.one (.pv (.bool true)))], [], []), [
    Runs Try.prog 9 [] [] [] ([(.one (.pv (.bool b)))], [], []),
    (!b) = false,
    Runs Try.prog 10 [(.one (.bor (.ints .u8 p false))), (.one (.pv (.int .i64 200)))] [] [] ([(.one (.own 0 0 (l_).length false))], [], [(.ints .u8 l_)]),
    Runs Try.prog 10 [(.one (.bor (.ints .u8 (List.take (l_).length l_) false))), (.one (.pv (.int .i64 200)))] [] [] ([(.one (.own 0 0 (l_2).length false))], [], [(.ints .u8 l_2)]),
    Runs Try.prog 18 [(.one (.pv (.ints .u8 (List.take (l_2).length l_2) false)))] [] [] ([(.one (.ref 0 0))], [[(.pv (.ints .u8 l_2 false)), (.pv (.int .i64 0))]], []),
    LRuns Try.prog (lEnv Try.prog cfg 7 0).nt 0 (.loop (loopAt Try.prog 7 0)) ⟨[(0, (.av (.one (.pv (.ints .u8 (List.take (l_).length l_) false))))), (5, (.av (.one (.ref 0 0)))), (6, (.av (.one (.ref 1 0)))), (21, (.av (.one (.pv (.recs 2 (List.map E_kinfolklaw06_Act.pv acts) false))))), (22, (.av (.one (.pv (.int .i64 (((List.map E_kinfolklaw06_Act.pv acts)).length : Int)))))), (23, (.av (.one (.pv (.int .i64 0)))))], [(0, [(.pv (.ints .u8 l_2 false)), (.pv (.int .i64 0))]), (1, [(.pv (.ints .u8 (List.take (l_).length l_) false)), (.pv (.int .i64 0)), (.pv (.int .i64 0))])], []⟩ (.exit 0) ⟨[], [(0, [(.pv (.ints .u8 l_3 false)), (.pv (.int .i64 n))]), (1, [(.pv (.ints .u8 l_ false)), (.pv (.int .i64 n2)), (.pv (.int .i64 n3))])], []⟩]) := by kernel_rfl
theorem kinfolklaw06_WireReads_p3 (p : List Int) (acts : List E_kinfolklaw06_Act) (b : Bool) : evFn Try.prog cfg (Runs Try.prog) (LRuns Try.prog (lEnv Try.prog cfg 7 0).nt 0) 7 [(.one (.pv (.ints .u8 p false))), (.one (.pv (.recs 2 (List.map E_kinfolklaw06_Act.pv acts) false)))] [] []
    [.res ([(.one (.pv (.bool b)))], [], []), .br true] =
  some (([(.one (.pv (.bool false)))], [], []), [
    Runs Try.prog 9 [] [] [] ([(.one (.pv (.bool b)))], [], []),
    (!b) = true]) := by kernel_rfl
noncomputable def kinfolklaw06_WireReads (p : List Int) (acts : List E_kinfolklaw06_Act) : Option (Bool) :=
  (kinfolklaw06_awake).bind fun b =>
  bif b then
    (kinfolklaw06_cut p 200).bind fun l_ =>
    (kinfolklaw06_cut l_ 200).bind fun l_2 =>
    (wire_Of l_2).bind fun _ =>
    (runL (kinfolklaw06_WireReads_L0_step l_ acts (((List.map E_kinfolklaw06_Act.pv acts)).length : Int) l_) (0, l_2, 0, 0, 0)).bind fun z_ => match z_ with
    | .inl (l_3, n, n2, n3, n4, n5) =>
      some true
    | .inr (.inl _) =>
      some false
    | .inr (.inr (l_3, n, n2, n3)) =>
      some true
  else
    some false
theorem kinfolklaw06_WireReads_runs (p : List Int) (acts : List E_kinfolklaw06_Act) (r_ : Bool) (h : kinfolklaw06_WireReads p acts = some r_) : Runs Try.prog 7 [(.one (.pv (.ints .u8 p false))), (.one (.pv (.recs 2 (List.map E_kinfolklaw06_Act.pv acts) false)))] [] [] (kinfolklaw06_WireReads_out p acts r_) := by
  unfold kinfolklaw06_WireReads at h
  obtain ⟨b, h1, h⟩ := bind_of h
  rcases cond_of h with ⟨h2, h⟩ | ⟨h2, h⟩
  · obtain ⟨l_, h3, h⟩ := bind_of h
    obtain ⟨l_2, h4, h⟩ := bind_of h
    obtain ⟨_, h5, h⟩ := bind_of h
    obtain ⟨z_, h6, h⟩ := bind_of h
    rcases z_ with ⟨l_3, n, n2, n3, n4, n5⟩ | (_ | ⟨l_3, n, n2, n3⟩)
    · have h := some_of h
      subst h
      have e_ := kinfolklaw06_WireReads_p0 p acts b l_ l_2 l_3 n n2 n3 n4 n5
      have e_ := runs_of (objs := []) (Says.of e_ ⟨(kinfolklaw06_awake_runs _ h1), (not_of2 h2), (kinfolklaw06_cut_runs p 200 _ h3), ((kinfolklaw06_cut_runs l_ 200 _ h4).coe ⟨.bor (.ints (by first | rfl | (simp only [List.take_length]; done) | (simp only [List.take_length, List.length_append, List.drop_zero, List.map_append, List.map_take, List.map_drop, List.map_cons, List.map_nil, List.append_nil, List.nil_append, E_uint8.pv, E_kinfolklaw06_Act.pv]; done) | (simp; done))), .eq rfl, trivial⟩ trivial trivial), ((wire_Of_runs l_2 _ h5).coe ⟨.pv (.ints (by first | rfl | (simp only [List.take_length]; done) | (simp only [List.take_length, List.length_append, List.drop_zero, List.map_append, List.map_take, List.map_drop, List.map_cons, List.map_nil, List.append_nil, List.nil_append, E_uint8.pv, E_kinfolklaw06_Act.pv]; done) | (simp; done))), trivial⟩ trivial trivial), ((kinfolklaw06_WireReads_L0_runs l_ acts (((List.map E_kinfolklaw06_Act.pv acts)).length : Int) l_ _ _ h6).coe ⟨⟨⟨_, rfl, .pv (.ints (by first | rfl | (simp only [List.take_length]; done) | (simp only [List.take_length, List.length_append, List.drop_zero, List.map_append, List.map_take, List.map_drop, List.map_cons, List.map_nil, List.append_nil, List.nil_append, E_uint8.pv, E_kinfolklaw06_Act.pv]; done) | (simp; done)))⟩, ⟨_, rfl, .eq rfl⟩, ⟨_, rfl, .eq rfl⟩, ⟨_, rfl, .eq rfl⟩, ⟨_, rfl, .eq rfl⟩, ⟨_, rfl, .eq rfl⟩, trivial⟩, ⟨⟨rfl, ⟨.eq rfl, .eq rfl, trivial⟩⟩, ⟨rfl, ⟨.pv (.ints (by first | rfl | (simp only [List.take_length]; done) | (simp only [List.take_length, List.length_append, List.drop_zero, List.map_append, List.map_take, List.map_drop, List.map_cons, List.map_nil, List.append_nil, List.nil_append, E_uint8.pv, E_kinfolklaw06_Act.pv]; done) | (simp; done))), .eq rfl, .eq rfl, trivial⟩⟩, trivial⟩, trivial⟩), trivial⟩)
      exact e_
    · have h := some_of h
      subst h
      have e_ := kinfolklaw06_WireReads_p1 p acts b l_ l_2
      have e_ := runs_of (objs := []) (Says.of e_ ⟨(kinfolklaw06_awake_runs _ h1), (not_of2 h2), (kinfolklaw06_cut_runs p 200 _ h3), ((kinfolklaw06_cut_runs l_ 200 _ h4).coe ⟨.bor (.ints (by first | rfl | (simp only [List.take_length]; done) | (simp only [List.take_length, List.length_append, List.drop_zero, List.map_append, List.map_take, List.map_drop, List.map_cons, List.map_nil, List.append_nil, List.nil_append, E_uint8.pv, E_kinfolklaw06_Act.pv]; done) | (simp; done))), .eq rfl, trivial⟩ trivial trivial), ((wire_Of_runs l_2 _ h5).coe ⟨.pv (.ints (by first | rfl | (simp only [List.take_length]; done) | (simp only [List.take_length, List.length_append, List.drop_zero, List.map_append, List.map_take, List.map_drop, List.map_cons, List.map_nil, List.append_nil, List.nil_append, E_uint8.pv, E_kinfolklaw06_Act.pv]; done) | (simp; done))), trivial⟩ trivial trivial), ((kinfolklaw06_WireReads_L0_runs l_ acts (((List.map E_kinfolklaw06_Act.pv acts)).length : Int) l_ _ _ h6).coe ⟨⟨⟨_, rfl, .pv (.ints (by first | rfl | (simp only [List.take_length]; done) | (simp only [List.take_length, List.length_append, List.drop_zero, List.map_append, List.map_take, List.map_drop, List.map_cons, List.map_nil, List.append_nil, List.nil_append, E_uint8.pv, E_kinfolklaw06_Act.pv]; done) | (simp; done)))⟩, ⟨_, rfl, .eq rfl⟩, ⟨_, rfl, .eq rfl⟩, ⟨_, rfl, .eq rfl⟩, ⟨_, rfl, .eq rfl⟩, ⟨_, rfl, .eq rfl⟩, trivial⟩, ⟨⟨rfl, ⟨.eq rfl, .eq rfl, trivial⟩⟩, ⟨rfl, ⟨.pv (.ints (by first | rfl | (simp only [List.take_length]; done) | (simp only [List.take_length, List.length_append, List.drop_zero, List.map_append, List.map_take, List.map_drop, List.map_cons, List.map_nil, List.append_nil, List.nil_append, E_uint8.pv, E_kinfolklaw06_Act.pv]; done) | (simp; done))), .eq rfl, .eq rfl, trivial⟩⟩, trivial⟩, trivial⟩), trivial⟩)
      exact e_
    · have h := some_of h
      subst h
      have e_ := kinfolklaw06_WireReads_p2 p acts b l_ l_2 l_3 n n2 n3
      have e_ := runs_of (objs := []) (Says.of e_ ⟨(kinfolklaw06_awake_runs _ h1), (not_of2 h2), (kinfolklaw06_cut_runs p 200 _ h3), ((kinfolklaw06_cut_runs l_ 200 _ h4).coe ⟨.bor (.ints (by first | rfl | (simp only [List.take_length]; done) | (simp only [List.take_length, List.length_append, List.drop_zero, List.map_append, List.map_take, List.map_drop, List.map_cons, List.map_nil, List.append_nil, List.nil_append, E_uint8.pv, E_kinfolklaw06_Act.pv]; done) | (simp; done))), .eq rfl, trivial⟩ trivial trivial), ((wire_Of_runs l_2 _ h5).coe ⟨.pv (.ints (by first | rfl | (simp only [List.take_length]; done) | (simp only [List.take_length, List.length_append, List.drop_zero, List.map_append, List.map_take, List.map_drop, List.map_cons, List.map_nil, List.append_nil, List.nil_append, E_uint8.pv, E_kinfolklaw06_Act.pv]; done) | (simp; done))), trivial⟩ trivial trivial), ((kinfolklaw06_WireReads_L0_runs l_ acts (((List.map E_kinfolklaw06_Act.pv acts)).length : Int) l_ _ _ h6).coe ⟨⟨⟨_, rfl, .pv (.ints (by first | rfl | (simp only [List.take_length]; done) | (simp only [List.take_length, List.length_append, List.drop_zero, List.map_append, List.map_take, List.map_drop, List.map_cons, List.map_nil, List.append_nil, List.nil_append, E_uint8.pv, E_kinfolklaw06_Act.pv]; done) | (simp; done)))⟩, ⟨_, rfl, .eq rfl⟩, ⟨_, rfl, .eq rfl⟩, ⟨_, rfl, .eq rfl⟩, ⟨_, rfl, .eq rfl⟩, ⟨_, rfl, .eq rfl⟩, trivial⟩, ⟨⟨rfl, ⟨.eq rfl, .eq rfl, trivial⟩⟩, ⟨rfl, ⟨.pv (.ints (by first | rfl | (simp only [List.take_length]; done) | (simp only [List.take_length, List.length_append, List.drop_zero, List.map_append, List.map_take, List.map_drop, List.map_cons, List.map_nil, List.append_nil, List.nil_append, E_uint8.pv, E_kinfolklaw06_Act.pv]; done) | (simp; done))), .eq rfl, .eq rfl, trivial⟩⟩, trivial⟩, trivial⟩), trivial⟩)
      exact e_
  · have h := some_of h
    subst h
    have e_ := kinfolklaw06_WireReads_p3 p acts b
    have e_ := runs_of (objs := []) (Says.of e_ ⟨(kinfolklaw06_awake_runs _ h1), (not_of h2), trivial⟩)
    exact e_
/-! ### wire_Text -/
def wire_Text_out (p : List Int) (s : ByteArray) : List Int → Res
  | r1 => ([(.one (.own 0 0 (r1).length false))], [], [(.ints .u8 r1)])
theorem wire_Text_p0 (p : List Int) (s : ByteArray) (l_ : List Int) : evFn Try.prog cfg (Runs Try.prog) (LRuns Try.prog (lEnv Try.prog cfg 31 0).nt 0) 31 [(.one (.pv (.ints .u8 p false))), (.one (.pv (.str s)))] [] []
    [.res ([(.one (.own 0 0 (l_).length false))], [], [(.ints .u8 l_)])] =
  some (([(.one (.own 0 0 ((l_ ++ (bytesL s))).length false))], [], [(.ints .u8 (l_ ++ (bytesL s)))]), [
    Runs Try.prog 32 [(.one (.pv (.ints .u8 p false))), (.one (.pv (.int .u64 (IntKind.u64.wrap (s.size : Int)))))] [] [] ([(.one (.own 0 0 (l_).length false))], [], [(.ints .u8 l_)]),
    (Nat.beq (l_).length (l_).length) = true,
    (fits ((l_ ++ (bytesL s))).length) = true]) := by kernel_rfl
noncomputable def wire_Text (p : List Int) (s : ByteArray) : Option (List Int) :=
  (wire_Num p (IntKind.u64.wrap (s.size : Int))).bind fun l_ =>
  bif fits ((l_ ++ (bytesL s))).length then
  some (l_ ++ (bytesL s))
  else none
theorem wire_Text_runs (p : List Int) (s : ByteArray) (r_ : List Int) (h : wire_Text p s = some r_) : Runs Try.prog 31 [(.one (.pv (.ints .u8 p false))), (.one (.pv (.str s)))] [] [] (wire_Text_out p s r_) := by
  unfold wire_Text at h
  obtain ⟨l_, h1, h⟩ := bind_of h
  obtain ⟨h2, h⟩ := need_of h
  have h := some_of h
  subst h
  have e_ := wire_Text_p0 p s l_
  have e_ := runs_of (objs := []) (Says.of e_ ⟨(wire_Num_runs p (IntKind.u64.wrap (s.size : Int)) _ h1), (Nat.beq_refl _), h2, trivial⟩)
  exact e_
/-! ### wire_In_Fail_2 -/
def wire_In_Fail_2_out (e : Int) : Unit → Res
  | _ => ([], [], [])
theorem wire_In_Fail_2_p0 (e : Int) : evFn Try.prog cfg (Runs Try.prog) (LRuns Try.prog (lEnv Try.prog cfg 25 0).nt 0) 25 [(.one (.pv .nilp)), (.one (.pv (.int .i64 e)))] [] []
    [.br false, .br false] =
  some (([], [], []), [
    false = false,
    false = false]) := by kernel_rfl
noncomputable def wire_In_Fail_2 (e : Int) : Option (Unit) :=
  some ()
theorem wire_In_Fail_2_runs (e : Int) (r_ : Unit) (h : wire_In_Fail_2 e = some r_) : Runs Try.prog 25 [(.one (.pv .nilp)), (.one (.pv (.int .i64 e)))] [] [] (wire_In_Fail_2_out e r_) := by
  unfold wire_In_Fail_2 at h
  have h := some_of h
  subst h
  have e_ := wire_In_Fail_2_p0 e
  have e_ := runs_of (objs := []) (Says.of e_ ⟨rfl, rfl, trivial⟩)
  exact e_
/-! ### kinfolkref06_Num -/
def kinfolkref06_Num_out (n : Int) : List Int → Res
  | r1 => ([(.one (.own 0 0 (r1).length false))], [], [(.ints .u8 r1)])
theorem kinfolkref06_Num_p0 (n : Int) : evFn Try.prog cfg (Runs Try.prog) (LRuns Try.prog (lEnv Try.prog cfg 34 0).nt 0) 34 [(.one (.pv (.int .u64 n)))] [] []
    [.br true] =
  some (([(.one (.own 0 0 1 true))], [], [(.ints .u8 [(IntKind.u8.wrap n)])]), [
    (decide ((n : Int) < 128)) = true]) := by kernel_rfl
theorem kinfolkref06_Num_p1 (n : Int) (l_ : List Int) : evFn Try.prog cfg (Runs Try.prog) (LRuns Try.prog (lEnv Try.prog cfg 34 0).nt 0) 34 [(.one (.pv (.int .u64 n)))] [] []
    [.br false, .res ([(.one (.own 0 0 (l_).length false))], [], [(.ints .u8 l_)]), .br true] =
  some (([(.one (.own 0 0 1 false))], [], [(.ints .u8 [(IntKind.u8.wrap (iadd .u64 (irem .u64 n 128) 128))])]), [
    (decide ((n : Int) < 128)) = false,
    true = true,
    true = true,
    Runs Try.prog 34 [(.one (.pv (.int .u64 (iquo .u64 n 128))))] [] [] ([(.one (.own 0 0 (l_).length false))], [], [(.ints .u8 l_)]),
    (Nat.beq ((List.take (l_).length l_)).length 0) = true]) := by kernel_rfl
theorem kinfolkref06_Num_p2 (n : Int) (l_ : List Int) : evFn Try.prog cfg (Runs Try.prog) (LRuns Try.prog (lEnv Try.prog cfg 34 0).nt 0) 34 [(.one (.pv (.int .u64 n)))] [] []
    [.br false, .res ([(.one (.own 0 0 (l_).length false))], [], [(.ints .u8 l_)]), .br false] =
  some (([(.one (.own 0 0 (([(IntKind.u8.wrap (iadd .u64 (irem .u64 n 128) 128))] ++ (List.take (l_).length l_))).length false))], [], [(.ints .u8 ([(IntKind.u8.wrap (iadd .u64 (irem .u64 n 128) 128))] ++ (List.take (l_).length l_)))]), [
    (decide ((n : Int) < 128)) = false,
    true = true,
    true = true,
    Runs Try.prog 34 [(.one (.pv (.int .u64 (iquo .u64 n 128))))] [] [] ([(.one (.own 0 0 (l_).length false))], [], [(.ints .u8 l_)]),
    (!(Nat.beq ((List.take (l_).length l_)).length 0)) = true,
    (fits (([(IntKind.u8.wrap (iadd .u64 (irem .u64 n 128) 128))] ++ (List.take (l_).length l_))).length) = true]) := by kernel_rfl
noncomputable def kinfolkref06_Num_b (rec_kinfolkref06_Num : Int → Option (List Int)) (n : Int) : Option (List Int) :=
  bif (decide ((n : Int) < 128)) then
    some [(IntKind.u8.wrap n)]
  else
    (rec_kinfolkref06_Num (iquo .u64 n 128)).bind fun l_ =>
    bif Nat.beq ((List.take (l_).length l_)).length 0 then
      some [(IntKind.u8.wrap (iadd .u64 (irem .u64 n 128) 128))]
    else
      bif fits (([(IntKind.u8.wrap (iadd .u64 (irem .u64 n 128) 128))] ++ (List.take (l_).length l_))).length then
      some ([(IntKind.u8.wrap (iadd .u64 (irem .u64 n 128) 128))] ++ l_)
      else none
theorem kinfolkref06_Num_b_runs (rec_kinfolkref06_Num : Int → Option (List Int)) (hrec_kinfolkref06_Num : ∀ n r_, rec_kinfolkref06_Num n = some r_ → Runs Try.prog 34 [(.one (.pv (.int .u64 n)))] [] [] (kinfolkref06_Num_out n r_)) (n : Int) (r_ : List Int) (h : kinfolkref06_Num_b rec_kinfolkref06_Num n = some r_) : Runs Try.prog 34 [(.one (.pv (.int .u64 n)))] [] [] (kinfolkref06_Num_out n r_) := by
  unfold kinfolkref06_Num_b at h
  rcases cond_of h with ⟨h1, h⟩ | ⟨h1, h⟩
  · have h := some_of h
    subst h
    have e_ := kinfolkref06_Num_p0 n
    have e_ := runs_of (objs := []) (Says.of e_ ⟨h1, trivial⟩)
    exact e_.out ⟨.ownF (by first | rfl | (simp only [List.take_length]; done) | (simp only [List.take_length, List.length_append, List.drop_zero, List.map_append, List.map_take, List.map_drop, List.map_cons, List.map_nil, List.append_nil, List.nil_append, E_uint8.pv, E_kinfolklaw06_Act.pv]; done) | (simp; done)), trivial⟩ trivial ⟨.eq rfl, trivial⟩ rfl
  · obtain ⟨l_, h2, h⟩ := bind_of h
    rcases cond_of h with ⟨h3, h⟩ | ⟨h3, h⟩
    · have h := some_of h
      subst h
      have e_ := kinfolkref06_Num_p1 n l_
      have e_ := runs_of (objs := []) (Says.of e_ ⟨h1, rfl, rfl, (hrec_kinfolkref06_Num (iquo .u64 n 128) _ h2), h3, trivial⟩)
      exact e_.out ⟨.own (by first | rfl | (simp only [List.take_length]; done) | (simp only [List.take_length, List.length_append, List.drop_zero, List.map_append, List.map_take, List.map_drop, List.map_cons, List.map_nil, List.append_nil, List.nil_append, E_uint8.pv, E_kinfolklaw06_Act.pv]; done) | (simp; done)), trivial⟩ trivial ⟨.eq rfl, trivial⟩ rfl
    · obtain ⟨h4, h⟩ := need_of h
      have h := some_of h
      subst h
      have e_ := kinfolkref06_Num_p2 n l_
      have e_ := runs_of (objs := []) (Says.of e_ ⟨h1, rfl, rfl, (hrec_kinfolkref06_Num (iquo .u64 n 128) _ h2), (not_of h3), h4, trivial⟩)
      exact e_.out ⟨.own (by first | rfl | (simp only [List.take_length]; done) | (simp only [List.take_length, List.length_append, List.drop_zero, List.map_append, List.map_take, List.map_drop, List.map_cons, List.map_nil, List.append_nil, List.nil_append, E_uint8.pv, E_kinfolklaw06_Act.pv]; done) | (simp; done)), trivial⟩ trivial ⟨.eq (by first | rfl | (simp only [List.take_length]; done) | (simp only [List.take_length, List.length_append, List.drop_zero, List.map_append, List.map_take, List.map_drop, List.map_cons, List.map_nil, List.append_nil, List.nil_append, E_uint8.pv, E_kinfolklaw06_Act.pv]; done) | (simp; done)), trivial⟩ rfl
noncomputable def kinfolkref06_Num : Nat → Int → Option (List Int)
  | 0, _ => none
  | N + 1, n => kinfolkref06_Num_b (kinfolkref06_Num N) n
theorem kinfolkref06_Num_runs : ∀ (N : Nat) (n : Int) (r_ : List Int), kinfolkref06_Num N n = some r_ → Runs Try.prog 34 [(.one (.pv (.int .u64 n)))] [] [] (kinfolkref06_Num_out n r_)
  | 0, _, _, h => by cases h
  | N + 1, n, r_, h => kinfolkref06_Num_b_runs (kinfolkref06_Num N) (kinfolkref06_Num_runs N) n r_ h
/-! ### kinfolkref06_Text -/
def kinfolkref06_Text_out (s : ByteArray) : List Int → Res
  | r1 => ([(.one (.own 0 0 (r1).length false))], [], [(.ints .u8 r1)])
theorem kinfolkref06_Text_p0 (s : ByteArray) (l_ : List Int) : evFn Try.prog cfg (Runs Try.prog) (LRuns Try.prog (lEnv Try.prog cfg 35 0).nt 0) 35 [(.one (.pv (.str s)))] [] []
    [.res ([(.one (.own 0 0 (l_).length false))], [], [(.ints .u8 l_)])] =
  some (([(.one (.own 0 0 ((l_ ++ (List.take (bytesL s).length (bytesL s)))).length false))], [], [(.ints .u8 (l_ ++ (List.take (bytesL s).length (bytesL s))))]), [
    Runs Try.prog 34 [(.one (.pv (.int .u64 (IntKind.u64.wrap (s.size : Int)))))] [] [] ([(.one (.own 0 0 (l_).length false))], [], [(.ints .u8 l_)]),
    (decide (s.size ≤ 140737488355328)) = true,
    (Nat.beq (l_).length (l_).length) = true,
    (fits ((l_ ++ (List.take (bytesL s).length (bytesL s)))).length) = true]) := by kernel_rfl
noncomputable def kinfolkref06_Text (N : Nat) (s : ByteArray) : Option (List Int) :=
  (kinfolkref06_Num N (IntKind.u64.wrap (s.size : Int))).bind fun l_ =>
  bif decide (s.size ≤ 140737488355328) then
  bif fits ((l_ ++ (List.take (bytesL s).length (bytesL s)))).length then
  some (l_ ++ (bytesL s))
  else none
  else none
theorem kinfolkref06_Text_runs (N : Nat) (s : ByteArray) (r_ : List Int) (h : kinfolkref06_Text N s = some r_) : Runs Try.prog 35 [(.one (.pv (.str s)))] [] [] (kinfolkref06_Text_out s r_) := by
  unfold kinfolkref06_Text at h
  obtain ⟨l_, h1, h⟩ := bind_of h
  obtain ⟨h2, h⟩ := need_of h
  obtain ⟨h3, h⟩ := need_of h
  have h := some_of h
  subst h
  have e_ := kinfolkref06_Text_p0 s l_
  have e_ := runs_of (objs := []) (Says.of e_ ⟨(kinfolkref06_Num_runs N (IntKind.u64.wrap (s.size : Int)) _ h1), h2, (Nat.beq_refl _), h3, trivial⟩)
  exact e_.out ⟨.own (by first | rfl | (simp only [List.take_length]; done) | (simp only [List.take_length, List.length_append, List.drop_zero, List.map_append, List.map_take, List.map_drop, List.map_cons, List.map_nil, List.append_nil, List.nil_append, E_uint8.pv, E_kinfolklaw06_Act.pv]; done) | (simp; done)), trivial⟩ trivial ⟨.eq (by first | rfl | (simp only [List.take_length]; done) | (simp only [List.take_length, List.length_append, List.drop_zero, List.map_append, List.map_take, List.map_drop, List.map_cons, List.map_nil, List.append_nil, List.nil_append, E_uint8.pv, E_kinfolklaw06_Act.pv]; done) | (simp; done)), trivial⟩ rfl
/-! ### wire_In_Err_2 -/
def wire_In_Err_2_out : Unit → Res
  | _ => ([(.one (.pv (.int .i64 2)))], [], [])
theorem wire_In_Err_2_p0 : evFn Try.prog cfg (Runs Try.prog) (LRuns Try.prog (lEnv Try.prog cfg 29 0).nt 0) 29 [(.one (.pv .nilp))] [] []
    [.br true] =
  some (([(.one (.pv (.int .i64 2)))], [], []), [
    true = true]) := by kernel_rfl
noncomputable def wire_In_Err_2 : Option (Unit) :=
  some ()
theorem wire_In_Err_2_runs (r_ : Unit) (h : wire_In_Err_2 = some r_) : Runs Try.prog 29 [(.one (.pv .nilp))] [] [] (wire_In_Err_2_out r_) := by
  unfold wire_In_Err_2 at h
  have h := some_of h
  subst h
  have e_ := wire_In_Err_2_p0
  have e_ := runs_of (objs := []) (Says.of e_ ⟨rfl, trivial⟩)
  exact e_
/-! ### wire_In_Byte_2 -/
def wire_In_Byte_2_out : Unit → Res
  | _ => ([(.one (.pv (.int .u8 0)))], [], [])
theorem wire_In_Byte_2_p0 : evFn Try.prog cfg (Runs Try.prog) (LRuns Try.prog (lEnv Try.prog cfg 19 0).nt 0) 19 [(.one (.pv .nilp))] [] []
    [.res ([(.one (.pv (.int .i64 2)))], [], []), .br true, .br true, .res ([], [], [])] =
  some (([(.one (.pv (.int .u8 0)))], [], []), [
    Runs Try.prog 29 [(.one (.pv .nilp))] [] [] ([(.one (.pv (.int .i64 2)))], [], []),
    true = true,
    true = true,
    Runs Try.prog 25 [(.one (.pv .nilp)), (.one (.pv (.int .i64 6)))] [] [] ([], [], [])]) := by kernel_rfl
noncomputable def wire_In_Byte_2 : Option (Unit) :=
  (wire_In_Err_2).bind fun _ =>
  (wire_In_Fail_2 6).bind fun _ =>
  some ()
theorem wire_In_Byte_2_runs (r_ : Unit) (h : wire_In_Byte_2 = some r_) : Runs Try.prog 19 [(.one (.pv .nilp))] [] [] (wire_In_Byte_2_out r_) := by
  unfold wire_In_Byte_2 at h
  obtain ⟨_, h1, h⟩ := bind_of h
  obtain ⟨_, h2, h⟩ := bind_of h
  have h := some_of h
  subst h
  have e_ := wire_In_Byte_2_p0
  have e_ := runs_of (objs := []) (Says.of e_ ⟨(wire_In_Err_2_runs _ h1), rfl, rfl, (wire_In_Fail_2_runs 6 _ h2), trivial⟩)
  exact e_
/-! ### wire_In_Num_2 -/
def wire_In_Num_2_out : Unit → Res
  | _ => ([(.one (.pv (.int .u64 0)))], [], [])
theorem wire_In_Num_2_p0 : evFn Try.prog cfg (Runs Try.prog) (LRuns Try.prog (lEnv Try.prog cfg 21 0).nt 0) 21 [(.one (.pv .nilp))] [] []
    [.res ([(.one (.pv (.int .i64 2)))], [], []), .br true] =
  some (([(.one (.pv (.int .u64 0)))], [], []), [
    Runs Try.prog 29 [(.one (.pv .nilp))] [] [] ([(.one (.pv (.int .i64 2)))], [], []),
    true = true]) := by kernel_rfl
noncomputable def wire_In_Num_2 : Option (Unit) :=
  (wire_In_Err_2).bind fun _ =>
  some ()
theorem wire_In_Num_2_runs (r_ : Unit) (h : wire_In_Num_2 = some r_) : Runs Try.prog 21 [(.one (.pv .nilp))] [] [] (wire_In_Num_2_out r_) := by
  unfold wire_In_Num_2 at h
  obtain ⟨_, h1, h⟩ := bind_of h
  have h := some_of h
  subst h
  have e_ := wire_In_Num_2_p0
  have e_ := runs_of (objs := []) (Says.of e_ ⟨(wire_In_Err_2_runs _ h1), rfl, trivial⟩)
  exact e_
/-! ### wire_In_Text_2 -/
def wire_In_Text_2_out (most : Int) : ByteArray → Res
  | r1 => ([(.one (.pv (.str r1)))], [], [])
theorem wire_In_Text_2_p0 (most : Int) : evFn Try.prog cfg (Runs Try.prog) (LRuns Try.prog (lEnv Try.prog cfg 23 0).nt 0) 23 [(.one (.pv .nilp)), (.one (.pv (.int .i64 most)))] [] []
    [.res ([(.one (.pv (.int .i64 2)))], [], []), .br true] =
  some (([(.one (.pv (.str ⟨#[]⟩)))], [], []), [
    Runs Try.prog 29 [(.one (.pv .nilp))] [] [] ([(.one (.pv (.int .i64 2)))], [], []),
    true = true]) := by kernel_rfl
noncomputable def wire_In_Text_2 (most : Int) : Option (ByteArray) :=
  (wire_In_Err_2).bind fun _ =>
  some (⟨#[]⟩)
theorem wire_In_Text_2_runs (most : Int) (r_ : ByteArray) (h : wire_In_Text_2 most = some r_) : Runs Try.prog 23 [(.one (.pv .nilp)), (.one (.pv (.int .i64 most)))] [] [] (wire_In_Text_2_out most r_) := by
  unfold wire_In_Text_2 at h
  obtain ⟨_, h1, h⟩ := bind_of h
  have h := some_of h
  subst h
  have e_ := wire_In_Text_2_p0 most
  have e_ := runs_of (objs := []) (Says.of e_ ⟨(wire_In_Err_2_runs _ h1), rfl, trivial⟩)
  exact e_
/-! ### wire_In_Left_2 -/
def wire_In_Left_2_out : Unit → Res
  | _ => ([(.one (.pv (.int .i64 0)))], [], [])
theorem wire_In_Left_2_p0 : evFn Try.prog cfg (Runs Try.prog) (LRuns Try.prog (lEnv Try.prog cfg 30 0).nt 0) 30 [(.one (.pv .nilp))] [] []
    [.br true] =
  some (([(.one (.pv (.int .i64 0)))], [], []), [
    true = true]) := by kernel_rfl
noncomputable def wire_In_Left_2 : Option (Unit) :=
  some ()
theorem wire_In_Left_2_runs (r_ : Unit) (h : wire_In_Left_2 = some r_) : Runs Try.prog 30 [(.one (.pv .nilp))] [] [] (wire_In_Left_2_out r_) := by
  unfold wire_In_Left_2 at h
  have h := some_of h
  subst h
  have e_ := wire_In_Left_2_p0
  have e_ := runs_of (objs := []) (Says.of e_ ⟨rfl, trivial⟩)
  exact e_
/-! ### wire_In_End_2 -/
def wire_In_End_2_out : Unit → Res
  | _ => ([(.one (.pv (.int .i64 2)))], [], [])
theorem wire_In_End_2_p0 : evFn Try.prog cfg (Runs Try.prog) (LRuns Try.prog (lEnv Try.prog cfg 27 0).nt 0) 27 [(.one (.pv .nilp))] [] []
    [.res ([(.one (.pv (.int .i64 0)))], [], []), .br false, .res ([(.one (.pv (.int .i64 2)))], [], [])] =
  some (([(.one (.pv (.int .i64 2)))], [], []), [
    Runs Try.prog 30 [(.one (.pv .nilp))] [] [] ([(.one (.pv (.int .i64 0)))], [], []),
    false = false,
    Runs Try.prog 29 [(.one (.pv .nilp))] [] [] ([(.one (.pv (.int .i64 2)))], [], [])]) := by kernel_rfl
noncomputable def wire_In_End_2 : Option (Unit) :=
  (wire_In_Left_2).bind fun _ =>
  (wire_In_Err_2).bind fun _ =>
  some ()
theorem wire_In_End_2_runs (r_ : Unit) (h : wire_In_End_2 = some r_) : Runs Try.prog 27 [(.one (.pv .nilp))] [] [] (wire_In_End_2_out r_) := by
  unfold wire_In_End_2 at h
  obtain ⟨_, h1, h⟩ := bind_of h
  obtain ⟨_, h2, h⟩ := bind_of h
  have h := some_of h
  subst h
  have e_ := wire_In_End_2_p0
  have e_ := runs_of (objs := []) (Says.of e_ ⟨(wire_In_Left_2_runs _ h1), rfl, (wire_In_Err_2_runs _ h2), trivial⟩)
  exact e_
/-! ### kinfolklaw06_WireNums -/
def kinfolklaw06_WireNums_out (front : List Int) (n : Int) (s : ByteArray) : Bool → Res
  | r1 => ([(.one (.pv (.bool r1)))], [], [])
theorem kinfolklaw06_WireNums_p0 (front : List Int) (n : Int) (s : ByteArray) (b : Bool) (l_ : List Int) (l_2 : List Int) (l_3 : List Int) (l_4 : List Int) (l_5 : List Int) (l_6 : List Int) (l_7 : List Int) (b2 : Bool) (n2 : Int) (l_8 : List Int) (n3 : Int) (s2 : ByteArray) (l_9 : List Int) (n4 : Int) (n5 : Int) (n6 : Int) (s3 : ByteArray) : evFn Try.prog cfg (Runs Try.prog) (LRuns Try.prog (lEnv Try.prog cfg 8 0).nt 0) 8 [(.one (.pv (.ints .u8 front false))), (.one (.pv (.int .u64 n))), (.one (.pv (.str s)))] [] []
    [.res ([(.one (.pv (.bool b)))], [], []), .br false, .res ([(.one (.own 0 0 (l_).length false))], [], [(.ints .u8 l_)]), .res ([(.one (.own 0 0 (l_2).length false))], [], [(.ints .u8 l_2)]), .res ([(.one (.own 0 0 (l_3).length false))], [], [(.ints .u8 l_3)]), .res ([(.one (.own 0 0 (l_4).length false))], [], [(.ints .u8 l_4)]), .res ([(.one (.ref 0 0))], [[(.pv (.ints .u8 (List.take (((l_4).length : Int) - ((l_).length : Int)).toNat (List.drop (0 + (((l_).length : Int)).toNat) l_4)) false)), (.pv (.int .i64 0))]], []), .res ([], [], []), .res ([(.one (.own 0 0 (l_5).length false))], [], [(.ints .u8 l_5)]), .res ([(.one (.own 0 0 (l_6).length false))], [], [(.ints .u8 l_6)]), .res ([(.one (.own 0 0 (l_7).length false))], [], [(.ints .u8 l_7)]), .res ([(.one (.pv (.bool b2)))], [], []), .br true, .br true, .res ([(.one (.pv (.int .u64 n2)))], [[(.pv (.ints .u8 l_8 false)), (.pv (.int .i64 n3))]], []), .br true, .res ([(.one (.pv (.str s2)))], [[(.pv (.ints .u8 l_9 false)), (.pv (.int .i64 n4))]], []), .br true, .res ([(.one (.pv (.int .i64 n5)))], [[(.pv (.ints .u8 l_9 false)), (.pv (.int .i64 n6))]], []), .br true, .res ([(.one (.pv (.int .u8 0)))], [], []), .br true, .res ([(.one (.pv (.int .u64 0)))], [], []), .br true, .res ([(.one (.pv (.str s3)))], [], []), .br true, .res ([(.one (.pv (.int .i64 0)))], [], []), .br true, .res ([(.one (.pv (.int .i64 2)))], [], []), .br true, .res ([(.one (.pv (.int .i64 2)))], [], [])] =
  some (([(.one (.pv (.bool true)))], [], []), [
    Runs Try.prog 9 [] [] [] ([(.one (.pv (.bool b)))], [], []),
    (!b) = false,
    (decide ((0 : Int) ≤ 0) && decide ((0 : Int) ≤ (if (200 : Int) < (s.size : Int) then 200 else (s.size : Int))) && decide (((if (200 : Int) < (s.size : Int) then 200 else (s.size : Int)) : Int) ≤ (s.size : Int))) = true,
    Runs Try.prog 10 [(.one (.bor (.ints .u8 front false))), (.one (.pv (.int .i64 30)))] [] [] ([(.one (.own 0 0 (l_).length false))], [], [(.ints .u8 l_)]),
    Runs Try.prog 10 [(.one (.bor (.ints .u8 (List.take (l_).length l_) false))), (.one (.pv (.int .i64 30)))] [] [] ([(.one (.own 0 0 (l_2).length false))], [], [(.ints .u8 l_2)]),
    (Nat.beq (l_2).length (l_2).length) = true,
    (fits ((l_2 ++ [90])).length) = true,
    (decide ((0 : Int) ≤ 0) && decide ((0 : Int) ≤ ((l_).length : Int)) && decide ((((l_).length : Int) : Int) ≤ (((l_2 ++ [90])).length : Int)) && decide ((((l_).length : Int) : Int) = ((l_).length : Int))) = true,
    Runs Try.prog 32 [(.one (.pv (.ints .u8 (List.take (((l_).length : Int) - 0).toNat (l_2 ++ [90])) false))), (.one (.pv (.int .u64 n)))] [] [] ([(.one (.own 0 0 (l_3).length false))], [], [(.ints .u8 l_3)]),
    Runs Try.prog 31 [(.one (.pv (.ints .u8 (List.take (l_3).length l_3) false))), (.one (.pv (.str (s.extract 0 ((if (200 : Int) < (s.size : Int) then 200 else (s.size : Int))).toNat))))] [] [] ([(.one (.own 0 0 (l_4).length false))], [], [(.ints .u8 l_4)]),
    (decide ((0 : Int) ≤ ((l_).length : Int)) && decide ((((l_).length : Int) : Int) ≤ ((l_4).length : Int)) && decide ((((l_4).length : Int) : Int) ≤ ((l_4).length : Int)) && decide ((((l_4).length : Int) : Int) = ((l_4).length : Int))) = true,
    Runs Try.prog 18 [(.one (.pv (.ints .u8 (List.take (((l_4).length : Int) - ((l_).length : Int)).toNat (List.drop (0 + (((l_).length : Int)).toNat) l_4)) false)))] [] [] ([(.one (.ref 0 0))], [[(.pv (.ints .u8 (List.take (((l_4).length : Int) - ((l_).length : Int)).toNat (List.drop (0 + (((l_).length : Int)).toNat) l_4)) false)), (.pv (.int .i64 0))]], []),
    Runs Try.prog 25 [(.one (.pv .nilp)), (.one (.pv (.int .i64 9)))] [] [] ([], [], []),
    Runs Try.prog 34 [(.one (.pv (.int .u64 n)))] [] [] ([(.one (.own 0 0 (l_5).length false))], [], [(.ints .u8 l_5)]),
    Runs Try.prog 35 [(.one (.pv (.str (s.extract 0 ((if (200 : Int) < (s.size : Int) then 200 else (s.size : Int))).toNat))))] [] [] ([(.one (.own 0 0 (l_6).length false))], [], [(.ints .u8 l_6)]),
    Runs Try.prog 33 [(.one (.pv (.recs 1 [[(.ints .u8 (List.take (l_).length l_) false)], [(.ints .u8 (List.take (l_5).length l_5) false)], [(.ints .u8 (List.take (l_6).length l_6) false)]] true)))] [] [] ([(.one (.own 0 0 (l_7).length false))], [], [(.ints .u8 l_7)]),
    Runs Try.prog 15 [(.one (.bor (.ints .u8 (List.take (l_4).length l_4) false))), (.one (.bor (.ints .u8 (List.take (l_7).length l_7) false)))] [] [] ([(.one (.pv (.bool b2)))], [], []),
    b2 = true,
    (decide ((0 : Int) ≤ ((l_).length : Int)) && decide ((((l_).length : Int) : Int) < (((List.take ((l_2 ++ [90])).length (l_2 ++ [90]))).length : Int))) = true,
    (decide ((((List.take ((l_2 ++ [90])).length (l_2 ++ [90])).getD (((l_).length : Int)).toNat 0) : Int) = 90)) = true,
    Runs Try.prog 21 [(.one (.ref 0 0))] [[(.pv (.ints .u8 (List.take (((l_4).length : Int) - ((l_).length : Int)).toNat (List.drop (0 + (((l_).length : Int)).toNat) l_4)) false)), (.pv (.int .i64 0))]] [] ([(.one (.pv (.int .u64 n2)))], [[(.pv (.ints .u8 l_8 false)), (.pv (.int .i64 n3))]], []),
    (decide ((n2 : Int) = n)) = true,
    Runs Try.prog 23 [(.one (.ref 0 0)), (.one (.pv (.int .i64 200)))] [[(.pv (.ints .u8 l_8 false)), (.pv (.int .i64 n3))]] [] ([(.one (.pv (.str s2)))], [[(.pv (.ints .u8 l_9 false)), (.pv (.int .i64 n4))]], []),
    (decide (s2 = (s.extract 0 ((if (200 : Int) < (s.size : Int) then 200 else (s.size : Int))).toNat))) = true,
    Runs Try.prog 27 [(.one (.ref 0 0))] [[(.pv (.ints .u8 l_9 false)), (.pv (.int .i64 n4))]] [] ([(.one (.pv (.int .i64 n5)))], [[(.pv (.ints .u8 l_9 false)), (.pv (.int .i64 n6))]], []),
    (decide ((n5 : Int) = 0)) = true,
    Runs Try.prog 19 [(.one (.pv .nilp))] [] [] ([(.one (.pv (.int .u8 0)))], [], []),
    true = true,
    Runs Try.prog 21 [(.one (.pv .nilp))] [] [] ([(.one (.pv (.int .u64 0)))], [], []),
    true = true,
    Runs Try.prog 23 [(.one (.pv .nilp)), (.one (.pv (.int .i64 5)))] [] [] ([(.one (.pv (.str s3)))], [], []),
    (decide (s3 = ⟨#[]⟩)) = true,
    Runs Try.prog 30 [(.one (.pv .nilp))] [] [] ([(.one (.pv (.int .i64 0)))], [], []),
    true = true,
    Runs Try.prog 29 [(.one (.pv .nilp))] [] [] ([(.one (.pv (.int .i64 2)))], [], []),
    true = true,
    Runs Try.prog 27 [(.one (.pv .nilp))] [] [] ([(.one (.pv (.int .i64 2)))], [], [])]) := by kernel_rfl
theorem kinfolklaw06_WireNums_p1 (front : List Int) (n : Int) (s : ByteArray) (b : Bool) (l_ : List Int) (l_2 : List Int) (l_3 : List Int) (l_4 : List Int) (l_5 : List Int) (l_6 : List Int) (l_7 : List Int) (b2 : Bool) (n2 : Int) (l_8 : List Int) (n3 : Int) (s2 : ByteArray) (l_9 : List Int) (n4 : Int) (n5 : Int) (n6 : Int) (s3 : ByteArray) : evFn Try.prog cfg (Runs Try.prog) (LRuns Try.prog (lEnv Try.prog cfg 8 0).nt 0) 8 [(.one (.pv (.ints .u8 front false))), (.one (.pv (.int .u64 n))), (.one (.pv (.str s)))] [] []
    [.res ([(.one (.pv (.bool b)))], [], []), .br false, .res ([(.one (.own 0 0 (l_).length false))], [], [(.ints .u8 l_)]), .res ([(.one (.own 0 0 (l_2).length false))], [], [(.ints .u8 l_2)]), .res ([(.one (.own 0 0 (l_3).length false))], [], [(.ints .u8 l_3)]), .res ([(.one (.own 0 0 (l_4).length false))], [], [(.ints .u8 l_4)]), .res ([(.one (.ref 0 0))], [[(.pv (.ints .u8 (List.take (((l_4).length : Int) - ((l_).length : Int)).toNat (List.drop (0 + (((l_).length : Int)).toNat) l_4)) false)), (.pv (.int .i64 0))]], []), .res ([], [], []), .res ([(.one (.own 0 0 (l_5).length false))], [], [(.ints .u8 l_5)]), .res ([(.one (.own 0 0 (l_6).length false))], [], [(.ints .u8 l_6)]), .res ([(.one (.own 0 0 (l_7).length false))], [], [(.ints .u8 l_7)]), .res ([(.one (.pv (.bool b2)))], [], []), .br true, .br true, .res ([(.one (.pv (.int .u64 n2)))], [[(.pv (.ints .u8 l_8 false)), (.pv (.int .i64 n3))]], []), .br true, .res ([(.one (.pv (.str s2)))], [[(.pv (.ints .u8 l_9 false)), (.pv (.int .i64 n4))]], []), .br true, .res ([(.one (.pv (.int .i64 n5)))], [[(.pv (.ints .u8 l_9 false)), (.pv (.int .i64 n6))]], []), .br true, .res ([(.one (.pv (.int .u8 0)))], [], []), .br true, .res ([(.one (.pv (.int .u64 0)))], [], []), .br true, .res ([(.one (.pv (.str s3)))], [], []), .br false, .br false, .br false] =
  some (([(.one (.pv (.bool false)))], [], []), [
    Runs Try.prog 9 [] [] [] ([(.one (.pv (.bool b)))], [], []),
    (!b) = false,
    (decide ((0 : Int) ≤ 0) && decide ((0 : Int) ≤ (if (200 : Int) < (s.size : Int) then 200 else (s.size : Int))) && decide (((if (200 : Int) < (s.size : Int) then 200 else (s.size : Int)) : Int) ≤ (s.size : Int))) = true,
    Runs Try.prog 10 [(.one (.bor (.ints .u8 front false))), (.one (.pv (.int .i64 30)))] [] [] ([(.one (.own 0 0 (l_).length false))], [], [(.ints .u8 l_)]),
    Runs Try.prog 10 [(.one (.bor (.ints .u8 (List.take (l_).length l_) false))), (.one (.pv (.int .i64 30)))] [] [] ([(.one (.own 0 0 (l_2).length false))], [], [(.ints .u8 l_2)]),
    (Nat.beq (l_2).length (l_2).length) = true,
    (fits ((l_2 ++ [90])).length) = true,
    (decide ((0 : Int) ≤ 0) && decide ((0 : Int) ≤ ((l_).length : Int)) && decide ((((l_).length : Int) : Int) ≤ (((l_2 ++ [90])).length : Int)) && decide ((((l_).length : Int) : Int) = ((l_).length : Int))) = true,
    Runs Try.prog 32 [(.one (.pv (.ints .u8 (List.take (((l_).length : Int) - 0).toNat (l_2 ++ [90])) false))), (.one (.pv (.int .u64 n)))] [] [] ([(.one (.own 0 0 (l_3).length false))], [], [(.ints .u8 l_3)]),
    Runs Try.prog 31 [(.one (.pv (.ints .u8 (List.take (l_3).length l_3) false))), (.one (.pv (.str (s.extract 0 ((if (200 : Int) < (s.size : Int) then 200 else (s.size : Int))).toNat))))] [] [] ([(.one (.own 0 0 (l_4).length false))], [], [(.ints .u8 l_4)]),
    (decide ((0 : Int) ≤ ((l_).length : Int)) && decide ((((l_).length : Int) : Int) ≤ ((l_4).length : Int)) && decide ((((l_4).length : Int) : Int) ≤ ((l_4).length : Int)) && decide ((((l_4).length : Int) : Int) = ((l_4).length : Int))) = true,
    Runs Try.prog 18 [(.one (.pv (.ints .u8 (List.take (((l_4).length : Int) - ((l_).length : Int)).toNat (List.drop (0 + (((l_).length : Int)).toNat) l_4)) false)))] [] [] ([(.one (.ref 0 0))], [[(.pv (.ints .u8 (List.take (((l_4).length : Int) - ((l_).length : Int)).toNat (List.drop (0 + (((l_).length : Int)).toNat) l_4)) false)), (.pv (.int .i64 0))]], []),
    Runs Try.prog 25 [(.one (.pv .nilp)), (.one (.pv (.int .i64 9)))] [] [] ([], [], []),
    Runs Try.prog 34 [(.one (.pv (.int .u64 n)))] [] [] ([(.one (.own 0 0 (l_5).length false))], [], [(.ints .u8 l_5)]),
    Runs Try.prog 35 [(.one (.pv (.str (s.extract 0 ((if (200 : Int) < (s.size : Int) then 200 else (s.size : Int))).toNat))))] [] [] ([(.one (.own 0 0 (l_6).length false))], [], [(.ints .u8 l_6)]),
    Runs Try.prog 33 [(.one (.pv (.recs 1 [[(.ints .u8 (List.take (l_).length l_) false)], [(.ints .u8 (List.take (l_5).length l_5) false)], [(.ints .u8 (List.take (l_6).length l_6) false)]] true)))] [] [] ([(.one (.own 0 0 (l_7).length false))], [], [(.ints .u8 l_7)]),
    Runs Try.prog 15 [(.one (.bor (.ints .u8 (List.take (l_4).length l_4) false))), (.one (.bor (.ints .u8 (List.take (l_7).length l_7) false)))] [] [] ([(.one (.pv (.bool b2)))], [], []),
    b2 = true,
    (decide ((0 : Int) ≤ ((l_).length : Int)) && decide ((((l_).length : Int) : Int) < (((List.take ((l_2 ++ [90])).length (l_2 ++ [90]))).length : Int))) = true,
    (decide ((((List.take ((l_2 ++ [90])).length (l_2 ++ [90])).getD (((l_).length : Int)).toNat 0) : Int) = 90)) = true,
    Runs Try.prog 21 [(.one (.ref 0 0))] [[(.pv (.ints .u8 (List.take (((l_4).length : Int) - ((l_).length : Int)).toNat (List.drop (0 + (((l_).length : Int)).toNat) l_4)) false)), (.pv (.int .i64 0))]] [] ([(.one (.pv (.int .u64 n2)))], [[(.pv (.ints .u8 l_8 false)), (.pv (.int .i64 n3))]], []),
    (decide ((n2 : Int) = n)) = true,
    Runs Try.prog 23 [(.one (.ref 0 0)), (.one (.pv (.int .i64 200)))] [[(.pv (.ints .u8 l_8 false)), (.pv (.int .i64 n3))]] [] ([(.one (.pv (.str s2)))], [[(.pv (.ints .u8 l_9 false)), (.pv (.int .i64 n4))]], []),
    (decide (s2 = (s.extract 0 ((if (200 : Int) < (s.size : Int) then 200 else (s.size : Int))).toNat))) = true,
    Runs Try.prog 27 [(.one (.ref 0 0))] [[(.pv (.ints .u8 l_9 false)), (.pv (.int .i64 n4))]] [] ([(.one (.pv (.int .i64 n5)))], [[(.pv (.ints .u8 l_9 false)), (.pv (.int .i64 n6))]], []),
    (decide ((n5 : Int) = 0)) = true,
    Runs Try.prog 19 [(.one (.pv .nilp))] [] [] ([(.one (.pv (.int .u8 0)))], [], []),
    true = true,
    Runs Try.prog 21 [(.one (.pv .nilp))] [] [] ([(.one (.pv (.int .u64 0)))], [], []),
    true = true,
    Runs Try.prog 23 [(.one (.pv .nilp)), (.one (.pv (.int .i64 5)))] [] [] ([(.one (.pv (.str s3)))], [], []),
    (decide (s3 = ⟨#[]⟩)) = false,
    false = false,
    false = false]) := by kernel_rfl
theorem kinfolklaw06_WireNums_p2 (front : List Int) (n : Int) (s : ByteArray) (b : Bool) (l_ : List Int) (l_2 : List Int) (l_3 : List Int) (l_4 : List Int) (l_5 : List Int) (l_6 : List Int) (l_7 : List Int) (b2 : Bool) (n2 : Int) (l_8 : List Int) (n3 : Int) (s2 : ByteArray) (l_9 : List Int) (n4 : Int) (n5 : Int) (n6 : Int) : evFn Try.prog cfg (Runs Try.prog) (LRuns Try.prog (lEnv Try.prog cfg 8 0).nt 0) 8 [(.one (.pv (.ints .u8 front false))), (.one (.pv (.int .u64 n))), (.one (.pv (.str s)))] [] []
    [.res ([(.one (.pv (.bool b)))], [], []), .br false, .res ([(.one (.own 0 0 (l_).length false))], [], [(.ints .u8 l_)]), .res ([(.one (.own 0 0 (l_2).length false))], [], [(.ints .u8 l_2)]), .res ([(.one (.own 0 0 (l_3).length false))], [], [(.ints .u8 l_3)]), .res ([(.one (.own 0 0 (l_4).length false))], [], [(.ints .u8 l_4)]), .res ([(.one (.ref 0 0))], [[(.pv (.ints .u8 (List.take (((l_4).length : Int) - ((l_).length : Int)).toNat (List.drop (0 + (((l_).length : Int)).toNat) l_4)) false)), (.pv (.int .i64 0))]], []), .res ([], [], []), .res ([(.one (.own 0 0 (l_5).length false))], [], [(.ints .u8 l_5)]), .res ([(.one (.own 0 0 (l_6).length false))], [], [(.ints .u8 l_6)]), .res ([(.one (.own 0 0 (l_7).length false))], [], [(.ints .u8 l_7)]), .res ([(.one (.pv (.bool b2)))], [], []), .br true, .br true, .res ([(.one (.pv (.int .u64 n2)))], [[(.pv (.ints .u8 l_8 false)), (.pv (.int .i64 n3))]], []), .br true, .res ([(.one (.pv (.str s2)))], [[(.pv (.ints .u8 l_9 false)), (.pv (.int .i64 n4))]], []), .br true, .res ([(.one (.pv (.int .i64 n5)))], [[(.pv (.ints .u8 l_9 false)), (.pv (.int .i64 n6))]], []), .br false, .br false, .br false, .br false, .br false, .br false] =
  some (([(.one (.pv (.bool false)))], [], []), [
    Runs Try.prog 9 [] [] [] ([(.one (.pv (.bool b)))], [], []),
    (!b) = false,
    (decide ((0 : Int) ≤ 0) && decide ((0 : Int) ≤ (if (200 : Int) < (s.size : Int) then 200 else (s.size : Int))) && decide (((if (200 : Int) < (s.size : Int) then 200 else (s.size : Int)) : Int) ≤ (s.size : Int))) = true,
    Runs Try.prog 10 [(.one (.bor (.ints .u8 front false))), (.one (.pv (.int .i64 30)))] [] [] ([(.one (.own 0 0 (l_).length false))], [], [(.ints .u8 l_)]),
    Runs Try.prog 10 [(.one (.bor (.ints .u8 (List.take (l_).length l_) false))), (.one (.pv (.int .i64 30)))] [] [] ([(.one (.own 0 0 (l_2).length false))], [], [(.ints .u8 l_2)]),
    (Nat.beq (l_2).length (l_2).length) = true,
    (fits ((l_2 ++ [90])).length) = true,
    (decide ((0 : Int) ≤ 0) && decide ((0 : Int) ≤ ((l_).length : Int)) && decide ((((l_).length : Int) : Int) ≤ (((l_2 ++ [90])).length : Int)) && decide ((((l_).length : Int) : Int) = ((l_).length : Int))) = true,
    Runs Try.prog 32 [(.one (.pv (.ints .u8 (List.take (((l_).length : Int) - 0).toNat (l_2 ++ [90])) false))), (.one (.pv (.int .u64 n)))] [] [] ([(.one (.own 0 0 (l_3).length false))], [], [(.ints .u8 l_3)]),
    Runs Try.prog 31 [(.one (.pv (.ints .u8 (List.take (l_3).length l_3) false))), (.one (.pv (.str (s.extract 0 ((if (200 : Int) < (s.size : Int) then 200 else (s.size : Int))).toNat))))] [] [] ([(.one (.own 0 0 (l_4).length false))], [], [(.ints .u8 l_4)]),
    (decide ((0 : Int) ≤ ((l_).length : Int)) && decide ((((l_).length : Int) : Int) ≤ ((l_4).length : Int)) && decide ((((l_4).length : Int) : Int) ≤ ((l_4).length : Int)) && decide ((((l_4).length : Int) : Int) = ((l_4).length : Int))) = true,
    Runs Try.prog 18 [(.one (.pv (.ints .u8 (List.take (((l_4).length : Int) - ((l_).length : Int)).toNat (List.drop (0 + (((l_).length : Int)).toNat) l_4)) false)))] [] [] ([(.one (.ref 0 0))], [[(.pv (.ints .u8 (List.take (((l_4).length : Int) - ((l_).length : Int)).toNat (List.drop (0 + (((l_).length : Int)).toNat) l_4)) false)), (.pv (.int .i64 0))]], []),
    Runs Try.prog 25 [(.one (.pv .nilp)), (.one (.pv (.int .i64 9)))] [] [] ([], [], []),
    Runs Try.prog 34 [(.one (.pv (.int .u64 n)))] [] [] ([(.one (.own 0 0 (l_5).length false))], [], [(.ints .u8 l_5)]),
    Runs Try.prog 35 [(.one (.pv (.str (s.extract 0 ((if (200 : Int) < (s.size : Int) then 200 else (s.size : Int))).toNat))))] [] [] ([(.one (.own 0 0 (l_6).length false))], [], [(.ints .u8 l_6)]),
    Runs Try.prog 33 [(.one (.pv (.recs 1 [[(.ints .u8 (List.take (l_).length l_) false)], [(.ints .u8 (List.take (l_5).length l_5) false)], [(.ints .u8 (List.take (l_6).length l_6) false)]] true)))] [] [] ([(.one (.own 0 0 (l_7).length false))], [], [(.ints .u8 l_7)]),
    Runs Try.prog 15 [(.one (.bor (.ints .u8 (List.take (l_4).length l_4) false))), (.one (.bor (.ints .u8 (List.take (l_7).length l_7) false)))] [] [] ([(.one (.pv (.bool b2)))], [], []),
    b2 = true,
    (decide ((0 : Int) ≤ ((l_).length : Int)) && decide ((((l_).length : Int) : Int) < (((List.take ((l_2 ++ [90])).length (l_2 ++ [90]))).length : Int))) = true,
    (decide ((((List.take ((l_2 ++ [90])).length (l_2 ++ [90])).getD (((l_).length : Int)).toNat 0) : Int) = 90)) = true,
    Runs Try.prog 21 [(.one (.ref 0 0))] [[(.pv (.ints .u8 (List.take (((l_4).length : Int) - ((l_).length : Int)).toNat (List.drop (0 + (((l_).length : Int)).toNat) l_4)) false)), (.pv (.int .i64 0))]] [] ([(.one (.pv (.int .u64 n2)))], [[(.pv (.ints .u8 l_8 false)), (.pv (.int .i64 n3))]], []),
    (decide ((n2 : Int) = n)) = true,
    Runs Try.prog 23 [(.one (.ref 0 0)), (.one (.pv (.int .i64 200)))] [[(.pv (.ints .u8 l_8 false)), (.pv (.int .i64 n3))]] [] ([(.one (.pv (.str s2)))], [[(.pv (.ints .u8 l_9 false)), (.pv (.int .i64 n4))]], []),
    (decide (s2 = (s.extract 0 ((if (200 : Int) < (s.size : Int) then 200 else (s.size : Int))).toNat))) = true,
    Runs Try.prog 27 [(.one (.ref 0 0))] [[(.pv (.ints .u8 l_9 false)), (.pv (.int .i64 n4))]] [] ([(.one (.pv (.int .i64 n5)))], [[(.pv (.ints .u8 l_9 false)), (.pv (.int .i64 n6))]], []),
    (decide ((n5 : Int) = 0)) = false,
    false = false,
    false = false,
    false = false,
    false = false,
    false = false]) := by kernel_rfl
theorem kinfolklaw06_WireNums_p3 (front : List Int) (n : Int) (s : ByteArray) (b : Bool) (l_ : List Int) (l_2 : List Int) (l_3 : List Int) (l_4 : List Int) (l_5 : List Int) (l_6 : List Int) (l_7 : List Int) (b2 : Bool) (n2 : Int) (l_8 : List Int) (n3 : Int) (s2 : ByteArray) (l_9 : List Int) (n4 : Int) : evFn Try.prog cfg (Runs Try.prog) (LRuns Try.prog (lEnv Try.prog cfg 8 0).nt 0) 8 [(.one (.pv (.ints .u8 front false))), (.one (.pv (.int .u64 n))), (.one (.pv (.str s)))] [] []
    [.res ([(.one (.pv (.bool b)))], [], []), .br false, .res ([(.one (.own 0 0 (l_).length false))], [], [(.ints .u8 l_)]), .res ([(.one (.own 0 0 (l_2).length false))], [], [(.ints .u8 l_2)]), .res ([(.one (.own 0 0 (l_3).length false))], [], [(.ints .u8 l_3)]), .res ([(.one (.own 0 0 (l_4).length false))], [], [(.ints .u8 l_4)]), .res ([(.one (.ref 0 0))], [[(.pv (.ints .u8 (List.take (((l_4).length : Int) - ((l_).length : Int)).toNat (List.drop (0 + (((l_).length : Int)).toNat) l_4)) false)), (.pv (.int .i64 0))]], []), .res ([], [], []), .res ([(.one (.own 0 0 (l_5).length false))], [], [(.ints .u8 l_5)]), .res ([(.one (.own 0 0 (l_6).length false))], [], [(.ints .u8 l_6)]), .res ([(.one (.own 0 0 (l_7).length false))], [], [(.ints .u8 l_7)]), .res ([(.one (.pv (.bool b2)))], [], []), .br true, .br true, .res ([(.one (.pv (.int .u64 n2)))], [[(.pv (.ints .u8 l_8 false)), (.pv (.int .i64 n3))]], []), .br true, .res ([(.one (.pv (.str s2)))], [[(.pv (.ints .u8 l_9 false)), (.pv (.int .i64 n4))]], []), .br false, .br false, .br false, .br false, .br false, .br false, .br false] =
  some (([(.one (.pv (.bool false)))], [], []), [
    Runs Try.prog 9 [] [] [] ([(.one (.pv (.bool b)))], [], []),
    (!b) = false,
    (decide ((0 : Int) ≤ 0) && decide ((0 : Int) ≤ (if (200 : Int) < (s.size : Int) then 200 else (s.size : Int))) && decide (((if (200 : Int) < (s.size : Int) then 200 else (s.size : Int)) : Int) ≤ (s.size : Int))) = true,
    Runs Try.prog 10 [(.one (.bor (.ints .u8 front false))), (.one (.pv (.int .i64 30)))] [] [] ([(.one (.own 0 0 (l_).length false))], [], [(.ints .u8 l_)]),
    Runs Try.prog 10 [(.one (.bor (.ints .u8 (List.take (l_).length l_) false))), (.one (.pv (.int .i64 30)))] [] [] ([(.one (.own 0 0 (l_2).length false))], [], [(.ints .u8 l_2)]),
    (Nat.beq (l_2).length (l_2).length) = true,
    (fits ((l_2 ++ [90])).length) = true,
    (decide ((0 : Int) ≤ 0) && decide ((0 : Int) ≤ ((l_).length : Int)) && decide ((((l_).length : Int) : Int) ≤ (((l_2 ++ [90])).length : Int)) && decide ((((l_).length : Int) : Int) = ((l_).length : Int))) = true,
    Runs Try.prog 32 [(.one (.pv (.ints .u8 (List.take (((l_).length : Int) - 0).toNat (l_2 ++ [90])) false))), (.one (.pv (.int .u64 n)))] [] [] ([(.one (.own 0 0 (l_3).length false))], [], [(.ints .u8 l_3)]),
    Runs Try.prog 31 [(.one (.pv (.ints .u8 (List.take (l_3).length l_3) false))), (.one (.pv (.str (s.extract 0 ((if (200 : Int) < (s.size : Int) then 200 else (s.size : Int))).toNat))))] [] [] ([(.one (.own 0 0 (l_4).length false))], [], [(.ints .u8 l_4)]),
    (decide ((0 : Int) ≤ ((l_).length : Int)) && decide ((((l_).length : Int) : Int) ≤ ((l_4).length : Int)) && decide ((((l_4).length : Int) : Int) ≤ ((l_4).length : Int)) && decide ((((l_4).length : Int) : Int) = ((l_4).length : Int))) = true,
    Runs Try.prog 18 [(.one (.pv (.ints .u8 (List.take (((l_4).length : Int) - ((l_).length : Int)).toNat (List.drop (0 + (((l_).length : Int)).toNat) l_4)) false)))] [] [] ([(.one (.ref 0 0))], [[(.pv (.ints .u8 (List.take (((l_4).length : Int) - ((l_).length : Int)).toNat (List.drop (0 + (((l_).length : Int)).toNat) l_4)) false)), (.pv (.int .i64 0))]], []),
    Runs Try.prog 25 [(.one (.pv .nilp)), (.one (.pv (.int .i64 9)))] [] [] ([], [], []),
    Runs Try.prog 34 [(.one (.pv (.int .u64 n)))] [] [] ([(.one (.own 0 0 (l_5).length false))], [], [(.ints .u8 l_5)]),
    Runs Try.prog 35 [(.one (.pv (.str (s.extract 0 ((if (200 : Int) < (s.size : Int) then 200 else (s.size : Int))).toNat))))] [] [] ([(.one (.own 0 0 (l_6).length false))], [], [(.ints .u8 l_6)]),
    Runs Try.prog 33 [(.one (.pv (.recs 1 [[(.ints .u8 (List.take (l_).length l_) false)], [(.ints .u8 (List.take (l_5).length l_5) false)], [(.ints .u8 (List.take (l_6).length l_6) false)]] true)))] [] [] ([(.one (.own 0 0 (l_7).length false))], [], [(.ints .u8 l_7)]),
    Runs Try.prog 15 [(.one (.bor (.ints .u8 (List.take (l_4).length l_4) false))), (.one (.bor (.ints .u8 (List.take (l_7).length l_7) false)))] [] [] ([(.one (.pv (.bool b2)))], [], []),
    b2 = true,
    (decide ((0 : Int) ≤ ((l_).length : Int)) && decide ((((l_).length : Int) : Int) < (((List.take ((l_2 ++ [90])).length (l_2 ++ [90]))).length : Int))) = true,
    (decide ((((List.take ((l_2 ++ [90])).length (l_2 ++ [90])).getD (((l_).length : Int)).toNat 0) : Int) = 90)) = true,
    Runs Try.prog 21 [(.one (.ref 0 0))] [[(.pv (.ints .u8 (List.take (((l_4).length : Int) - ((l_).length : Int)).toNat (List.drop (0 + (((l_).length : Int)).toNat) l_4)) false)), (.pv (.int .i64 0))]] [] ([(.one (.pv (.int .u64 n2)))], [[(.pv (.ints .u8 l_8 false)), (.pv (.int .i64 n3))]], []),
    (decide ((n2 : Int) = n)) = true,
    Runs Try.prog 23 [(.one (.ref 0 0)), (.one (.pv (.int .i64 200)))] [[(.pv (.ints .u8 l_8 false)), (.pv (.int .i64 n3))]] [] ([(.one (.pv (.str s2)))], [[(.pv (.ints .u8 l_9 false)), (.pv (.int .i64 n4))]], []),
    (decide (s2 = (s.extract 0 ((if (200 : Int) < (s.size : Int) then 200 else (s.size : Int))).toNat))) = false,
    false = false,
    false = false,
    false = false,
    false = false,
    false = false,
    false = false]) := by kernel_rfl
theorem kinfolklaw06_WireNums_p4 (front : List Int) (n : Int) (s : ByteArray) (b : Bool) (l_ : List Int) (l_2 : List Int) (l_3 : List Int) (l_4 : List Int) (l_5 : List Int) (l_6 : List Int) (l_7 : List Int) (b2 : Bool) (n2 : Int) (l_8 : List Int) (n3 : Int) : evFn Try.prog cfg (Runs Try.prog) (LRuns Try.prog (lEnv Try.prog cfg 8 0).nt 0) 8 [(.one (.pv (.ints .u8 front false))), (.one (.pv (.int .u64 n))), (.one (.pv (.str s)))] [] []
    [.res ([(.one (.pv (.bool b)))], [], []), .br false, .res ([(.one (.own 0 0 (l_).length false))], [], [(.ints .u8 l_)]), .res ([(.one (.own 0 0 (l_2).length false))], [], [(.ints .u8 l_2)]), .res ([(.one (.own 0 0 (l_3).length false))], [], [(.ints .u8 l_3)]), .res ([(.one (.own 0 0 (l_4).length false))], [], [(.ints .u8 l_4)]), .res ([(.one (.ref 0 0))], [[(.pv (.ints .u8 (List.take (((l_4).length : Int) - ((l_).length : Int)).toNat (List.drop (0 + (((l_).length : Int)).toNat) l_4)) false)), (.pv (.int .i64 0))]], []), .res ([], [], []), .res ([(.one (.own 0 0 (l_5).length false))], [], [(.ints .u8 l_5)]), .res ([(.one (.own 0 0 (l_6).length false))], [], [(.ints .u8 l_6)]), .res ([(.one (.own 0 0 (l_7).length false))], [], [(.ints .u8 l_7)]), .res ([(.one (.pv (.bool b2)))], [], []), .br true, .br true, .res ([(.one (.pv (.int .u64 n2)))], [[(.pv (.ints .u8 l_8 false)), (.pv (.int .i64 n3))]], []), .br false, .br false, .br false, .br false, .br false, .br false, .br false, .br false] =
  some (([(.one (.pv (.bool false)))], [], []), [
    Runs Try.prog 9 [] [] [] ([(.one (.pv (.bool b)))], [], []),
    (!b) = false,
    (decide ((0 : Int) ≤ 0) && decide ((0 : Int) ≤ (if (200 : Int) < (s.size : Int) then 200 else (s.size : Int))) && decide (((if (200 : Int) < (s.size : Int) then 200 else (s.size : Int)) : Int) ≤ (s.size : Int))) = true,
    Runs Try.prog 10 [(.one (.bor (.ints .u8 front false))), (.one (.pv (.int .i64 30)))] [] [] ([(.one (.own 0 0 (l_).length false))], [], [(.ints .u8 l_)]),
    Runs Try.prog 10 [(.one (.bor (.ints .u8 (List.take (l_).length l_) false))), (.one (.pv (.int .i64 30)))] [] [] ([(.one (.own 0 0 (l_2).length false))], [], [(.ints .u8 l_2)]),
    (Nat.beq (l_2).length (l_2).length) = true,
    (fits ((l_2 ++ [90])).length) = true,
    (decide ((0 : Int) ≤ 0) && decide ((0 : Int) ≤ ((l_).length : Int)) && decide ((((l_).length : Int) : Int) ≤ (((l_2 ++ [90])).length : Int)) && decide ((((l_).length : Int) : Int) = ((l_).length : Int))) = true,
    Runs Try.prog 32 [(.one (.pv (.ints .u8 (List.take (((l_).length : Int) - 0).toNat (l_2 ++ [90])) false))), (.one (.pv (.int .u64 n)))] [] [] ([(.one (.own 0 0 (l_3).length false))], [], [(.ints .u8 l_3)]),
    Runs Try.prog 31 [(.one (.pv (.ints .u8 (List.take (l_3).length l_3) false))), (.one (.pv (.str (s.extract 0 ((if (200 : Int) < (s.size : Int) then 200 else (s.size : Int))).toNat))))] [] [] ([(.one (.own 0 0 (l_4).length false))], [], [(.ints .u8 l_4)]),
    (decide ((0 : Int) ≤ ((l_).length : Int)) && decide ((((l_).length : Int) : Int) ≤ ((l_4).length : Int)) && decide ((((l_4).length : Int) : Int) ≤ ((l_4).length : Int)) && decide ((((l_4).length : Int) : Int) = ((l_4).length : Int))) = true,
    Runs Try.prog 18 [(.one (.pv (.ints .u8 (List.take (((l_4).length : Int) - ((l_).length : Int)).toNat (List.drop (0 + (((l_).length : Int)).toNat) l_4)) false)))] [] [] ([(.one (.ref 0 0))], [[(.pv (.ints .u8 (List.take (((l_4).length : Int) - ((l_).length : Int)).toNat (List.drop (0 + (((l_).length : Int)).toNat) l_4)) false)), (.pv (.int .i64 0))]], []),
    Runs Try.prog 25 [(.one (.pv .nilp)), (.one (.pv (.int .i64 9)))] [] [] ([], [], []),
    Runs Try.prog 34 [(.one (.pv (.int .u64 n)))] [] [] ([(.one (.own 0 0 (l_5).length false))], [], [(.ints .u8 l_5)]),
    Runs Try.prog 35 [(.one (.pv (.str (s.extract 0 ((if (200 : Int) < (s.size : Int) then 200 else (s.size : Int))).toNat))))] [] [] ([(.one (.own 0 0 (l_6).length false))], [], [(.ints .u8 l_6)]),
    Runs Try.prog 33 [(.one (.pv (.recs 1 [[(.ints .u8 (List.take (l_).length l_) false)], [(.ints .u8 (List.take (l_5).length l_5) false)], [(.ints .u8 (List.take (l_6).length l_6) false)]] true)))] [] [] ([(.one (.own 0 0 (l_7).length false))], [], [(.ints .u8 l_7)]),
    Runs Try.prog 15 [(.one (.bor (.ints .u8 (List.take (l_4).length l_4) false))), (.one (.bor (.ints .u8 (List.take (l_7).length l_7) false)))] [] [] ([(.one (.pv (.bool b2)))], [], []),
    b2 = true,
    (decide ((0 : Int) ≤ ((l_).length : Int)) && decide ((((l_).length : Int) : Int) < (((List.take ((l_2 ++ [90])).length (l_2 ++ [90]))).length : Int))) = true,
    (decide ((((List.take ((l_2 ++ [90])).length (l_2 ++ [90])).getD (((l_).length : Int)).toNat 0) : Int) = 90)) = true,
    Runs Try.prog 21 [(.one (.ref 0 0))] [[(.pv (.ints .u8 (List.take (((l_4).length : Int) - ((l_).length : Int)).toNat (List.drop (0 + (((l_).length : Int)).toNat) l_4)) false)), (.pv (.int .i64 0))]] [] ([(.one (.pv (.int .u64 n2)))], [[(.pv (.ints .u8 l_8 false)), (.pv (.int .i64 n3))]], []),
    (decide ((n2 : Int) = n)) = false,
    false = false,
    false = false,
    false = false,
    false = false,
    false = false,
    false = false,
    false = false]) := by kernel_rfl
theorem kinfolklaw06_WireNums_p5 (front : List Int) (n : Int) (s : ByteArray) (b : Bool) (l_ : List Int) (l_2 : List Int) (l_3 : List Int) (l_4 : List Int) (l_5 : List Int) (l_6 : List Int) (l_7 : List Int) (b2 : Bool) : evFn Try.prog cfg (Runs Try.prog) (LRuns Try.prog (lEnv Try.prog cfg 8 0).nt 0) 8 [(.one (.pv (.ints .u8 front false))), (.one (.pv (.int .u64 n))), (.one (.pv (.str s)))] [] []
    [.res ([(.one (.pv (.bool b)))], [], []), .br false, .res ([(.one (.own 0 0 (l_).length false))], [], [(.ints .u8 l_)]), .res ([(.one (.own 0 0 (l_2).length false))], [], [(.ints .u8 l_2)]), .res ([(.one (.own 0 0 (l_3).length false))], [], [(.ints .u8 l_3)]), .res ([(.one (.own 0 0 (l_4).length false))], [], [(.ints .u8 l_4)]), .res ([(.one (.ref 0 0))], [[(.pv (.ints .u8 (List.take (((l_4).length : Int) - ((l_).length : Int)).toNat (List.drop (0 + (((l_).length : Int)).toNat) l_4)) false)), (.pv (.int .i64 0))]], []), .res ([], [], []), .res ([(.one (.own 0 0 (l_5).length false))], [], [(.ints .u8 l_5)]), .res ([(.one (.own 0 0 (l_6).length false))], [], [(.ints .u8 l_6)]), .res ([(.one (.own 0 0 (l_7).length false))], [], [(.ints .u8 l_7)]), .res ([(.one (.pv (.bool b2)))], [], []), .br true, .br false, .br false, .br false, .br false, .br false, .br false, .br false, .br false, .br false] =
  some (([(.one (.pv (.bool false)))], [], []), [
    Runs Try.prog 9 [] [] [] ([(.one (.pv (.bool b)))], [], []),
    (!b) = false,
    (decide ((0 : Int) ≤ 0) && decide ((0 : Int) ≤ (if (200 : Int) < (s.size : Int) then 200 else (s.size : Int))) && decide (((if (200 : Int) < (s.size : Int) then 200 else (s.size : Int)) : Int) ≤ (s.size : Int))) = true,
    Runs Try.prog 10 [(.one (.bor (.ints .u8 front false))), (.one (.pv (.int .i64 30)))] [] [] ([(.one (.own 0 0 (l_).length false))], [], [(.ints .u8 l_)]),
    Runs Try.prog 10 [(.one (.bor (.ints .u8 (List.take (l_).length l_) false))), (.one (.pv (.int .i64 30)))] [] [] ([(.one (.own 0 0 (l_2).length false))], [], [(.ints .u8 l_2)]),
    (Nat.beq (l_2).length (l_2).length) = true,
    (fits ((l_2 ++ [90])).length) = true,
    (decide ((0 : Int) ≤ 0) && decide ((0 : Int) ≤ ((l_).length : Int)) && decide ((((l_).length : Int) : Int) ≤ (((l_2 ++ [90])).length : Int)) && decide ((((l_).length : Int) : Int) = ((l_).length : Int))) = true,
    Runs Try.prog 32 [(.one (.pv (.ints .u8 (List.take (((l_).length : Int) - 0).toNat (l_2 ++ [90])) false))), (.one (.pv (.int .u64 n)))] [] [] ([(.one (.own 0 0 (l_3).length false))], [], [(.ints .u8 l_3)]),
    Runs Try.prog 31 [(.one (.pv (.ints .u8 (List.take (l_3).length l_3) false))), (.one (.pv (.str (s.extract 0 ((if (200 : Int) < (s.size : Int) then 200 else (s.size : Int))).toNat))))] [] [] ([(.one (.own 0 0 (l_4).length false))], [], [(.ints .u8 l_4)]),
    (decide ((0 : Int) ≤ ((l_).length : Int)) && decide ((((l_).length : Int) : Int) ≤ ((l_4).length : Int)) && decide ((((l_4).length : Int) : Int) ≤ ((l_4).length : Int)) && decide ((((l_4).length : Int) : Int) = ((l_4).length : Int))) = true,
    Runs Try.prog 18 [(.one (.pv (.ints .u8 (List.take (((l_4).length : Int) - ((l_).length : Int)).toNat (List.drop (0 + (((l_).length : Int)).toNat) l_4)) false)))] [] [] ([(.one (.ref 0 0))], [[(.pv (.ints .u8 (List.take (((l_4).length : Int) - ((l_).length : Int)).toNat (List.drop (0 + (((l_).length : Int)).toNat) l_4)) false)), (.pv (.int .i64 0))]], []),
    Runs Try.prog 25 [(.one (.pv .nilp)), (.one (.pv (.int .i64 9)))] [] [] ([], [], []),
    Runs Try.prog 34 [(.one (.pv (.int .u64 n)))] [] [] ([(.one (.own 0 0 (l_5).length false))], [], [(.ints .u8 l_5)]),
    Runs Try.prog 35 [(.one (.pv (.str (s.extract 0 ((if (200 : Int) < (s.size : Int) then 200 else (s.size : Int))).toNat))))] [] [] ([(.one (.own 0 0 (l_6).length false))], [], [(.ints .u8 l_6)]),
    Runs Try.prog 33 [(.one (.pv (.recs 1 [[(.ints .u8 (List.take (l_).length l_) false)], [(.ints .u8 (List.take (l_5).length l_5) false)], [(.ints .u8 (List.take (l_6).length l_6) false)]] true)))] [] [] ([(.one (.own 0 0 (l_7).length false))], [], [(.ints .u8 l_7)]),
    Runs Try.prog 15 [(.one (.bor (.ints .u8 (List.take (l_4).length l_4) false))), (.one (.bor (.ints .u8 (List.take (l_7).length l_7) false)))] [] [] ([(.one (.pv (.bool b2)))], [], []),
    b2 = true,
    (decide ((0 : Int) ≤ ((l_).length : Int)) && decide ((((l_).length : Int) : Int) < (((List.take ((l_2 ++ [90])).length (l_2 ++ [90]))).length : Int))) = true,
    (decide ((((List.take ((l_2 ++ [90])).length (l_2 ++ [90])).getD (((l_).length : Int)).toNat 0) : Int) = 90)) = false,
    false = false,
    false = false,
    false = false,
    false = false,
    false = false,
    false = false,
    false = false,
    false = false]) := by kernel_rfl
theorem kinfolklaw06_WireNums_p6 (front : List Int) (n : Int) (s : ByteArray) (b : Bool) (l_ : List Int) (l_2 : List Int) (l_3 : List Int) (l_4 : List Int) (l_5 : List Int) (l_6 : List Int) (l_7 : List Int) (b2 : Bool) : evFn Try.prog cfg (Runs Try.prog) (LRuns Try.prog (lEnv Try.prog cfg 8 0).nt 0) 8 [(.one (.pv (.ints .u8 front false))), (.one (.pv (.int .u64 n))), (.one (.pv (.str s)))] [] []
    [.res ([(.one (.pv (.bool b)))], [], []), .br false, .res ([(.one (.own 0 0 (l_).length false))], [], [(.ints .u8 l_)]), .res ([(.one (.own 0 0 (l_2).length false))], [], [(.ints .u8 l_2)]), .res ([(.one (.own 0 0 (l_3).length false))], [], [(.ints .u8 l_3)]), .res ([(.one (.own 0 0 (l_4).length false))], [], [(.ints .u8 l_4)]), .res ([(.one (.ref 0 0))], [[(.pv (.ints .u8 (List.take (((l_4).length : Int) - ((l_).length : Int)).toNat (List.drop (0 + (((l_).length : Int)).toNat) l_4)) false)), (.pv (.int .i64 0))]], []), .res ([], [], []), .res ([(.one (.own 0 0 (l_5).length false))], [], [(.ints .u8 l_5)]), .res ([(.one (.own 0 0 (l_6).length false))], [], [(.ints .u8 l_6)]), .res ([(.one (.own 0 0 (l_7).length false))], [], [(.ints .u8 l_7)]), .res ([(.one (.pv (.bool b2)))], [], []), .br false, .br false, .br false, .br false, .br false, .br false, .br false, .br false, .br false, .br false] =
  some (([(.one (.pv (.bool false)))], [], []), [
    Runs Try.prog 9 [] [] [] ([(.one (.pv (.bool b)))], [], []),
    (!b) = false,
    (decide ((0 : Int) ≤ 0) && decide ((0 : Int) ≤ (if (200 : Int) < (s.size : Int) then 200 else (s.size : Int))) && decide (((if (200 : Int) < (s.size : Int) then 200 else (s.size : Int)) : Int) ≤ (s.size : Int))) = true,
    Runs Try.prog 10 [(.one (.bor (.ints .u8 front false))), (.one (.pv (.int .i64 30)))] [] [] ([(.one (.own 0 0 (l_).length false))], [], [(.ints .u8 l_)]),
    Runs Try.prog 10 [(.one (.bor (.ints .u8 (List.take (l_).length l_) false))), (.one (.pv (.int .i64 30)))] [] [] ([(.one (.own 0 0 (l_2).length false))], [], [(.ints .u8 l_2)]),
    (Nat.beq (l_2).length (l_2).length) = true,
    (fits ((l_2 ++ [90])).length) = true,
    (decide ((0 : Int) ≤ 0) && decide ((0 : Int) ≤ ((l_).length : Int)) && decide ((((l_).length : Int) : Int) ≤ (((l_2 ++ [90])).length : Int)) && decide ((((l_).length : Int) : Int) = ((l_).length : Int))) = true,
    Runs Try.prog 32 [(.one (.pv (.ints .u8 (List.take (((l_).length : Int) - 0).toNat (l_2 ++ [90])) false))), (.one (.pv (.int .u64 n)))] [] [] ([(.one (.own 0 0 (l_3).length false))], [], [(.ints .u8 l_3)]),
    Runs Try.prog 31 [(.one (.pv (.ints .u8 (List.take (l_3).length l_3) false))), (.one (.pv (.str (s.extract 0 ((if (200 : Int) < (s.size : Int) then 200 else (s.size : Int))).toNat))))] [] [] ([(.one (.own 0 0 (l_4).length false))], [], [(.ints .u8 l_4)]),
    (decide ((0 : Int) ≤ ((l_).length : Int)) && decide ((((l_).length : Int) : Int) ≤ ((l_4).length : Int)) && decide ((((l_4).length : Int) : Int) ≤ ((l_4).length : Int)) && decide ((((l_4).length : Int) : Int) = ((l_4).length : Int))) = true,
    Runs Try.prog 18 [(.one (.pv (.ints .u8 (List.take (((l_4).length : Int) - ((l_).length : Int)).toNat (List.drop (0 + (((l_).length : Int)).toNat) l_4)) false)))] [] [] ([(.one (.ref 0 0))], [[(.pv (.ints .u8 (List.take (((l_4).length : Int) - ((l_).length : Int)).toNat (List.drop (0 + (((l_).length : Int)).toNat) l_4)) false)), (.pv (.int .i64 0))]], []),
    Runs Try.prog 25 [(.one (.pv .nilp)), (.one (.pv (.int .i64 9)))] [] [] ([], [], []),
    Runs Try.prog 34 [(.one (.pv (.int .u64 n)))] [] [] ([(.one (.own 0 0 (l_5).length false))], [], [(.ints .u8 l_5)]),
    Runs Try.prog 35 [(.one (.pv (.str (s.extract 0 ((if (200 : Int) < (s.size : Int) then 200 else (s.size : Int))).toNat))))] [] [] ([(.one (.own 0 0 (l_6).length false))], [], [(.ints .u8 l_6)]),
    Runs Try.prog 33 [(.one (.pv (.recs 1 [[(.ints .u8 (List.take (l_).length l_) false)], [(.ints .u8 (List.take (l_5).length l_5) false)], [(.ints .u8 (List.take (l_6).length l_6) false)]] true)))] [] [] ([(.one (.own 0 0 (l_7).length false))], [], [(.ints .u8 l_7)]),
    Runs Try.prog 15 [(.one (.bor (.ints .u8 (List.take (l_4).length l_4) false))), (.one (.bor (.ints .u8 (List.take (l_7).length l_7) false)))] [] [] ([(.one (.pv (.bool b2)))], [], []),
    b2 = false,
    false = false,
    false = false,
    false = false,
    false = false,
    false = false,
    false = false,
    false = false,
    false = false,
    false = false]) := by kernel_rfl
theorem kinfolklaw06_WireNums_p7 (front : List Int) (n : Int) (s : ByteArray) (b : Bool) : evFn Try.prog cfg (Runs Try.prog) (LRuns Try.prog (lEnv Try.prog cfg 8 0).nt 0) 8 [(.one (.pv (.ints .u8 front false))), (.one (.pv (.int .u64 n))), (.one (.pv (.str s)))] [] []
    [.res ([(.one (.pv (.bool b)))], [], []), .br true] =
  some (([(.one (.pv (.bool false)))], [], []), [
    Runs Try.prog 9 [] [] [] ([(.one (.pv (.bool b)))], [], []),
    (!b) = true]) := by kernel_rfl
noncomputable def kinfolklaw06_WireNums (N : Nat) (front : List Int) (n : Int) (s : ByteArray) : Option (Bool) :=
  (kinfolklaw06_awake).bind fun b =>
  bif b then
    bif decide ((0 : Int) ≤ 0) && decide ((0 : Int) ≤ (if (200 : Int) < (s.size : Int) then 200 else (s.size : Int))) && decide (((if (200 : Int) < (s.size : Int) then 200 else (s.size : Int)) : Int) ≤ (s.size : Int)) then
    (kinfolklaw06_cut front 30).bind fun l_ =>
    (kinfolklaw06_cut l_ 30).bind fun l_2 =>
    bif fits ((l_2 ++ [90])).length then
    bif decide ((0 : Int) ≤ 0) && decide ((0 : Int) ≤ ((l_).length : Int)) && decide ((((l_).length : Int) : Int) ≤ (((l_2 ++ [90])).length : Int)) && decide ((((l_).length : Int) : Int) = ((l_).length : Int)) then
    (wire_Num (List.take (((l_).length : Int) - 0).toNat (l_2 ++ [90])) n).bind fun l_3 =>
    (wire_Text l_3 (s.extract 0 ((if (200 : Int) < (s.size : Int) then 200 else (s.size : Int))).toNat)).bind fun l_4 =>
    bif decide ((0 : Int) ≤ ((l_).length : Int)) && decide ((((l_).length : Int) : Int) ≤ ((l_4).length : Int)) && decide ((((l_4).length : Int) : Int) ≤ ((l_4).length : Int)) && decide ((((l_4).length : Int) : Int) = ((l_4).length : Int)) then
    (wire_Of (List.take (((l_4).length : Int) - ((l_).length : Int)).toNat (List.drop (0 + (((l_).length : Int)).toNat) l_4))).bind fun _ =>
    (wire_In_Fail_2 9).bind fun _ =>
    (kinfolkref06_Num N n).bind fun l_5 =>
    (kinfolkref06_Text N (s.extract 0 ((if (200 : Int) < (s.size : Int) then 200 else (s.size : Int))).toNat)).bind fun l_6 =>
    (kinfolkref06_Join [(E_uint8.mk l_), (E_uint8.mk l_5), (E_uint8.mk l_6)]).bind fun l_7 =>
    (kinfolkref06_Same l_4 l_7).bind fun b2 =>
    bif b2 then
      bif decide ((0 : Int) ≤ ((l_).length : Int)) && decide ((((l_).length : Int) : Int) < (((List.take ((l_2 ++ [90])).length (l_2 ++ [90]))).length : Int)) then
      bif (decide ((((List.take ((l_2 ++ [90])).length (l_2 ++ [90])).getD (((l_).length : Int)).toNat 0) : Int) = 90)) then
        (wire_In_Num (List.take (((l_4).length : Int) - ((l_).length : Int)).toNat (List.drop (0 + (((l_).length : Int)).toNat) l_4)) 0).bind fun (n2, l_8, n3) =>
        bif (decide ((n2 : Int) = n)) then
          (wire_In_Text 200 l_8 n3).bind fun (s2, l_9, n4) =>
          bif (decide (s2 = (s.extract 0 ((if (200 : Int) < (s.size : Int) then 200 else (s.size : Int))).toNat))) then
            (wire_In_End l_9 n4).bind fun (n5, n6) =>
            bif (decide ((n5 : Int) = 0)) then
              (wire_In_Byte_2).bind fun _ =>
              (wire_In_Num_2).bind fun _ =>
              (wire_In_Text_2 5).bind fun s3 =>
              bif (decide (s3 = ⟨#[]⟩)) then
                (wire_In_Left_2).bind fun _ =>
                (wire_In_Err_2).bind fun _ =>
                (wire_In_End_2).bind fun _ =>
                some true
              else
                some false
            else
              some false
          else
            some false
        else
          some false
      else
        some false
      else none
    else
      some false
    else none
    else none
    else none
    else none
  else
    some false
theorem kinfolklaw06_WireNums_runs (N : Nat) (front : List Int) (n : Int) (s : ByteArray) (r_ : Bool) (h : kinfolklaw06_WireNums N front n s = some r_) : Runs Try.prog 8 [(.one (.pv (.ints .u8 front false))), (.one (.pv (.int .u64 n))), (.one (.pv (.str s)))] [] [] (kinfolklaw06_WireNums_out front n s r_) := by
  unfold kinfolklaw06_WireNums at h
  obtain ⟨b, h1, h⟩ := bind_of h
  rcases cond_of h with ⟨h2, h⟩ | ⟨h2, h⟩
  · obtain ⟨h3, h⟩ := need_of h
    obtain ⟨l_, h4, h⟩ := bind_of h
    obtain ⟨l_2, h5, h⟩ := bind_of h
    obtain ⟨h6, h⟩ := need_of h
    obtain ⟨h7, h⟩ := need_of h
    obtain ⟨l_3, h8, h⟩ := bind_of h
    obtain ⟨l_4, h9, h⟩ := bind_of h
    obtain ⟨h10, h⟩ := need_of h
    obtain ⟨_, h11, h⟩ := bind_of h
    obtain ⟨_, h12, h⟩ := bind_of h
    obtain ⟨l_5, h13, h⟩ := bind_of h
    obtain ⟨l_6, h14, h⟩ := bind_of h
    obtain ⟨l_7, h15, h⟩ := bind_of h
    obtain ⟨b2, h16, h⟩ := bind_of h
    rcases cond_of h with ⟨h17, h⟩ | ⟨h17, h⟩
    · obtain ⟨h18, h⟩ := need_of h
      rcases cond_of h with ⟨h19, h⟩ | ⟨h19, h⟩
      · obtain ⟨⟨n2, l_8, n3⟩, h20, h⟩ := bind_of h
        rcases cond_of h with ⟨h21, h⟩ | ⟨h21, h⟩
        · obtain ⟨⟨s2, l_9, n4⟩, h22, h⟩ := bind_of h
          rcases cond_of h with ⟨h23, h⟩ | ⟨h23, h⟩
          · obtain ⟨⟨n5, n6⟩, h24, h⟩ := bind_of h
            rcases cond_of h with ⟨h25, h⟩ | ⟨h25, h⟩
            · obtain ⟨_, h26, h⟩ := bind_of h
              obtain ⟨_, h27, h⟩ := bind_of h
              obtain ⟨s3, h28, h⟩ := bind_of h
              rcases cond_of h with ⟨h29, h⟩ | ⟨h29, h⟩
              · obtain ⟨_, h30, h⟩ := bind_of h
                obtain ⟨_, h31, h⟩ := bind_of h
                obtain ⟨_, h32, h⟩ := bind_of h
                have h := some_of h
                subst h
                have e_ := kinfolklaw06_WireNums_p0 front n s b l_ l_2 l_3 l_4 l_5 l_6 l_7 b2 n2 l_8 n3 s2 l_9 n4 n5 n6 s3
                have e_ := runs_of (objs := []) (Says.of e_ ⟨(kinfolklaw06_awake_runs _ h1), (not_of2 h2), h3, (kinfolklaw06_cut_runs front 30 _ h4), ((kinfolklaw06_cut_runs l_ 30 _ h5).coe ⟨.bor (.ints (by first | rfl | (simp only [List.take_length]; done) | (simp only [List.take_length, List.length_append, List.drop_zero, List.map_append, List.map_take, List.map_drop, List.map_cons, List.map_nil, List.append_nil, List.nil_append, E_uint8.pv, E_kinfolklaw06_Act.pv]; done) | (simp; done))), .eq rfl, trivial⟩ trivial trivial), (Nat.beq_refl _), h6, h7, (wire_Num_runs (List.take (((l_).length : Int) - 0).toNat (l_2 ++ [90])) n _ h8), ((wire_Text_runs l_3 (s.extract 0 ((if (200 : Int) < (s.size : Int) then 200 else (s.size : Int))).toNat) _ h9).coe ⟨.pv (.ints (by first | rfl | (simp only [List.take_length]; done) | (simp only [List.take_length, List.length_append, List.drop_zero, List.map_append, List.map_take, List.map_drop, List.map_cons, List.map_nil, List.append_nil, List.nil_append, E_uint8.pv, E_kinfolklaw06_Act.pv]; done) | (simp; done))), .eq rfl, trivial⟩ trivial trivial), h10, (wire_Of_runs (List.take (((l_4).length : Int) - ((l_).length : Int)).toNat (List.drop (0 + (((l_).length : Int)).toNat) l_4)) _ h11), (wire_In_Fail_2_runs 9 _ h12), (kinfolkref06_Num_runs N n _ h13), (kinfolkref06_Text_runs N (s.extract 0 ((if (200 : Int) < (s.size : Int) then 200 else (s.size : Int))).toNat) _ h14), ((kinfolkref06_Join_runs [(E_uint8.mk l_), (E_uint8.mk l_5), (E_uint8.mk l_6)] _ h15).coe ⟨.pv (.recs (.cons (.cons (.ints (by first | rfl | (simp only [List.take_length]; done) | (simp only [List.take_length, List.length_append, List.drop_zero, List.map_append, List.map_take, List.map_drop, List.map_cons, List.map_nil, List.append_nil, List.nil_append, E_uint8.pv, E_kinfolklaw06_Act.pv]; done) | (simp; done))) (.nil)) (.cons (.cons (.ints (by first | rfl | (simp only [List.take_length]; done) | (simp only [List.take_length, List.length_append, List.drop_zero, List.map_append, List.map_take, List.map_drop, List.map_cons, List.map_nil, List.append_nil, List.nil_append, E_uint8.pv, E_kinfolklaw06_Act.pv]; done) | (simp; done))) (.nil)) (.cons (.cons (.ints (by first | rfl | (simp only [List.take_length]; done) | (simp only [List.take_length, List.length_append, List.drop_zero, List.map_append, List.map_take, List.map_drop, List.map_cons, List.map_nil, List.append_nil, List.nil_append, E_uint8.pv, E_kinfolklaw06_Act.pv]; done) | (simp; done))) (.nil)) (.nil))))), trivial⟩ trivial trivial), ((kinfolkref06_Same_runs l_4 l_7 _ h16).coe ⟨.bor (.ints (by first | rfl | (simp only [List.take_length]; done) | (simp only [List.take_length, List.length_append, List.drop_zero, List.map_append, List.map_take, List.map_drop, List.map_cons, List.map_nil, List.append_nil, List.nil_append, E_uint8.pv, E_kinfolklaw06_Act.pv]; done) | (simp; done))), .bor (.ints (by first | rfl | (simp only [List.take_length]; done) | (simp only [List.take_length, List.length_append, List.drop_zero, List.map_append, List.map_take, List.map_drop, List.map_cons, List.map_nil, List.append_nil, List.nil_append, E_uint8.pv, E_kinfolklaw06_Act.pv]; done) | (simp; done))), trivial⟩ trivial trivial), h17, h18, h19, (wire_In_Num_runs (List.take (((l_4).length : Int) - ((l_).length : Int)).toNat (List.drop (0 + (((l_).length : Int)).toNat) l_4)) 0 _ h20), h21, (wire_In_Text_runs 200 l_8 n3 _ h22), h23, (wire_In_End_runs l_9 n4 _ h24), h25, (wire_In_Byte_2_runs _ h26), rfl, (wire_In_Num_2_runs _ h27), rfl, (wire_In_Text_2_runs 5 _ h28), h29, (wire_In_Left_2_runs _ h30), rfl, (wire_In_Err_2_runs _ h31), rfl, (wire_In_End_2_runs _ h32), trivial⟩)
                exact e_
              · have h := some_of h
                subst h
                have e_ := kinfolklaw06_WireNums_p1 front n s b l_ l_2 l_3 l_4 l_5 l_6 l_7 b2 n2 l_8 n3 s2 l_9 n4 n5 n6 s3
                have e_ := runs_of (objs := []) (Says.of e_ ⟨(kinfolklaw06_awake_runs _ h1), (not_of2 h2), h3, (kinfolklaw06_cut_runs front 30 _ h4), ((kinfolklaw06_cut_runs l_ 30 _ h5).coe ⟨.bor (.ints (by first | rfl | (simp only [List.take_length]; done) | (simp only [List.take_length, List.length_append, List.drop_zero, List.map_append, List.map_take, List.map_drop, List.map_cons, List.map_nil, List.append_nil, List.nil_append, E_uint8.pv, E_kinfolklaw06_Act.pv]; done) | (simp; done))), .eq rfl, trivial⟩ trivial trivial), (Nat.beq_refl _), h6, h7, (wire_Num_runs (List.take (((l_).length : Int) - 0).toNat (l_2 ++ [90])) n _ h8), ((wire_Text_runs l_3 (s.extract 0 ((if (200 : Int) < (s.size : Int) then 200 else (s.size : Int))).toNat) _ h9).coe ⟨.pv (.ints (by first | rfl | (simp only [List.take_length]; done) | (simp only [List.take_length, List.length_append, List.drop_zero, List.map_append, List.map_take, List.map_drop, List.map_cons, List.map_nil, List.append_nil, List.nil_append, E_uint8.pv, E_kinfolklaw06_Act.pv]; done) | (simp; done))), .eq rfl, trivial⟩ trivial trivial), h10, (wire_Of_runs (List.take (((l_4).length : Int) - ((l_).length : Int)).toNat (List.drop (0 + (((l_).length : Int)).toNat) l_4)) _ h11), (wire_In_Fail_2_runs 9 _ h12), (kinfolkref06_Num_runs N n _ h13), (kinfolkref06_Text_runs N (s.extract 0 ((if (200 : Int) < (s.size : Int) then 200 else (s.size : Int))).toNat) _ h14), ((kinfolkref06_Join_runs [(E_uint8.mk l_), (E_uint8.mk l_5), (E_uint8.mk l_6)] _ h15).coe ⟨.pv (.recs (.cons (.cons (.ints (by first | rfl | (simp only [List.take_length]; done) | (simp only [List.take_length, List.length_append, List.drop_zero, List.map_append, List.map_take, List.map_drop, List.map_cons, List.map_nil, List.append_nil, List.nil_append, E_uint8.pv, E_kinfolklaw06_Act.pv]; done) | (simp; done))) (.nil)) (.cons (.cons (.ints (by first | rfl | (simp only [List.take_length]; done) | (simp only [List.take_length, List.length_append, List.drop_zero, List.map_append, List.map_take, List.map_drop, List.map_cons, List.map_nil, List.append_nil, List.nil_append, E_uint8.pv, E_kinfolklaw06_Act.pv]; done) | (simp; done))) (.nil)) (.cons (.cons (.ints (by first | rfl | (simp only [List.take_length]; done) | (simp only [List.take_length, List.length_append, List.drop_zero, List.map_append, List.map_take, List.map_drop, List.map_cons, List.map_nil, List.append_nil, List.nil_append, E_uint8.pv, E_kinfolklaw06_Act.pv]; done) | (simp; done))) (.nil)) (.nil))))), trivial⟩ trivial trivial), ((kinfolkref06_Same_runs l_4 l_7 _ h16).coe ⟨.bor (.ints (by first | rfl | (simp only [List.take_length]; done) | (simp only [List.take_length, List.length_append, List.drop_zero, List.map_append, List.map_take, List.map_drop, List.map_cons, List.map_nil, List.append_nil, List.nil_append, E_uint8.pv, E_kinfolklaw06_Act.pv]; done) | (simp; done))), .bor (.ints (by first | rfl | (simp only [List.take_length]; done) | (simp only [List.take_length, List.length_append, List.drop_zero, List.map_append, List.map_take, List.map_drop, List.map_cons, List.map_nil, List.append_nil, List.nil_append, E_uint8.pv, E_kinfolklaw06_Act.pv]; done) | (simp; done))), trivial⟩ trivial trivial), h17, h18, h19, (wire_In_Num_runs (List.take (((l_4).length : Int) - ((l_).length : Int)).toNat (List.drop (0 + (((l_).length : Int)).toNat) l_4)) 0 _ h20), h21, (wire_In_Text_runs 200 l_8 n3 _ h22), h23, (wire_In_End_runs l_9 n4 _ h24), h25, (wire_In_Byte_2_runs _ h26), rfl, (wire_In_Num_2_runs _ h27), rfl, (wire_In_Text_2_runs 5 _ h28), h29, rfl, rfl, trivial⟩)
                exact e_
            · have h := some_of h
              subst h
              have e_ := kinfolklaw06_WireNums_p2 front n s b l_ l_2 l_3 l_4 l_5 l_6 l_7 b2 n2 l_8 n3 s2 l_9 n4 n5 n6
              have e_ := runs_of (objs := []) (Says.of e_ ⟨(kinfolklaw06_awake_runs _ h1), (not_of2 h2), h3, (kinfolklaw06_cut_runs front 30 _ h4), ((kinfolklaw06_cut_runs l_ 30 _ h5).coe ⟨.bor (.ints (by first | rfl | (simp only [List.take_length]; done) | (simp only [List.take_length, List.length_append, List.drop_zero, List.map_append, List.map_take, List.map_drop, List.map_cons, List.map_nil, List.append_nil, List.nil_append, E_uint8.pv, E_kinfolklaw06_Act.pv]; done) | (simp; done))), .eq rfl, trivial⟩ trivial trivial), (Nat.beq_refl _), h6, h7, (wire_Num_runs (List.take (((l_).length : Int) - 0).toNat (l_2 ++ [90])) n _ h8), ((wire_Text_runs l_3 (s.extract 0 ((if (200 : Int) < (s.size : Int) then 200 else (s.size : Int))).toNat) _ h9).coe ⟨.pv (.ints (by first | rfl | (simp only [List.take_length]; done) | (simp only [List.take_length, List.length_append, List.drop_zero, List.map_append, List.map_take, List.map_drop, List.map_cons, List.map_nil, List.append_nil, List.nil_append, E_uint8.pv, E_kinfolklaw06_Act.pv]; done) | (simp; done))), .eq rfl, trivial⟩ trivial trivial), h10, (wire_Of_runs (List.take (((l_4).length : Int) - ((l_).length : Int)).toNat (List.drop (0 + (((l_).length : Int)).toNat) l_4)) _ h11), (wire_In_Fail_2_runs 9 _ h12), (kinfolkref06_Num_runs N n _ h13), (kinfolkref06_Text_runs N (s.extract 0 ((if (200 : Int) < (s.size : Int) then 200 else (s.size : Int))).toNat) _ h14), ((kinfolkref06_Join_runs [(E_uint8.mk l_), (E_uint8.mk l_5), (E_uint8.mk l_6)] _ h15).coe ⟨.pv (.recs (.cons (.cons (.ints (by first | rfl | (simp only [List.take_length]; done) | (simp only [List.take_length, List.length_append, List.drop_zero, List.map_append, List.map_take, List.map_drop, List.map_cons, List.map_nil, List.append_nil, List.nil_append, E_uint8.pv, E_kinfolklaw06_Act.pv]; done) | (simp; done))) (.nil)) (.cons (.cons (.ints (by first | rfl | (simp only [List.take_length]; done) | (simp only [List.take_length, List.length_append, List.drop_zero, List.map_append, List.map_take, List.map_drop, List.map_cons, List.map_nil, List.append_nil, List.nil_append, E_uint8.pv, E_kinfolklaw06_Act.pv]; done) | (simp; done))) (.nil)) (.cons (.cons (.ints (by first | rfl | (simp only [List.take_length]; done) | (simp only [List.take_length, List.length_append, List.drop_zero, List.map_append, List.map_take, List.map_drop, List.map_cons, List.map_nil, List.append_nil, List.nil_append, E_uint8.pv, E_kinfolklaw06_Act.pv]; done) | (simp; done))) (.nil)) (.nil))))), trivial⟩ trivial trivial), ((kinfolkref06_Same_runs l_4 l_7 _ h16).coe ⟨.bor (.ints (by first | rfl | (simp only [List.take_length]; done) | (simp only [List.take_length, List.length_append, List.drop_zero, List.map_append, List.map_take, List.map_drop, List.map_cons, List.map_nil, List.append_nil, List.nil_append, E_uint8.pv, E_kinfolklaw06_Act.pv]; done) | (simp; done))), .bor (.ints (by first | rfl | (simp only [List.take_length]; done) | (simp only [List.take_length, List.length_append, List.drop_zero, List.map_append, List.map_take, List.map_drop, List.map_cons, List.map_nil, List.append_nil, List.nil_append, E_uint8.pv, E_kinfolklaw06_Act.pv]; done) | (simp; done))), trivial⟩ trivial trivial), h17, h18, h19, (wire_In_Num_runs (List.take (((l_4).length : Int) - ((l_).length : Int)).toNat (List.drop (0 + (((l_).length : Int)).toNat) l_4)) 0 _ h20), h21, (wire_In_Text_runs 200 l_8 n3 _ h22), h23, (wire_In_End_runs l_9 n4 _ h24), h25, rfl, rfl, rfl, rfl, rfl, trivial⟩)
              exact e_
          · have h := some_of h
            subst h
            have e_ := kinfolklaw06_WireNums_p3 front n s b l_ l_2 l_3 l_4 l_5 l_6 l_7 b2 n2 l_8 n3 s2 l_9 n4
            have e_ := runs_of (objs := []) (Says.of e_ ⟨(kinfolklaw06_awake_runs _ h1), (not_of2 h2), h3, (kinfolklaw06_cut_runs front 30 _ h4), ((kinfolklaw06_cut_runs l_ 30 _ h5).coe ⟨.bor (.ints (by first | rfl | (simp only [List.take_length]; done) | (simp only [List.take_length, List.length_append, List.drop_zero, List.map_append, List.map_take, List.map_drop, List.map_cons, List.map_nil, List.append_nil, List.nil_append, E_uint8.pv, E_kinfolklaw06_Act.pv]; done) | (simp; done))), .eq rfl, trivial⟩ trivial trivial), (Nat.beq_refl _), h6, h7, (wire_Num_runs (List.take (((l_).length : Int) - 0).toNat (l_2 ++ [90])) n _ h8), ((wire_Text_runs l_3 (s.extract 0 ((if (200 : Int) < (s.size : Int) then 200 else (s.size : Int))).toNat) _ h9).coe ⟨.pv (.ints (by first | rfl | (simp only [List.take_length]; done) | (simp only [List.take_length, List.length_append, List.drop_zero, List.map_append, List.map_take, List.map_drop, List.map_cons, List.map_nil, List.append_nil, List.nil_append, E_uint8.pv, E_kinfolklaw06_Act.pv]; done) | (simp; done))), .eq rfl, trivial⟩ trivial trivial), h10, (wire_Of_runs (List.take (((l_4).length : Int) - ((l_).length : Int)).toNat (List.drop (0 + (((l_).length : Int)).toNat) l_4)) _ h11), (wire_In_Fail_2_runs 9 _ h12), (kinfolkref06_Num_runs N n _ h13), (kinfolkref06_Text_runs N (s.extract 0 ((if (200 : Int) < (s.size : Int) then 200 else (s.size : Int))).toNat) _ h14), ((kinfolkref06_Join_runs [(E_uint8.mk l_), (E_uint8.mk l_5), (E_uint8.mk l_6)] _ h15).coe ⟨.pv (.recs (.cons (.cons (.ints (by first | rfl | (simp only [List.take_length]; done) | (simp only [List.take_length, List.length_append, List.drop_zero, List.map_append, List.map_take, List.map_drop, List.map_cons, List.map_nil, List.append_nil, List.nil_append, E_uint8.pv, E_kinfolklaw06_Act.pv]; done) | (simp; done))) (.nil)) (.cons (.cons (.ints (by first | rfl | (simp only [List.take_length]; done) | (simp only [List.take_length, List.length_append, List.drop_zero, List.map_append, List.map_take, List.map_drop, List.map_cons, List.map_nil, List.append_nil, List.nil_append, E_uint8.pv, E_kinfolklaw06_Act.pv]; done) | (simp; done))) (.nil)) (.cons (.cons (.ints (by first | rfl | (simp only [List.take_length]; done) | (simp only [List.take_length, List.length_append, List.drop_zero, List.map_append, List.map_take, List.map_drop, List.map_cons, List.map_nil, List.append_nil, List.nil_append, E_uint8.pv, E_kinfolklaw06_Act.pv]; done) | (simp; done))) (.nil)) (.nil))))), trivial⟩ trivial trivial), ((kinfolkref06_Same_runs l_4 l_7 _ h16).coe ⟨.bor (.ints (by first | rfl | (simp only [List.take_length]; done) | (simp only [List.take_length, List.length_append, List.drop_zero, List.map_append, List.map_take, List.map_drop, List.map_cons, List.map_nil, List.append_nil, List.nil_append, E_uint8.pv, E_kinfolklaw06_Act.pv]; done) | (simp; done))), .bor (.ints (by first | rfl | (simp only [List.take_length]; done) | (simp only [List.take_length, List.length_append, List.drop_zero, List.map_append, List.map_take, List.map_drop, List.map_cons, List.map_nil, List.append_nil, List.nil_append, E_uint8.pv, E_kinfolklaw06_Act.pv]; done) | (simp; done))), trivial⟩ trivial trivial), h17, h18, h19, (wire_In_Num_runs (List.take (((l_4).length : Int) - ((l_).length : Int)).toNat (List.drop (0 + (((l_).length : Int)).toNat) l_4)) 0 _ h20), h21, (wire_In_Text_runs 200 l_8 n3 _ h22), h23, rfl, rfl, rfl, rfl, rfl, rfl, trivial⟩)
            exact e_
        · have h := some_of h
          subst h
          have e_ := kinfolklaw06_WireNums_p4 front n s b l_ l_2 l_3 l_4 l_5 l_6 l_7 b2 n2 l_8 n3
          have e_ := runs_of (objs := []) (Says.of e_ ⟨(kinfolklaw06_awake_runs _ h1), (not_of2 h2), h3, (kinfolklaw06_cut_runs front 30 _ h4), ((kinfolklaw06_cut_runs l_ 30 _ h5).coe ⟨.bor (.ints (by first | rfl | (simp only [List.take_length]; done) | (simp only [List.take_length, List.length_append, List.drop_zero, List.map_append, List.map_take, List.map_drop, List.map_cons, List.map_nil, List.append_nil, List.nil_append, E_uint8.pv, E_kinfolklaw06_Act.pv]; done) | (simp; done))), .eq rfl, trivial⟩ trivial trivial), (Nat.beq_refl _), h6, h7, (wire_Num_runs (List.take (((l_).length : Int) - 0).toNat (l_2 ++ [90])) n _ h8), ((wire_Text_runs l_3 (s.extract 0 ((if (200 : Int) < (s.size : Int) then 200 else (s.size : Int))).toNat) _ h9).coe ⟨.pv (.ints (by first | rfl | (simp only [List.take_length]; done) | (simp only [List.take_length, List.length_append, List.drop_zero, List.map_append, List.map_take, List.map_drop, List.map_cons, List.map_nil, List.append_nil, List.nil_append, E_uint8.pv, E_kinfolklaw06_Act.pv]; done) | (simp; done))), .eq rfl, trivial⟩ trivial trivial), h10, (wire_Of_runs (List.take (((l_4).length : Int) - ((l_).length : Int)).toNat (List.drop (0 + (((l_).length : Int)).toNat) l_4)) _ h11), (wire_In_Fail_2_runs 9 _ h12), (kinfolkref06_Num_runs N n _ h13), (kinfolkref06_Text_runs N (s.extract 0 ((if (200 : Int) < (s.size : Int) then 200 else (s.size : Int))).toNat) _ h14), ((kinfolkref06_Join_runs [(E_uint8.mk l_), (E_uint8.mk l_5), (E_uint8.mk l_6)] _ h15).coe ⟨.pv (.recs (.cons (.cons (.ints (by first | rfl | (simp only [List.take_length]; done) | (simp only [List.take_length, List.length_append, List.drop_zero, List.map_append, List.map_take, List.map_drop, List.map_cons, List.map_nil, List.append_nil, List.nil_append, E_uint8.pv, E_kinfolklaw06_Act.pv]; done) | (simp; done))) (.nil)) (.cons (.cons (.ints (by first | rfl | (simp only [List.take_length]; done) | (simp only [List.take_length, List.length_append, List.drop_zero, List.map_append, List.map_take, List.map_drop, List.map_cons, List.map_nil, List.append_nil, List.nil_append, E_uint8.pv, E_kinfolklaw06_Act.pv]; done) | (simp; done))) (.nil)) (.cons (.cons (.ints (by first | rfl | (simp only [List.take_length]; done) | (simp only [List.take_length, List.length_append, List.drop_zero, List.map_append, List.map_take, List.map_drop, List.map_cons, List.map_nil, List.append_nil, List.nil_append, E_uint8.pv, E_kinfolklaw06_Act.pv]; done) | (simp; done))) (.nil)) (.nil))))), trivial⟩ trivial trivial), ((kinfolkref06_Same_runs l_4 l_7 _ h16).coe ⟨.bor (.ints (by first | rfl | (simp only [List.take_length]; done) | (simp only [List.take_length, List.length_append, List.drop_zero, List.map_append, List.map_take, List.map_drop, List.map_cons, List.map_nil, List.append_nil, List.nil_append, E_uint8.pv, E_kinfolklaw06_Act.pv]; done) | (simp; done))), .bor (.ints (by first | rfl | (simp only [List.take_length]; done) | (simp only [List.take_length, List.length_append, List.drop_zero, List.map_append, List.map_take, List.map_drop, List.map_cons, List.map_nil, List.append_nil, List.nil_append, E_uint8.pv, E_kinfolklaw06_Act.pv]; done) | (simp; done))), trivial⟩ trivial trivial), h17, h18, h19, (wire_In_Num_runs (List.take (((l_4).length : Int) - ((l_).length : Int)).toNat (List.drop (0 + (((l_).length : Int)).toNat) l_4)) 0 _ h20), h21, rfl, rfl, rfl, rfl, rfl, rfl, rfl, trivial⟩)
          exact e_
      · have h := some_of h
        subst h
        have e_ := kinfolklaw06_WireNums_p5 front n s b l_ l_2 l_3 l_4 l_5 l_6 l_7 b2
        have e_ := runs_of (objs := []) (Says.of e_ ⟨(kinfolklaw06_awake_runs _ h1), (not_of2 h2), h3, (kinfolklaw06_cut_runs front 30 _ h4), ((kinfolklaw06_cut_runs l_ 30 _ h5).coe ⟨.bor (.ints (by first | rfl | (simp only [List.take_length]; done) | (simp only [List.take_length, List.length_append, List.drop_zero, List.map_append, List.map_take, List.map_drop, List.map_cons, List.map_nil, List.append_nil, List.nil_append, E_uint8.pv, E_kinfolklaw06_Act.pv]; done) | (simp; done))), .eq rfl, trivial⟩ trivial trivial), (Nat.beq_refl _), h6, h7, (wire_Num_runs (List.take (((l_).length : Int) - 0).toNat (l_2 ++ [90])) n _ h8), ((wire_Text_runs l_3 (s.extract 0 ((if (200 : Int) < (s.size : Int) then 200 else (s.size : Int))).toNat) _ h9).coe ⟨.pv (.ints (by first | rfl | (simp only [List.take_length]; done) | (simp only [List.take_length, List.length_append, List.drop_zero, List.map_append, List.map_take, List.map_drop, List.map_cons, List.map_nil, List.append_nil, List.nil_append, E_uint8.pv, E_kinfolklaw06_Act.pv]; done) | (simp; done))), .eq rfl, trivial⟩ trivial trivial), h10, (wire_Of_runs (List.take (((l_4).length : Int) - ((l_).length : Int)).toNat (List.drop (0 + (((l_).length : Int)).toNat) l_4)) _ h11), (wire_In_Fail_2_runs 9 _ h12), (kinfolkref06_Num_runs N n _ h13), (kinfolkref06_Text_runs N (s.extract 0 ((if (200 : Int) < (s.size : Int) then 200 else (s.size : Int))).toNat) _ h14), ((kinfolkref06_Join_runs [(E_uint8.mk l_), (E_uint8.mk l_5), (E_uint8.mk l_6)] _ h15).coe ⟨.pv (.recs (.cons (.cons (.ints (by first | rfl | (simp only [List.take_length]; done) | (simp only [List.take_length, List.length_append, List.drop_zero, List.map_append, List.map_take, List.map_drop, List.map_cons, List.map_nil, List.append_nil, List.nil_append, E_uint8.pv, E_kinfolklaw06_Act.pv]; done) | (simp; done))) (.nil)) (.cons (.cons (.ints (by first | rfl | (simp only [List.take_length]; done) | (simp only [List.take_length, List.length_append, List.drop_zero, List.map_append, List.map_take, List.map_drop, List.map_cons, List.map_nil, List.append_nil, List.nil_append, E_uint8.pv, E_kinfolklaw06_Act.pv]; done) | (simp; done))) (.nil)) (.cons (.cons (.ints (by first | rfl | (simp only [List.take_length]; done) | (simp only [List.take_length, List.length_append, List.drop_zero, List.map_append, List.map_take, List.map_drop, List.map_cons, List.map_nil, List.append_nil, List.nil_append, E_uint8.pv, E_kinfolklaw06_Act.pv]; done) | (simp; done))) (.nil)) (.nil))))), trivial⟩ trivial trivial), ((kinfolkref06_Same_runs l_4 l_7 _ h16).coe ⟨.bor (.ints (by first | rfl | (simp only [List.take_length]; done) | (simp only [List.take_length, List.length_append, List.drop_zero, List.map_append, List.map_take, List.map_drop, List.map_cons, List.map_nil, List.append_nil, List.nil_append, E_uint8.pv, E_kinfolklaw06_Act.pv]; done) | (simp; done))), .bor (.ints (by first | rfl | (simp only [List.take_length]; done) | (simp only [List.take_length, List.length_append, List.drop_zero, List.map_append, List.map_take, List.map_drop, List.map_cons, List.map_nil, List.append_nil, List.nil_append, E_uint8.pv, E_kinfolklaw06_Act.pv]; done) | (simp; done))), trivial⟩ trivial trivial), h17, h18, h19, rfl, rfl, rfl, rfl, rfl, rfl, rfl, rfl, trivial⟩)
        exact e_
    · have h := some_of h
      subst h
      have e_ := kinfolklaw06_WireNums_p6 front n s b l_ l_2 l_3 l_4 l_5 l_6 l_7 b2
      have e_ := runs_of (objs := []) (Says.of e_ ⟨(kinfolklaw06_awake_runs _ h1), (not_of2 h2), h3, (kinfolklaw06_cut_runs front 30 _ h4), ((kinfolklaw06_cut_runs l_ 30 _ h5).coe ⟨.bor (.ints (by first | rfl | (simp only [List.take_length]; done) | (simp only [List.take_length, List.length_append, List.drop_zero, List.map_append, List.map_take, List.map_drop, List.map_cons, List.map_nil, List.append_nil, List.nil_append, E_uint8.pv, E_kinfolklaw06_Act.pv]; done) | (simp; done))), .eq rfl, trivial⟩ trivial trivial), (Nat.beq_refl _), h6, h7, (wire_Num_runs (List.take (((l_).length : Int) - 0).toNat (l_2 ++ [90])) n _ h8), ((wire_Text_runs l_3 (s.extract 0 ((if (200 : Int) < (s.size : Int) then 200 else (s.size : Int))).toNat) _ h9).coe ⟨.pv (.ints (by first | rfl | (simp only [List.take_length]; done) | (simp only [List.take_length, List.length_append, List.drop_zero, List.map_append, List.map_take, List.map_drop, List.map_cons, List.map_nil, List.append_nil, List.nil_append, E_uint8.pv, E_kinfolklaw06_Act.pv]; done) | (simp; done))), .eq rfl, trivial⟩ trivial trivial), h10, (wire_Of_runs (List.take (((l_4).length : Int) - ((l_).length : Int)).toNat (List.drop (0 + (((l_).length : Int)).toNat) l_4)) _ h11), (wire_In_Fail_2_runs 9 _ h12), (kinfolkref06_Num_runs N n _ h13), (kinfolkref06_Text_runs N (s.extract 0 ((if (200 : Int) < (s.size : Int) then 200 else (s.size : Int))).toNat) _ h14), ((kinfolkref06_Join_runs [(E_uint8.mk l_), (E_uint8.mk l_5), (E_uint8.mk l_6)] _ h15).coe ⟨.pv (.recs (.cons (.cons (.ints (by first | rfl | (simp only [List.take_length]; done) | (simp only [List.take_length, List.length_append, List.drop_zero, List.map_append, List.map_take, List.map_drop, List.map_cons, List.map_nil, List.append_nil, List.nil_append, E_uint8.pv, E_kinfolklaw06_Act.pv]; done) | (simp; done))) (.nil)) (.cons (.cons (.ints (by first | rfl | (simp only [List.take_length]; done) | (simp only [List.take_length, List.length_append, List.drop_zero, List.map_append, List.map_take, List.map_drop, List.map_cons, List.map_nil, List.append_nil, List.nil_append, E_uint8.pv, E_kinfolklaw06_Act.pv]; done) | (simp; done))) (.nil)) (.cons (.cons (.ints (by first | rfl | (simp only [List.take_length]; done) | (simp only [List.take_length, List.length_append, List.drop_zero, List.map_append, List.map_take, List.map_drop, List.map_cons, List.map_nil, List.append_nil, List.nil_append, E_uint8.pv, E_kinfolklaw06_Act.pv]; done) | (simp; done))) (.nil)) (.nil))))), trivial⟩ trivial trivial), ((kinfolkref06_Same_runs l_4 l_7 _ h16).coe ⟨.bor (.ints (by first | rfl | (simp only [List.take_length]; done) | (simp only [List.take_length, List.length_append, List.drop_zero, List.map_append, List.map_take, List.map_drop, List.map_cons, List.map_nil, List.append_nil, List.nil_append, E_uint8.pv, E_kinfolklaw06_Act.pv]; done) | (simp; done))), .bor (.ints (by first | rfl | (simp only [List.take_length]; done) | (simp only [List.take_length, List.length_append, List.drop_zero, List.map_append, List.map_take, List.map_drop, List.map_cons, List.map_nil, List.append_nil, List.nil_append, E_uint8.pv, E_kinfolklaw06_Act.pv]; done) | (simp; done))), trivial⟩ trivial trivial), h17, rfl, rfl, rfl, rfl, rfl, rfl, rfl, rfl, rfl, trivial⟩)
      exact e_
  · have h := some_of h
    subst h
    have e_ := kinfolklaw06_WireNums_p7 front n s b
    have e_ := runs_of (objs := []) (Says.of e_ ⟨(kinfolklaw06_awake_runs _ h1), (not_of h2), trivial⟩)
    exact e_

end Go.Proofs.Ytecblpgljmbpeaa
