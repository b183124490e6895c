/- What functions compute, and that they do. -/
import Derived.Test.YtjjakdmcnkldoaaA1
set_option linter.unusedVariables false
set_option linter.unusedSimpArgs false
namespace Go.Proofs.Ytjjakdmcnkldoaa
open Go.Ev

/-! ### code_PutEvent_L0 -/
def code_PutEvent_L0_st (r : List E_event_Event) : Int × Int × List Int → St
  | (n2, n, l) => ⟨[(0, (.av (.one (.ref 0 0)))), (75, (.av (.one (.own 1 0 ((List.map E_event_Event.pv r)).length true)))), (76, (.av (.one (.pv (.int .i64 2))))), (77, (.av (.one (.pv (.int .i64 n2)))))], [(0, [(.own 0 0 (l).length false), (.pv (.int .i64 n))])], [(0, (.live (.ints .u8 l))), (1, (.live (.recs 2 (List.map E_event_Event.pv r))))]⟩
def code_PutEvent_L0_ex (r : List E_event_Event) : Int × List Int → Ex × St
  | (r1, r2) => ((.exit 1), ⟨[], [(0, [(.own 0 0 (r2).length false), (.pv (.int .i64 r1))])], [(0, (.live (.ints .u8 r2))), (1, (.live (.recs 2 (List.map E_event_Event.pv r))))]⟩)
theorem code_PutEvent_L0_q0_0 (r : List E_event_Event) (n2 : Int) (n : Int) (l : List Int) (n3 : Int) (t : T_event_halves) (b : Bool) : evRound (lEnv Try.prog cfg 16 1) (loopAt Try.prog 16 0) ⟨[(0, (.av (.one (.ref 0 0)))), (75, (.av (.one (.own 1 0 ((List.map E_event_Event.pv r)).length true)))), (76, (.av (.one (.pv (.int .i64 2))))), (77, (.av (.one (.pv (.int .i64 n2)))))], [(0, [(.own 0 0 (l).length false), (.pv (.int .i64 n))])], [(0, (.live (.ints .u8 l))), (1, (.live (.recs 2 (List.map E_event_Event.pv r))))]⟩
    [.br true, .el [(.int .u64 n3), (T_event_halves.pv t)], .res ([(.one (.pv (.bool b)))], [], []), .br false] =
  some ((.normal, ⟨[(0, (.av (.one (.ref 0 0)))), (75, (.av (.one (.own 1 0 ((List.map E_event_Event.pv r)).length true)))), (76, (.av (.one (.pv (.int .i64 2))))), (77, (.av (.one (.pv (.int .i64 (iadd .i64 n2 1))))))], [(0, [(.own 0 0 (l).length false), (.pv (.int .i64 n))])], [(0, (.live (.ints .u8 l))), (1, (.live (.recs 2 (List.map E_event_Event.pv r))))]⟩), obs [
    (decide ((n2 : Int) < 2)) = true,
    (decide ((0 : Int) ≤ n2) && decide ((n2 : Int) < (((List.map E_event_Event.pv r)).length : Int))) = true,
    (List.map E_event_Event.pv r).getD (0 + (n2).toNat) [] = [(.int .u64 n3), (T_event_halves.pv t)],
    Runs Try.prog 44 [(.agg [(.pv (.int .u64 n3)), (.pv (T_event_halves.pv t))])] [] [] ([(.one (.pv (.bool b)))], [], []),
    (!b) = false]) := by kernel_rfl
theorem code_PutEvent_L0_q0_1 (r : List E_event_Event) (n2 : Int) (n : Int) (l : List Int) (n3 : Int) (t : T_event_halves) (b : Bool) (n4 : Int) (l_ : List Int) : evRound (lEnv Try.prog cfg 16 1) (loopAt Try.prog 16 0) ⟨[(0, (.av (.one (.ref 0 0)))), (75, (.av (.one (.own 1 0 ((List.map E_event_Event.pv r)).length true)))), (76, (.av (.one (.pv (.int .i64 2))))), (77, (.av (.one (.pv (.int .i64 n2)))))], [(0, [(.own 0 0 (l).length false), (.pv (.int .i64 n))])], [(0, (.live (.ints .u8 l))), (1, (.live (.recs 2 (List.map E_event_Event.pv r))))]⟩
    [.br true, .el [(.int .u64 n3), (T_event_halves.pv t)], .res ([(.one (.pv (.bool b)))], [], []), .br true, .res ([], [[(.own 0 0 (l_).length false), (.pv (.int .i64 n4))]], [(.ints .u8 l_)])] =
  some ((.normal, ⟨[(0, (.av (.one (.ref 0 0)))), (75, (.av (.one (.own 1 0 ((List.map E_event_Event.pv r)).length true)))), (76, (.av (.one (.pv (.int .i64 2))))), (77, (.av (.one (.pv (.int .i64 (iadd .i64 n2 1))))))], [(0, [(.own 0 0 (l_).length false), (.pv (.int .i64 n4))])], [(0, (.live (.ints .u8 l_))), (1, (.live (.recs 2 (List.map E_event_Event.pv r))))]⟩), obs [
    (decide ((n2 : Int) < 2)) = true,
    (decide ((0 : Int) ≤ n2) && decide ((n2 : Int) < (((List.map E_event_Event.pv r)).length : Int))) = true,
    (List.map E_event_Event.pv r).getD (0 + (n2).toNat) [] = [(.int .u64 n3), (T_event_halves.pv t)],
    Runs Try.prog 44 [(.agg [(.pv (.int .u64 n3)), (.pv (T_event_halves.pv t))])] [] [] ([(.one (.pv (.bool b)))], [], []),
    (!b) = true,
    Runs Try.prog 16 [(.one (.ref 0 0)), (.agg [(.pv (.int .u64 n3)), (.pv (T_event_halves.pv t))])] [[(.own 0 0 (l).length false), (.pv (.int .i64 n))]] [(.ints .u8 l)] ([], [[(.own 0 0 (l_).length false), (.pv (.int .i64 n4))]], [(.ints .u8 l_)])]) := by kernel_rfl
theorem code_PutEvent_L0_q0_2 (r : List E_event_Event) (n2 : Int) (n : Int) (l : List Int) : evRound (lEnv Try.prog cfg 16 1) (loopAt Try.prog 16 0) ⟨[(0, (.av (.one (.ref 0 0)))), (75, (.av (.one (.own 1 0 ((List.map E_event_Event.pv r)).length true)))), (76, (.av (.one (.pv (.int .i64 2))))), (77, (.av (.one (.pv (.int .i64 n2)))))], [(0, [(.own 0 0 (l).length false), (.pv (.int .i64 n))])], [(0, (.live (.ints .u8 l))), (1, (.live (.recs 2 (List.map E_event_Event.pv r))))]⟩
    [.br false] =
  some (((.exit 1), ⟨[(78, (.av (.one (.pv (.bool false))))), (0, (.av (.one (.ref 0 0)))), (75, (.av (.one (.own 1 0 ((List.map E_event_Event.pv r)).length true)))), (76, (.av (.one (.pv (.int .i64 2))))), (77, (.av (.one (.pv (.int .i64 n2))))), (78, (.av (.one (.pv (.bool (decide ((n2 : Int) < 2)))))))], [(0, [(.own 0 0 (l).length false), (.pv (.int .i64 n))])], [(0, (.live (.ints .u8 l))), (1, (.live (.recs 2 (List.map E_event_Event.pv r))))]⟩), obs [
    (decide ((n2 : Int) < 2)) = false]) := by kernel_rfl
noncomputable def code_PutEvent_L0_step (rec_code_PutEvent : Int → T_event_halves → Int → List Int → Option (Int × List Int)) (r : List E_event_Event) : Int × Int × List Int → Option ((Int × Int × List Int) ⊕ (Int × List Int))
  | (n2, n, l) =>
  bif (decide ((n2 : Int) < 2)) then
    bif decide ((0 : Int) ≤ n2) && decide ((n2 : Int) < (((List.map E_event_Event.pv r)).length : Int)) then
    (r[(0 + (n2).toNat)]?).bind fun e_ => match e_ with
    | .mk n3 t =>
    (code_zero n3 t).bind fun b =>
    bif b then
      some (.inl ((iadd .i64 n2 1), n, l))
    else
      (rec_code_PutEvent n3 t n l).bind fun (n4, l_) =>
      some (.inl ((iadd .i64 n2 1), n4, l_))
    else none
  else
    some (.inr (n, l))
theorem code_PutEvent_L0_ok (rec_code_PutEvent : Int → T_event_halves → Int → List Int → Option (Int × List Int)) (hrec_code_PutEvent : ∀ e e2 n l r_, rec_code_PutEvent e e2 n l = some r_ → Runs Try.prog 16 [(.one (.ref 0 0)), (.agg [(.pv (.int .u64 e)), (.pv (T_event_halves.pv e2))])] [[(.own 0 0 (l).length false), (.pv (.int .i64 n))]] [(.ints .u8 l)] (code_PutEvent_out e e2 n l r_)) (r : List E_event_Event) (s_ : Int × Int × List Int) (z_ : (Int × Int × List Int) ⊕ (Int × List Int)) (h : code_PutEvent_L0_step rec_code_PutEvent r s_ = some z_) : RoundOk Try.prog cfg 16 1 (loopAt Try.prog 16 0) (code_PutEvent_L0_st r) (code_PutEvent_L0_ex r) s_ z_ := by
  rcases s_ with ⟨n2, n, l⟩
  rcases cond_of h with ⟨h1, h⟩ | ⟨h1, h⟩
  · obtain ⟨h2, h⟩ := need_of h
    obtain ⟨⟨n3, t⟩, h3, h⟩ := bind_of h
    obtain ⟨b, h4, h⟩ := bind_of h
    rcases cond_of h with ⟨h5, h⟩ | ⟨h5, h⟩
    · have h := some_of h
      subst h
      have e_ := code_PutEvent_L0_q0_0 r n2 n l n3 t b
      have e_ := Says.of e_ ⟨h1, h2, (el_of h3), (code_zero_runs n3 t _ h4), (not_of2 h5), trivial⟩
      exact ⟨_, _, e_, ⟨⟨⟨_, rfl, .eq rfl⟩, ⟨_, rfl, .eq rfl⟩, ⟨_, rfl, .eq rfl⟩, ⟨_, rfl, .eq rfl⟩, trivial⟩, ⟨⟨rfl, ⟨.eq rfl, .eq rfl, trivial⟩⟩, trivial⟩, ⟨⟨rfl, .eq rfl⟩, ⟨rfl, .eq rfl⟩, trivial⟩⟩⟩
    · obtain ⟨⟨n4, l_⟩, h6, h⟩ := bind_of h
      have h := some_of h
      subst h
      have e_ := code_PutEvent_L0_q0_1 r n2 n l n3 t b n4 l_
      have e_ := Says.of e_ ⟨h1, h2, (el_of h3), (code_zero_runs n3 t _ h4), (not_of h5), (hrec_code_PutEvent n3 t n l _ h6), trivial⟩
      exact ⟨_, _, e_, ⟨⟨⟨_, rfl, .eq rfl⟩, ⟨_, rfl, .eq rfl⟩, ⟨_, rfl, .eq rfl⟩, ⟨_, rfl, .eq rfl⟩, trivial⟩, ⟨⟨rfl, ⟨.eq rfl, .eq rfl, trivial⟩⟩, trivial⟩, ⟨⟨rfl, .eq rfl⟩, ⟨rfl, .eq rfl⟩, trivial⟩⟩⟩
  · have h := some_of h
    subst h
    have e_ := code_PutEvent_L0_q0_2 r n2 n l
    have e_ := Says.of e_ ⟨h1, trivial⟩
    exact ⟨_, _, e_, ⟨trivial, ⟨⟨rfl, ⟨.eq rfl, .eq rfl, trivial⟩⟩, trivial⟩, ⟨⟨rfl, .eq rfl⟩, ⟨rfl, .eq rfl⟩, trivial⟩⟩⟩
theorem code_PutEvent_L0_runs (rec_code_PutEvent : Int → T_event_halves → Int → List Int → Option (Int × List Int)) (hrec_code_PutEvent : ∀ e e2 n l r_, rec_code_PutEvent e e2 n l = some r_ → Runs Try.prog 16 [(.one (.ref 0 0)), (.agg [(.pv (.int .u64 e)), (.pv (T_event_halves.pv e2))])] [[(.own 0 0 (l).length false), (.pv (.int .i64 n))]] [(.ints .u8 l)] (code_PutEvent_out e e2 n l r_)) (r : List E_event_Event) (s_ : Int × Int × List Int) (r_ : Int × List Int) (h : runL (code_PutEvent_L0_step rec_code_PutEvent r) s_ = some r_) : LRuns Try.prog (lEnv Try.prog cfg 16 1).nt 1 (.loop (loopAt Try.prog 16 0)) (code_PutEvent_L0_st r s_) (code_PutEvent_L0_ex r r_).1 (code_PutEvent_L0_ex r r_).2 :=
  loop_run h (code_PutEvent_L0_ok rec_code_PutEvent hrec_code_PutEvent r) (by intro r_; rcases r_ with ⟨r1, r2⟩ <;> simp [code_PutEvent_L0_ex])

end Go.Proofs.Ytjjakdmcnkldoaa
