/- What functions compute, and that they do. -/
import Derived.Test.YtjjakdmcnkldoaaA6
set_option linter.unusedVariables false
set_option linter.unusedSimpArgs false
namespace Go.Proofs.Ytjjakdmcnkldoaa
open Go.Ev

/-! ### kinfolkref05_Put -/
noncomputable def kinfolkref05_Put (l : List Bool) (n : Int) (k : Int) : Option (List Bool) :=
  (runL (kinfolkref05_Put_L0_2_step l k) (n, 0, [])).bind fun l_ =>
  bif Nat.beq (l).length 0 then
    bif fits (([] ++ (List.take (l_).length l_))).length then
    some ([] ++ l_)
    else none
  else
    bif fits (([] ++ l)).length then
    bif fits ((([] ++ l) ++ (List.take (l_).length l_))).length then
    some (([] ++ l) ++ l_)
    else none
    else none
theorem kinfolkref05_Put_runs (l : List Bool) (n : Int) (k : Int) (r_ : List Bool) (h : kinfolkref05_Put l n k = some r_) : Runs Try.prog 60 [(.one (.pv (.bools l false))), (.one (.pv (.int .u64 n))), (.one (.pv (.int .i64 k)))] [] [] (kinfolkref05_Put_out l n k r_) := by
  unfold kinfolkref05_Put at h
  obtain ⟨l_, h1, h⟩ := bind_of h
  rcases cond_of h with ⟨h2, h⟩ | ⟨h2, h⟩
  · obtain ⟨h3, h⟩ := need_of h
    have h := some_of h
    subst h
    have e_ : Runs Try.prog 60 [(.one (.pv (.bools l false))), (.one (.pv (.int .u64 n))), (.one (.pv (.int .i64 k)))] [] [] ([(.one (.own 0 0 (([] ++ (List.take (l_).length l_))).length false))], [], [(.bools ([] ++ (List.take (l_).length l_)))]) := runs_of (C := cfg) (objs := []) (sc := [.lp (kinfolkref05_Put_L0_2_ex l k l_).1 (kinfolkref05_Put_L0_2_ex l k l_).2, .br true]) (.k0 (an_ (LRuns.coe (s0 := ⟨[(0, (.av (.one (.pv (.bools l false))))), (1, (.av (.one (.pv (.int .u64 n))))), (2, (.av (.one (.pv (.int .i64 k))))), (7, (.av (.one (.own 0 0 0 false)))), (8, (.av (.one (.pv (.int .i64 0)))))], [], [(0, (.live (.bools [])))]⟩) (kinfolkref05_Put_L0_2_runs l k _ _ h1) ⟨⟨⟨_, rfl, .eq rfl⟩, ⟨_, rfl, .eq rfl⟩, ⟨_, rfl, .eq rfl⟩, ⟨_, rfl, .own (by first | rfl | (simp only [List.take_length]; done) | (simp only [List.take_length, List.length_append, List.drop_zero, List.map_append, List.map_take, List.map_drop, List.map_cons, List.map_nil, List.append_nil, List.nil_append, E_event_Event.pv]; done) | (simp; done))⟩, ⟨_, rfl, .eq rfl⟩, trivial⟩, trivial, ⟨⟨rfl, .eq rfl⟩, trivial⟩⟩) (an_ h2 (an_ (rfl : true = true) (an_ h3 trivial)))) (by kernel_rfl))
    exact e_.out ⟨.own (by first | rfl | (simp only [List.take_length]; done) | (simp only [List.take_length, List.length_append, List.drop_zero, List.map_append, List.map_take, List.map_drop, List.map_cons, List.map_nil, List.append_nil, List.nil_append, E_event_Event.pv]; done) | (simp; done)), trivial⟩ trivial ⟨.eq (by first | rfl | (simp only [List.take_length]; done) | (simp only [List.take_length, List.length_append, List.drop_zero, List.map_append, List.map_take, List.map_drop, List.map_cons, List.map_nil, List.append_nil, List.nil_append, E_event_Event.pv]; done) | (simp; done)), trivial⟩ rfl
  · obtain ⟨h3, h⟩ := need_of h
    obtain ⟨h4, h⟩ := need_of h
    have h := some_of h
    subst h
    have e_ : Runs Try.prog 60 [(.one (.pv (.bools l false))), (.one (.pv (.int .u64 n))), (.one (.pv (.int .i64 k)))] [] [] ([(.one (.own 0 0 ((([] ++ l) ++ (List.take (l_).length l_))).length false))], [], [(.bools (([] ++ l) ++ (List.take (l_).length l_)))]) := runs_of (C := cfg) (objs := []) (sc := [.lp (kinfolkref05_Put_L0_2_ex l k l_).1 (kinfolkref05_Put_L0_2_ex l k l_).2, .br false]) (.k0 (an_ (LRuns.coe (s0 := ⟨[(0, (.av (.one (.pv (.bools l false))))), (1, (.av (.one (.pv (.int .u64 n))))), (2, (.av (.one (.pv (.int .i64 k))))), (7, (.av (.one (.own 0 0 0 false)))), (8, (.av (.one (.pv (.int .i64 0)))))], [], [(0, (.live (.bools [])))]⟩) (kinfolkref05_Put_L0_2_runs l k _ _ h1) ⟨⟨⟨_, rfl, .eq rfl⟩, ⟨_, rfl, .eq rfl⟩, ⟨_, rfl, .eq rfl⟩, ⟨_, rfl, .own (by first | rfl | (simp only [List.take_length]; done) | (simp only [List.take_length, List.length_append, List.drop_zero, List.map_append, List.map_take, List.map_drop, List.map_cons, List.map_nil, List.append_nil, List.nil_append, E_event_Event.pv]; done) | (simp; done))⟩, ⟨_, rfl, .eq rfl⟩, trivial⟩, trivial, ⟨⟨rfl, .eq rfl⟩, trivial⟩⟩) (an_ (not_of h2) (an_ h3 (an_ (show (Nat.beq (([] ++ l)).length (([] ++ l)).length) = true from Nat.beq_refl _) (an_ h4 trivial))))) (by kernel_rfl))
    exact e_.out ⟨.own (by first | rfl | (simp only [List.take_length]; done) | (simp only [List.take_length, List.length_append, List.drop_zero, List.map_append, List.map_take, List.map_drop, List.map_cons, List.map_nil, List.append_nil, List.nil_append, E_event_Event.pv]; done) | (simp; done)), trivial⟩ trivial ⟨.eq (by first | rfl | (simp only [List.take_length]; done) | (simp only [List.take_length, List.length_append, List.drop_zero, List.map_append, List.map_take, List.map_drop, List.map_cons, List.map_nil, List.append_nil, List.nil_append, E_event_Event.pv]; done) | (simp; done)), trivial⟩ rfl
/-! ### kinfolkref07_ID -/
noncomputable def kinfolkref07_ID_b (rec_kinfolkref07_ID : List Bool → T_kinfolkref01_ID → Option (List Bool)) (l : List Bool) (i : T_kinfolkref01_ID) : Option (List Bool) :=
  match i with
  | .nil =>
    none
  | .mk n t t2 =>
    bif (decide ((n : Int) < 2)) then
      (kinfolkref05_Put l 0 2).bind fun l_ =>
      (kinfolkref05_Put l_ (IntKind.u64.wrap n) 1).bind fun l_2 =>
      some l_2
    else
      match t with
      | .nil =>
        none
      | .mk n2 t3 t4 =>
        bif (decide ((n2 : Int) = 0)) then
          (kinfolkref05_Put l 1 2).bind fun l_ =>
          (rec_kinfolkref07_ID l_ t2).bind fun l_2 =>
          some l_2
        else
          match t2 with
          | .nil =>
            none
          | .mk n3 t5 t6 =>
            bif (decide ((n3 : Int) = 0)) then
              (kinfolkref05_Put l 2 2).bind fun l_ =>
              (rec_kinfolkref07_ID l_ t).bind fun l_2 =>
              some l_2
            else
              (kinfolkref05_Put l 3 2).bind fun l_ =>
              (rec_kinfolkref07_ID l_ t).bind fun l_2 =>
              (rec_kinfolkref07_ID l_2 t2).bind fun l_3 =>
              some l_3
theorem kinfolkref07_ID_b_runs (rec_kinfolkref07_ID : List Bool → T_kinfolkref01_ID → Option (List Bool)) (hrec_kinfolkref07_ID : ∀ l i r_, rec_kinfolkref07_ID l i = some r_ → Runs Try.prog 30 [(.one (.pv (.bools l false))), (.one (.pv (T_kinfolkref01_ID.pv i)))] [] [] (kinfolkref07_ID_out l i r_)) (l : List Bool) (i : T_kinfolkref01_ID) (r_ : List Bool) (h : kinfolkref07_ID_b rec_kinfolkref07_ID l i = some r_) : Runs Try.prog 30 [(.one (.pv (.bools l false))), (.one (.pv (T_kinfolkref01_ID.pv i)))] [] [] (kinfolkref07_ID_out l i r_) := by
  unfold kinfolkref07_ID_b at h
  cases i with
  | nil =>
    cases h
  | mk n t t2 =>
    rcases cond_of h with ⟨h1, h⟩ | ⟨h1, h⟩
    · obtain ⟨l_, h2, h⟩ := bind_of h
      obtain ⟨l_2, h3, h⟩ := bind_of h
      have h := some_of h
      subst h
      exact runs_of (C := cfg) (objs := []) (sc := [.br true, .res (kinfolkref05_Put_out l 0 2 l_), .res (kinfolkref05_Put_out l_ (IntKind.u64.wrap n) 1 l_2)]) (.k0 (an_ h1 (an_ (kinfolkref05_Put_runs l 0 2 _ h2) (an_ (Runs.coe (as' := [(.one (.pv (.bools (List.take (l_).length l_) false))), (.one (.pv (.int .u64 (IntKind.u64.wrap n)))), (.one (.pv (.int .i64 1)))]) (objs' := []) (rows' := []) (kinfolkref05_Put_runs l_ (IntKind.u64.wrap n) 1 _ h3) ⟨.pv (.bools (by first | rfl | (simp only [List.take_length]; done) | (simp only [List.take_length, List.length_append, List.drop_zero, List.map_append, List.map_take, List.map_drop, List.map_cons, List.map_nil, List.append_nil, List.nil_append, E_event_Event.pv]; done) | (simp; done))), .eq rfl, .eq rfl, trivial⟩ trivial trivial) trivial))) (by kernel_rfl))
    · cases t with
      | nil =>
        cases h
      | mk n2 t3 t4 =>
        rcases cond_of h with ⟨h2, h⟩ | ⟨h2, h⟩
        · obtain ⟨l_, h3, h⟩ := bind_of h
          obtain ⟨l_2, h4, h⟩ := bind_of h
          have h := some_of h
          subst h
          exact runs_of (C := cfg) (objs := []) (sc := [.br false, .br true, .res (kinfolkref05_Put_out l 1 2 l_), .res (kinfolkref07_ID_out l_ t2 l_2)]) (.k0 (an_ h1 (an_ h2 (an_ (kinfolkref05_Put_runs l 1 2 _ h3) (an_ (Runs.coe (as' := [(.one (.pv (.bools (List.take (l_).length l_) false))), (.one (.pv (T_kinfolkref01_ID.pv t2)))]) (objs' := []) (rows' := []) (hrec_kinfolkref07_ID l_ t2 _ h4) ⟨.pv (.bools (by first | rfl | (simp only [List.take_length]; done) | (simp only [List.take_length, List.length_append, List.drop_zero, List.map_append, List.map_take, List.map_drop, List.map_cons, List.map_nil, List.append_nil, List.nil_append, E_event_Event.pv]; done) | (simp; done))), .eq rfl, trivial⟩ trivial trivial) trivial)))) (by kernel_rfl))
        · cases t2 with
          | nil =>
            cases h
          | mk n3 t5 t6 =>
            rcases cond_of h with ⟨h3, h⟩ | ⟨h3, h⟩
            · obtain ⟨l_, h4, h⟩ := bind_of h
              obtain ⟨l_2, h5, h⟩ := bind_of h
              have h := some_of h
              subst h
              exact runs_of (C := cfg) (objs := []) (sc := [.br false, .br false, .br true, .res (kinfolkref05_Put_out l 2 2 l_), .res (kinfolkref07_ID_out l_ (T_kinfolkref01_ID.mk n2 t3 t4) l_2)]) (.k0 (an_ h1 (an_ h2 (an_ h3 (an_ (kinfolkref05_Put_runs l 2 2 _ h4) (an_ (Runs.coe (as' := [(.one (.pv (.bools (List.take (l_).length l_) false))), (.one (.pv (T_kinfolkref01_ID.pv (T_kinfolkref01_ID.mk n2 t3 t4))))]) (objs' := []) (rows' := []) (hrec_kinfolkref07_ID l_ (T_kinfolkref01_ID.mk n2 t3 t4) _ h5) ⟨.pv (.bools (by first | rfl | (simp only [List.take_length]; done) | (simp only [List.take_length, List.length_append, List.drop_zero, List.map_append, List.map_take, List.map_drop, List.map_cons, List.map_nil, List.append_nil, List.nil_append, E_event_Event.pv]; done) | (simp; done))), .eq rfl, trivial⟩ trivial trivial) trivial))))) (by kernel_rfl))
            · obtain ⟨l_, h4, h⟩ := bind_of h
              obtain ⟨l_2, h5, h⟩ := bind_of h
              obtain ⟨l_3, h6, h⟩ := bind_of h
              have h := some_of h
              subst h
              exact runs_of (C := cfg) (objs := []) (sc := [.br false, .br false, .br false, .res (kinfolkref05_Put_out l 3 2 l_), .res (kinfolkref07_ID_out l_ (T_kinfolkref01_ID.mk n2 t3 t4) l_2), .res (kinfolkref07_ID_out l_2 (T_kinfolkref01_ID.mk n3 t5 t6) l_3)]) (.k0 (an_ h1 (an_ h2 (an_ h3 (an_ (kinfolkref05_Put_runs l 3 2 _ h4) (an_ (Runs.coe (as' := [(.one (.pv (.bools (List.take (l_).length l_) false))), (.one (.pv (T_kinfolkref01_ID.pv (T_kinfolkref01_ID.mk n2 t3 t4))))]) (objs' := []) (rows' := []) (hrec_kinfolkref07_ID l_ (T_kinfolkref01_ID.mk n2 t3 t4) _ h5) ⟨.pv (.bools (by first | rfl | (simp only [List.take_length]; done) | (simp only [List.take_length, List.length_append, List.drop_zero, List.map_append, List.map_take, List.map_drop, List.map_cons, List.map_nil, List.append_nil, List.nil_append, E_event_Event.pv]; done) | (simp; done))), .eq rfl, trivial⟩ trivial trivial) (an_ (Runs.coe (as' := [(.one (.pv (.bools (List.take (l_2).length l_2) false))), (.one (.pv (T_kinfolkref01_ID.pv (T_kinfolkref01_ID.mk n3 t5 t6))))]) (objs' := []) (rows' := []) (hrec_kinfolkref07_ID l_2 (T_kinfolkref01_ID.mk n3 t5 t6) _ h6) ⟨.pv (.bools (by first | rfl | (simp only [List.take_length]; done) | (simp only [List.take_length, List.length_append, List.drop_zero, List.map_append, List.map_take, List.map_drop, List.map_cons, List.map_nil, List.append_nil, List.nil_append, E_event_Event.pv]; done) | (simp; done))), .eq rfl, trivial⟩ trivial trivial) trivial)))))) (by kernel_rfl))
noncomputable def kinfolkref07_ID : Nat → List Bool → T_kinfolkref01_ID → Option (List Bool)
  | 0, _, _ => none
  | N + 1, l, i => kinfolkref07_ID_b (kinfolkref07_ID N) l i
theorem kinfolkref07_ID_runs : ∀ (N : Nat) (l : List Bool) (i : T_kinfolkref01_ID) (r_ : List Bool), kinfolkref07_ID N l i = some r_ → Runs Try.prog 30 [(.one (.pv (.bools l false))), (.one (.pv (T_kinfolkref01_ID.pv i)))] [] [] (kinfolkref07_ID_out l i r_)
  | 0, _, _, _, h => by cases h
  | N + 1, l, i, r_, h => kinfolkref07_ID_b_runs (kinfolkref07_ID N) (kinfolkref07_ID_runs N) l i r_ h
/-! ### kinfolkref07_Event_out -/
def kinfolkref07_Event_out (l : List Bool) (e : T_kinfolkref02_Event) : List Bool → Res
  | r1 => ([(.one (.own 0 0 (r1).length false))], [], [(.bools r1)])
/-! ### kinfolkref05_Num_out -/
def kinfolkref05_Num_out (l : List Bool) (n : Int) : List Bool → Res
  | r1 => ([(.one (.own 0 0 (r1).length false))], [], [(.bools r1)])
/-! ### kinfolkref05_power_out -/
def kinfolkref05_power_out (b : Int) : Int → Res
  | r1 => ([(.one (.pv (.int .u64 r1)))], [], [])
/-! ### kinfolkref05_power_L0 -/
def kinfolkref05_power_L0_st (b : Int) : Int × Int → St
  | (n, i) => ⟨[(0, (.av (.one (.pv (.int .i64 b))))), (3, (.av (.one (.pv (.int .u64 n))))), (4, (.av (.one (.pv (.int .i64 i)))))], [], []⟩
def kinfolkref05_power_L0_ex (b : Int) : Int → Ex × St
  | r1 => ((.exit 0), ⟨[(3, (.av (.one (.pv (.int .u64 r1)))))], [], []⟩)
noncomputable def kinfolkref05_power_L0_step (b : Int) : Int × Int → Option ((Int × Int) ⊕ (Int))
  | (n, i) =>
  bif (decide ((i : Int) < b)) then
    some (.inl ((imul .u64 n 2), (iadd .i64 i 1)))
  else
    some (.inr n)
theorem kinfolkref05_power_L0_ok (b : Int) (s_ : Int × Int) (z_ : (Int × Int) ⊕ (Int)) (h : kinfolkref05_power_L0_step b s_ = some z_) : RoundOk Try.prog cfg 79 0 (loopAt Try.prog 79 0) (kinfolkref05_power_L0_st b) (kinfolkref05_power_L0_ex b) s_ z_ := by
  rcases s_ with ⟨n, i⟩
  rcases cond_of h with ⟨h1, h⟩ | ⟨h1, h⟩
  · have h := some_of h
    subst h
    exact ⟨[.br true], kinfolkref05_power_L0_st b ((imul .u64 n 2), (iadd .i64 i 1)), .k0 (an_ h1 trivial) (by kernel_rfl), .same (by kernel_rfl)⟩
  · have h := some_of h
    subst h
    exact ⟨[.br false], ⟨[(7, (.av (.one (.pv (.bool false))))), (0, (.av (.one (.pv (.int .i64 b))))), (3, (.av (.one (.pv (.int .u64 n))))), (4, (.av (.one (.pv (.int .i64 i))))), (7, (.av (.one (.pv (.bool (decide ((i : Int) < b)))))))], [], []⟩, .k0 (an_ h1 trivial) (by kernel_rfl), ⟨⟨⟨_, rfl, .eq rfl⟩, trivial⟩, trivial, trivial⟩⟩
theorem kinfolkref05_power_L0_runs (b : Int) (s_ : Int × Int) (r_ : Int) (h : runL (kinfolkref05_power_L0_step b) s_ = some r_) : LRuns Try.prog (lEnv Try.prog cfg 79 0).nt 0 (.loop (loopAt Try.prog 79 0)) (kinfolkref05_power_L0_st b s_) (kinfolkref05_power_L0_ex b r_).1 (kinfolkref05_power_L0_ex b r_).2 :=
  loop_run h (kinfolkref05_power_L0_ok b) (by intro r_; rcases r_ with r1 <;> simp [kinfolkref05_power_L0_ex])
/-! ### kinfolkref05_power -/
noncomputable def kinfolkref05_power (b : Int) : Option (Int) :=
  (runL (kinfolkref05_power_L0_step b) (1, 0)).bind fun n =>
  some n
theorem kinfolkref05_power_runs (b : Int) (r_ : Int) (h : kinfolkref05_power b = some r_) : Runs Try.prog 79 [(.one (.pv (.int .i64 b)))] [] [] (kinfolkref05_power_out b r_) := by
  unfold kinfolkref05_power at h
  obtain ⟨n, h1, h⟩ := bind_of h
  have h := some_of h
  subst h
  exact runs_of (C := cfg) (objs := []) (sc := [.lp (kinfolkref05_power_L0_ex b n).1 (kinfolkref05_power_L0_ex b n).2]) (.k0 (an_ (kinfolkref05_power_L0_runs b _ _ h1) trivial) (by kernel_rfl))
/-! ### kinfolkref05_Num_L0 -/
def kinfolkref05_Num_L0_st (l : List Bool) (n : Int) : (Unit) ⊕ (Int × Int × List Bool) → St
  | .inl _ => ⟨[(0, (.av (.one (.pv (.bools l false))))), (1, (.av (.one (.pv (.int .u64 n))))), (5, (.av (.one (.pv (.int .i64 2)))))], [], []⟩
  | .inr (n2, n3, l2) => ⟨[(0, (.av (.one (.own 0 0 (l2).length false)))), (1, (.av (.one (.pv (.int .u64 n2))))), (5, (.av (.one (.pv (.int .i64 n3)))))], [], [(0, (.live (.bools l2)))]⟩
def kinfolkref05_Num_L0_ex (l : List Bool) (n : Int) : (Unit) ⊕ (Int × Int × List Bool) → Ex × St
  | .inl _ => ((.exit 0), ⟨[(0, (.av (.one (.pv (.bools l false))))), (1, (.av (.one (.pv (.int .u64 n))))), (5, (.av (.one (.pv (.int .i64 2)))))], [], []⟩)
  | .inr (r1, r2, r3) => ((.exit 0), ⟨[(0, (.av (.one (.own 0 0 (r3).length false)))), (1, (.av (.one (.pv (.int .u64 r1))))), (5, (.av (.one (.pv (.int .i64 r2)))))], [], [(0, (.live (.bools r3)))]⟩)
noncomputable def kinfolkref05_Num_L0_step (l : List Bool) (n : Int) : (Unit) ⊕ (Int × Int × List Bool) → Option (((Unit) ⊕ (Int × Int × List Bool)) ⊕ ((Unit) ⊕ (Int × Int × List Bool)))
  | .inl _ =>
    (kinfolkref05_power 2).bind fun n2 =>
    bif (decide ((n2 : Int) ≤ n)) then
      (kinfolkref05_Put l 1 1).bind fun l_ =>
      some (.inl (.inr ((isub .u64 n n2), 3, l_)))
    else
      some (.inr (.inl ()))
  | .inr (n2, n3, l2) =>
    bif (decide ((n3 : Int) < 64)) then
      (kinfolkref05_power n3).bind fun n4 =>
      bif (decide ((n4 : Int) ≤ n2)) then
        (kinfolkref05_Put l2 1 1).bind fun l_ =>
        some (.inl (.inr ((isub .u64 n2 n4), (iadd .i64 n3 1), l_)))
      else
        some (.inr (.inr (n2, n3, l2)))
    else
      some (.inr (.inr (n2, n3, l2)))
theorem kinfolkref05_Num_L0_ok (l : List Bool) (n : Int) (s_ : (Unit) ⊕ (Int × Int × List Bool)) (z_ : ((Unit) ⊕ (Int × Int × List Bool)) ⊕ ((Unit) ⊕ (Int × Int × List Bool))) (h : kinfolkref05_Num_L0_step l n s_ = some z_) : RoundOk Try.prog cfg 61 0 (loopAt Try.prog 61 0) (kinfolkref05_Num_L0_st l n) (kinfolkref05_Num_L0_ex l n) s_ z_ := by
  rcases s_ with _ | ⟨n2, n3, l2⟩
  · obtain ⟨n2, h1, h⟩ := bind_of h
    rcases cond_of h with ⟨h2, h⟩ | ⟨h2, h⟩
    · obtain ⟨l_, h3, h⟩ := bind_of h
      have h := some_of h
      subst h
      exact ⟨[.br true, .res (kinfolkref05_power_out 2 n2), .br true, .res (kinfolkref05_Put_out l 1 1 l_), .res (kinfolkref05_power_out 2 n2)], kinfolkref05_Num_L0_st l n (.inr ((isub .u64 n n2), 3, l_)), .k0 (an_ (rfl : true = true) (an_ (kinfolkref05_power_runs 2 _ h1) (an_ h2 (an_ (kinfolkref05_Put_runs l 1 1 _ h3) (an_ (kinfolkref05_power_runs 2 _ h1) trivial))))) (by kernel_rfl), .same (by kernel_rfl)⟩
    · have h := some_of h
      subst h
      exact ⟨[.br true, .res (kinfolkref05_power_out 2 n2), .br false], ⟨[(13, (.av (.one (.pv (.bool false))))), (0, (.av (.one (.pv (.bools l false))))), (1, (.av (.one (.pv (.int .u64 n))))), (5, (.av (.one (.pv (.int .i64 2))))), (13, (.av (.one (.pv (.bool (decide ((n2 : Int) ≤ n)))))))], [], []⟩, .k0 (an_ (rfl : true = true) (an_ (kinfolkref05_power_runs 2 _ h1) (an_ h2 trivial))) (by kernel_rfl), ⟨⟨⟨_, rfl, .eq rfl⟩, ⟨_, rfl, .eq rfl⟩, ⟨_, rfl, .eq rfl⟩, trivial⟩, trivial, trivial⟩⟩
  · rcases cond_of h with ⟨h1, h⟩ | ⟨h1, h⟩
    · obtain ⟨n4, h2, h⟩ := bind_of h
      rcases cond_of h with ⟨h3, h⟩ | ⟨h3, h⟩
      · obtain ⟨l_, h4, h⟩ := bind_of h
        have h := some_of h
        subst h
        exact ⟨[.br true, .res (kinfolkref05_power_out n3 n4), .br true, .res (kinfolkref05_Put_out l2 1 1 l_), .res (kinfolkref05_power_out n3 n4)], kinfolkref05_Num_L0_st l n (.inr ((isub .u64 n2 n4), (iadd .i64 n3 1), l_)), .k0 (an_ h1 (an_ (kinfolkref05_power_runs n3 _ h2) (an_ h3 (an_ (Runs.coe (as' := [(.one (.pv (.bools (List.take (l2).length l2) false))), (.one (.pv (.int .u64 1))), (.one (.pv (.int .i64 1)))]) (objs' := []) (rows' := []) (kinfolkref05_Put_runs l2 1 1 _ h4) ⟨.pv (.bools (by first | rfl | (simp only [List.take_length]; done) | (simp only [List.take_length, List.length_append, List.drop_zero, List.map_append, List.map_take, List.map_drop, List.map_cons, List.map_nil, List.append_nil, List.nil_append, E_event_Event.pv]; done) | (simp; done))), .eq rfl, .eq rfl, trivial⟩ trivial trivial) (an_ (kinfolkref05_power_runs n3 _ h2) trivial))))) (by kernel_rfl), .same (by kernel_rfl)⟩
      · have h := some_of h
        subst h
        exact ⟨[.br true, .res (kinfolkref05_power_out n3 n4), .br false], ⟨[(13, (.av (.one (.pv (.bool false))))), (0, (.av (.one (.own 0 0 (l2).length false)))), (1, (.av (.one (.pv (.int .u64 n2))))), (5, (.av (.one (.pv (.int .i64 n3))))), (13, (.av (.one (.pv (.bool (decide ((n4 : Int) ≤ n2)))))))], [], [(0, (.live (.bools l2)))]⟩, .k0 (an_ h1 (an_ (kinfolkref05_power_runs n3 _ h2) (an_ h3 trivial))) (by kernel_rfl), ⟨⟨⟨_, rfl, .eq rfl⟩, ⟨_, rfl, .eq rfl⟩, ⟨_, rfl, .eq rfl⟩, trivial⟩, trivial, ⟨⟨rfl, .eq rfl⟩, trivial⟩⟩⟩
    · have h := some_of h
      subst h
      exact ⟨[.br false, .br false], ⟨[(13, (.av (.one (.pv (.bool false))))), (0, (.av (.one (.own 0 0 (l2).length false)))), (1, (.av (.one (.pv (.int .u64 n2))))), (5, (.av (.one (.pv (.int .i64 n3))))), (13, (.av (.one (.pv (.bool false)))))], [], [(0, (.live (.bools l2)))]⟩, .k0 (an_ h1 (an_ (rfl : false = false) trivial)) (by kernel_rfl), ⟨⟨⟨_, rfl, .eq rfl⟩, ⟨_, rfl, .eq rfl⟩, ⟨_, rfl, .eq rfl⟩, trivial⟩, trivial, ⟨⟨rfl, .eq rfl⟩, trivial⟩⟩⟩
theorem kinfolkref05_Num_L0_runs (l : List Bool) (n : Int) (s_ : (Unit) ⊕ (Int × Int × List Bool)) (r_ : (Unit) ⊕ (Int × Int × List Bool)) (h : runL (kinfolkref05_Num_L0_step l n) s_ = some r_) : LRuns Try.prog (lEnv Try.prog cfg 61 0).nt 0 (.loop (loopAt Try.prog 61 0)) (kinfolkref05_Num_L0_st l n s_) (kinfolkref05_Num_L0_ex l n r_).1 (kinfolkref05_Num_L0_ex l n r_).2 :=
  loop_run h (kinfolkref05_Num_L0_ok l n) (by intro r_; rcases r_ with _ | ⟨r1, r2, r3⟩ <;> simp [kinfolkref05_Num_L0_ex])
/-! ### kinfolkref05_Num -/
noncomputable def kinfolkref05_Num (l : List Bool) (n : Int) : Option (List Bool) :=
  (runL (kinfolkref05_Num_L0_step l n) (.inl ())).bind fun z_ => match z_ with
  | .inl _ =>
    (kinfolkref05_Put l 0 1).bind fun l_ =>
    (kinfolkref05_Put l_ n 2).bind fun l_2 =>
    some l_2
  | .inr (n2, n3, l_) =>
    (kinfolkref05_Put l_ 0 1).bind fun l_2 =>
    (kinfolkref05_Put l_2 n2 n3).bind fun l_3 =>
    some l_3
theorem kinfolkref05_Num_runs (l : List Bool) (n : Int) (r_ : List Bool) (h : kinfolkref05_Num l n = some r_) : Runs Try.prog 61 [(.one (.pv (.bools l false))), (.one (.pv (.int .u64 n)))] [] [] (kinfolkref05_Num_out l n r_) := by
  unfold kinfolkref05_Num at h
  obtain ⟨z_, h1, h⟩ := bind_of h
  rcases z_ with _ | ⟨n2, n3, l_⟩
  · obtain ⟨l_, h2, h⟩ := bind_of h
    obtain ⟨l_2, h3, h⟩ := bind_of h
    have h := some_of h
    subst h
    exact runs_of (C := cfg) (objs := []) (sc := [.lp (kinfolkref05_Num_L0_ex l n (.inl ())).1 (kinfolkref05_Num_L0_ex l n (.inl ())).2, .res (kinfolkref05_Put_out l 0 1 l_), .res (kinfolkref05_Put_out l_ n 2 l_2)]) (.k0 (an_ (kinfolkref05_Num_L0_runs l n _ _ h1) (an_ (kinfolkref05_Put_runs l 0 1 _ h2) (an_ (Runs.coe (as' := [(.one (.pv (.bools (List.take (l_).length l_) false))), (.one (.pv (.int .u64 n))), (.one (.pv (.int .i64 2)))]) (objs' := []) (rows' := []) (kinfolkref05_Put_runs l_ n 2 _ h3) ⟨.pv (.bools (by first | rfl | (simp only [List.take_length]; done) | (simp only [List.take_length, List.length_append, List.drop_zero, List.map_append, List.map_take, List.map_drop, List.map_cons, List.map_nil, List.append_nil, List.nil_append, E_event_Event.pv]; done) | (simp; done))), .eq rfl, .eq rfl, trivial⟩ trivial trivial) trivial))) (by kernel_rfl))
  · obtain ⟨l_2, h2, h⟩ := bind_of h
    obtain ⟨l_3, h3, h⟩ := bind_of h
    have h := some_of h
    subst h
    exact runs_of (C := cfg) (objs := []) (sc := [.lp (kinfolkref05_Num_L0_ex l n (.inr (n2, n3, l_))).1 (kinfolkref05_Num_L0_ex l n (.inr (n2, n3, l_))).2, .res (kinfolkref05_Put_out l_ 0 1 l_2), .res (kinfolkref05_Put_out l_2 n2 n3 l_3)]) (.k0 (an_ (kinfolkref05_Num_L0_runs l n _ _ h1) (an_ (Runs.coe (as' := [(.one (.pv (.bools (List.take (l_).length l_) false))), (.one (.pv (.int .u64 0))), (.one (.pv (.int .i64 1)))]) (objs' := []) (rows' := []) (kinfolkref05_Put_runs l_ 0 1 _ h2) ⟨.pv (.bools (by first | rfl | (simp only [List.take_length]; done) | (simp only [List.take_length, List.length_append, List.drop_zero, List.map_append, List.map_take, List.map_drop, List.map_cons, List.map_nil, List.append_nil, List.nil_append, E_event_Event.pv]; done) | (simp; done))), .eq rfl, .eq rfl, trivial⟩ trivial trivial) (an_ (Runs.coe (as' := [(.one (.pv (.bools (List.take (l_2).length l_2) false))), (.one (.pv (.int .u64 n2))), (.one (.pv (.int .i64 n3)))]) (objs' := []) (rows' := []) (kinfolkref05_Put_runs l_2 n2 n3 _ h3) ⟨.pv (.bools (by first | rfl | (simp only [List.take_length]; done) | (simp only [List.take_length, List.length_append, List.drop_zero, List.map_append, List.map_take, List.map_drop, List.map_cons, List.map_nil, List.append_nil, List.nil_append, E_event_Event.pv]; done) | (simp; done))), .eq rfl, .eq rfl, trivial⟩ trivial trivial) trivial))) (by kernel_rfl))
/-! ### kinfolkref07_zero_out -/
def kinfolkref07_zero_out (e : T_kinfolkref02_Event) : Bool → Res
  | r1 => ([(.one (.pv (.bool r1)))], [], [])
/-! ### kinfolkref07_zero -/
noncomputable def kinfolkref07_zero (e : T_kinfolkref02_Event) : Option (Bool) :=
  match e with
  | .nil =>
    none
  | .mk n t t2 =>
    match t with
    | .nil =>
      some (decide ((n : Int) = 0))
    | .mk n2 t3 t4 =>
      some false
theorem kinfolkref07_zero_runs (e : T_kinfolkref02_Event) (r_ : Bool) (h : kinfolkref07_zero e = some r_) : Runs Try.prog 62 [(.one (.pv (T_kinfolkref02_Event.pv e)))] [] [] (kinfolkref07_zero_out e r_) := by
  unfold kinfolkref07_zero at h
  cases e with
  | nil =>
    cases h
  | mk n t t2 =>
    cases t with
    | nil =>
      have h := some_of h
      subst h
      exact runs_of (C := cfg) (objs := []) (sc := [.br true]) (.k0 (an_ (rfl : true = true) trivial) (by kernel_rfl))
    | mk n2 t3 t4 =>
      have h := some_of h
      subst h
      exact runs_of (C := cfg) (objs := []) (sc := [.br false]) (.k0 (an_ (rfl : false = false) trivial) (by kernel_rfl))
/-! ### kinfolkref07_Event -/
noncomputable def kinfolkref07_Event_b (rec_kinfolkref07_Event : List Bool → T_kinfolkref02_Event → Option (List Bool)) (l : List Bool) (e : T_kinfolkref02_Event) : Option (List Bool) :=
  match e with
  | .nil =>
    none
  | .mk n t t2 =>
    match t with
    | .nil =>
      (kinfolkref05_Put l 1 1).bind fun l_ =>
      (kinfolkref05_Num l_ n).bind fun l_2 =>
      some l_2
    | .mk n2 t3 t4 =>
      (kinfolkref05_Put l 0 1).bind fun l_ =>
      bif (decide ((n : Int) = 0)) then
        (kinfolkref07_zero t).bind fun b =>
        bif b then
          (kinfolkref05_Put l_ 0 2).bind fun l_2 =>
          (rec_kinfolkref07_Event l_2 t2).bind fun l_3 =>
          some l_3
        else
          (kinfolkref07_zero t2).bind fun b2 =>
          bif b2 then
            (kinfolkref05_Put l_ 1 2).bind fun l_2 =>
            (rec_kinfolkref07_Event l_2 t).bind fun l_3 =>
            some l_3
          else
            (kinfolkref05_Put l_ 2 2).bind fun l_2 =>
            (rec_kinfolkref07_Event l_2 t).bind fun l_3 =>
            (rec_kinfolkref07_Event l_3 t2).bind fun l_4 =>
            some l_4
      else
        (kinfolkref05_Put l_ 3 2).bind fun l_2 =>
        (kinfolkref07_zero t).bind fun b =>
        bif b then
          (kinfolkref05_Put l_2 0 2).bind fun l_3 =>
          (kinfolkref05_Num l_3 n).bind fun l_4 =>
          (rec_kinfolkref07_Event l_4 t2).bind fun l_5 =>
          some l_5
        else
          (kinfolkref07_zero t2).bind fun b2 =>
          bif b2 then
            (kinfolkref05_Put l_2 1 2).bind fun l_3 =>
            (kinfolkref05_Num l_3 n).bind fun l_4 =>
            (rec_kinfolkref07_Event l_4 t).bind fun l_5 =>
            some l_5
          else
            (kinfolkref05_Put l_2 1 1).bind fun l_3 =>
            (kinfolkref05_Num l_3 n).bind fun l_4 =>
            (rec_kinfolkref07_Event l_4 t).bind fun l_5 =>
            (rec_kinfolkref07_Event l_5 t2).bind fun l_6 =>
            some l_6
theorem kinfolkref07_Event_b_runs (rec_kinfolkref07_Event : List Bool → T_kinfolkref02_Event → Option (List Bool)) (hrec_kinfolkref07_Event : ∀ l e r_, rec_kinfolkref07_Event l e = some r_ → Runs Try.prog 31 [(.one (.pv (.bools l false))), (.one (.pv (T_kinfolkref02_Event.pv e)))] [] [] (kinfolkref07_Event_out l e r_)) (l : List Bool) (e : T_kinfolkref02_Event) (r_ : List Bool) (h : kinfolkref07_Event_b rec_kinfolkref07_Event l e = some r_) : Runs Try.prog 31 [(.one (.pv (.bools l false))), (.one (.pv (T_kinfolkref02_Event.pv e)))] [] [] (kinfolkref07_Event_out l e r_) := by
  unfold kinfolkref07_Event_b at h
  cases e with
  | nil =>
    cases h
  | mk n t t2 =>
    cases t with
    | nil =>
      obtain ⟨l_, h1, h⟩ := bind_of h
      obtain ⟨l_2, h2, h⟩ := bind_of h
      have h := some_of h
      subst h
      exact runs_of (C := cfg) (objs := []) (sc := [.br true, .res (kinfolkref05_Put_out l 1 1 l_), .res (kinfolkref05_Num_out l_ n l_2)]) (.k0 (an_ (rfl : true = true) (an_ (kinfolkref05_Put_runs l 1 1 _ h1) (an_ (Runs.coe (as' := [(.one (.pv (.bools (List.take (l_).length l_) false))), (.one (.pv (.int .u64 n)))]) (objs' := []) (rows' := []) (kinfolkref05_Num_runs l_ n _ h2) ⟨.pv (.bools (by first | rfl | (simp only [List.take_length]; done) | (simp only [List.take_length, List.length_append, List.drop_zero, List.map_append, List.map_take, List.map_drop, List.map_cons, List.map_nil, List.append_nil, List.nil_append, E_event_Event.pv]; done) | (simp; done))), .eq rfl, trivial⟩ trivial trivial) trivial))) (by kernel_rfl))
    | mk n2 t3 t4 =>
      obtain ⟨l_, h1, h⟩ := bind_of h
      rcases cond_of h with ⟨h2, h⟩ | ⟨h2, h⟩
      · obtain ⟨b, h3, h⟩ := bind_of h
        rcases cond_of h with ⟨h4, h⟩ | ⟨h4, h⟩
        · obtain ⟨l_2, h5, h⟩ := bind_of h
          obtain ⟨l_3, h6, h⟩ := bind_of h
          have h := some_of h
          subst h
          exact runs_of (C := cfg) (objs := []) (sc := [.br false, .res (kinfolkref05_Put_out l 0 1 l_), .br true, .res (kinfolkref07_zero_out (T_kinfolkref02_Event.mk n2 t3 t4) b), .br true, .res (kinfolkref05_Put_out l_ 0 2 l_2), .res (kinfolkref07_Event_out l_2 t2 l_3)]) (.k0 (an_ (rfl : false = false) (an_ (kinfolkref05_Put_runs l 0 1 _ h1) (an_ h2 (an_ (kinfolkref07_zero_runs (T_kinfolkref02_Event.mk n2 t3 t4) _ h3) (an_ h4 (an_ (Runs.coe (as' := [(.one (.pv (.bools (List.take (l_).length l_) false))), (.one (.pv (.int .u64 0))), (.one (.pv (.int .i64 2)))]) (objs' := []) (rows' := []) (kinfolkref05_Put_runs l_ 0 2 _ h5) ⟨.pv (.bools (by first | rfl | (simp only [List.take_length]; done) | (simp only [List.take_length, List.length_append, List.drop_zero, List.map_append, List.map_take, List.map_drop, List.map_cons, List.map_nil, List.append_nil, List.nil_append, E_event_Event.pv]; done) | (simp; done))), .eq rfl, .eq rfl, trivial⟩ trivial trivial) (an_ (Runs.coe (as' := [(.one (.pv (.bools (List.take (l_2).length l_2) false))), (.one (.pv (T_kinfolkref02_Event.pv t2)))]) (objs' := []) (rows' := []) (hrec_kinfolkref07_Event l_2 t2 _ h6) ⟨.pv (.bools (by first | rfl | (simp only [List.take_length]; done) | (simp only [List.take_length, List.length_append, List.drop_zero, List.map_append, List.map_take, List.map_drop, List.map_cons, List.map_nil, List.append_nil, List.nil_append, E_event_Event.pv]; done) | (simp; done))), .eq rfl, trivial⟩ trivial trivial) trivial))))))) (by kernel_rfl))
        · obtain ⟨b2, h5, h⟩ := bind_of h
          rcases cond_of h with ⟨h6, h⟩ | ⟨h6, h⟩
          · obtain ⟨l_2, h7, h⟩ := bind_of h
            obtain ⟨l_3, h8, h⟩ := bind_of h
            have h := some_of h
            subst h
            exact runs_of (C := cfg) (objs := []) (sc := [.br false, .res (kinfolkref05_Put_out l 0 1 l_), .br true, .res (kinfolkref07_zero_out (T_kinfolkref02_Event.mk n2 t3 t4) b), .br false, .res (kinfolkref07_zero_out t2 b2), .br true, .res (kinfolkref05_Put_out l_ 1 2 l_2), .res (kinfolkref07_Event_out l_2 (T_kinfolkref02_Event.mk n2 t3 t4) l_3)]) (.k0 (an_ (rfl : false = false) (an_ (kinfolkref05_Put_runs l 0 1 _ h1) (an_ h2 (an_ (kinfolkref07_zero_runs (T_kinfolkref02_Event.mk n2 t3 t4) _ h3) (an_ h4 (an_ (kinfolkref07_zero_runs t2 _ h5) (an_ h6 (an_ (Runs.coe (as' := [(.one (.pv (.bools (List.take (l_).length l_) false))), (.one (.pv (.int .u64 1))), (.one (.pv (.int .i64 2)))]) (objs' := []) (rows' := []) (kinfolkref05_Put_runs l_ 1 2 _ h7) ⟨.pv (.bools (by first | rfl | (simp only [List.take_length]; done) | (simp only [List.take_length, List.length_append, List.drop_zero, List.map_append, List.map_take, List.map_drop, List.map_cons, List.map_nil, List.append_nil, List.nil_append, E_event_Event.pv]; done) | (simp; done))), .eq rfl, .eq rfl, trivial⟩ trivial trivial) (an_ (Runs.coe (as' := [(.one (.pv (.bools (List.take (l_2).length l_2) false))), (.one (.pv (T_kinfolkref02_Event.pv (T_kinfolkref02_Event.mk n2 t3 t4))))]) (objs' := []) (rows' := []) (hrec_kinfolkref07_Event l_2 (T_kinfolkref02_Event.mk n2 t3 t4) _ h8) ⟨.pv (.bools (by first | rfl | (simp only [List.take_length]; done) | (simp only [List.take_length, List.length_append, List.drop_zero, List.map_append, List.map_take, List.map_drop, List.map_cons, List.map_nil, List.append_nil, List.nil_append, E_event_Event.pv]; done) | (simp; done))), .eq rfl, trivial⟩ trivial trivial) trivial))))))))) (by kernel_rfl))
          · obtain ⟨l_2, h7, h⟩ := bind_of h
            obtain ⟨l_3, h8, h⟩ := bind_of h
            obtain ⟨l_4, h9, h⟩ := bind_of h
            have h := some_of h
            subst h
            exact runs_of (C := cfg) (objs := []) (sc := [.br false, .res (kinfolkref05_Put_out l 0 1 l_), .br true, .res (kinfolkref07_zero_out (T_kinfolkref02_Event.mk n2 t3 t4) b), .br false, .res (kinfolkref07_zero_out t2 b2), .br false, .res (kinfolkref05_Put_out l_ 2 2 l_2), .res (kinfolkref07_Event_out l_2 (T_kinfolkref02_Event.mk n2 t3 t4) l_3), .res (kinfolkref07_Event_out l_3 t2 l_4)]) (.k0 (an_ (rfl : false = false) (an_ (kinfolkref05_Put_runs l 0 1 _ h1) (an_ h2 (an_ (kinfolkref07_zero_runs (T_kinfolkref02_Event.mk n2 t3 t4) _ h3) (an_ h4 (an_ (kinfolkref07_zero_runs t2 _ h5) (an_ h6 (an_ (Runs.coe (as' := [(.one (.pv (.bools (List.take (l_).length l_) false))), (.one (.pv (.int .u64 2))), (.one (.pv (.int .i64 2)))]) (objs' := []) (rows' := []) (kinfolkref05_Put_runs l_ 2 2 _ h7) ⟨.pv (.bools (by first | rfl | (simp only [List.take_length]; done) | (simp only [List.take_length, List.length_append, List.drop_zero, List.map_append, List.map_take, List.map_drop, List.map_cons, List.map_nil, List.append_nil, List.nil_append, E_event_Event.pv]; done) | (simp; done))), .eq rfl, .eq rfl, trivial⟩ trivial trivial) (an_ (Runs.coe (as' := [(.one (.pv (.bools (List.take (l_2).length l_2) false))), (.one (.pv (T_kinfolkref02_Event.pv (T_kinfolkref02_Event.mk n2 t3 t4))))]) (objs' := []) (rows' := []) (hrec_kinfolkref07_Event l_2 (T_kinfolkref02_Event.mk n2 t3 t4) _ h8) ⟨.pv (.bools (by first | rfl | (simp only [List.take_length]; done) | (simp only [List.take_length, List.length_append, List.drop_zero, List.map_append, List.map_take, List.map_drop, List.map_cons, List.map_nil, List.append_nil, List.nil_append, E_event_Event.pv]; done) | (simp; done))), .eq rfl, trivial⟩ trivial trivial) (an_ (Runs.coe (as' := [(.one (.pv (.bools (List.take (l_3).length l_3) false))), (.one (.pv (T_kinfolkref02_Event.pv t2)))]) (objs' := []) (rows' := []) (hrec_kinfolkref07_Event l_3 t2 _ h9) ⟨.pv (.bools (by first | rfl | (simp only [List.take_length]; done) | (simp only [List.take_length, List.length_append, List.drop_zero, List.map_append, List.map_take, List.map_drop, List.map_cons, List.map_nil, List.append_nil, List.nil_append, E_event_Event.pv]; done) | (simp; done))), .eq rfl, trivial⟩ trivial trivial) trivial)))))))))) (by kernel_rfl))
      · obtain ⟨l_2, h3, h⟩ := bind_of h
        obtain ⟨b, h4, h⟩ := bind_of h
        rcases cond_of h with ⟨h5, h⟩ | ⟨h5, h⟩
        · obtain ⟨l_3, h6, h⟩ := bind_of h
          obtain ⟨l_4, h7, h⟩ := bind_of h
          obtain ⟨l_5, h8, h⟩ := bind_of h
          have h := some_of h
          subst h
          exact runs_of (C := cfg) (objs := []) (sc := [.br false, .res (kinfolkref05_Put_out l 0 1 l_), .br false, .res (kinfolkref05_Put_out l_ 3 2 l_2), .res (kinfolkref07_zero_out (T_kinfolkref02_Event.mk n2 t3 t4) b), .br true, .res (kinfolkref05_Put_out l_2 0 2 l_3), .res (kinfolkref05_Num_out l_3 n l_4), .res (kinfolkref07_Event_out l_4 t2 l_5)]) (.k0 (an_ (rfl : false = false) (an_ (kinfolkref05_Put_runs l 0 1 _ h1) (an_ h2 (an_ (Runs.coe (as' := [(.one (.pv (.bools (List.take (l_).length l_) false))), (.one (.pv (.int .u64 3))), (.one (.pv (.int .i64 2)))]) (objs' := []) (rows' := []) (kinfolkref05_Put_runs l_ 3 2 _ h3) ⟨.pv (.bools (by first | rfl | (simp only [List.take_length]; done) | (simp only [List.take_length, List.length_append, List.drop_zero, List.map_append, List.map_take, List.map_drop, List.map_cons, List.map_nil, List.append_nil, List.nil_append, E_event_Event.pv]; done) | (simp; done))), .eq rfl, .eq rfl, trivial⟩ trivial trivial) (an_ (kinfolkref07_zero_runs (T_kinfolkref02_Event.mk n2 t3 t4) _ h4) (an_ h5 (an_ (Runs.coe (as' := [(.one (.pv (.bools (List.take (l_2).length l_2) false))), (.one (.pv (.int .u64 0))), (.one (.pv (.int .i64 2)))]) (objs' := []) (rows' := []) (kinfolkref05_Put_runs l_2 0 2 _ h6) ⟨.pv (.bools (by first | rfl | (simp only [List.take_length]; done) | (simp only [List.take_length, List.length_append, List.drop_zero, List.map_append, List.map_take, List.map_drop, List.map_cons, List.map_nil, List.append_nil, List.nil_append, E_event_Event.pv]; done) | (simp; done))), .eq rfl, .eq rfl, trivial⟩ trivial trivial) (an_ (Runs.coe (as' := [(.one (.pv (.bools (List.take (l_3).length l_3) false))), (.one (.pv (.int .u64 n)))]) (objs' := []) (rows' := []) (kinfolkref05_Num_runs l_3 n _ h7) ⟨.pv (.bools (by first | rfl | (simp only [List.take_length]; done) | (simp only [List.take_length, List.length_append, List.drop_zero, List.map_append, List.map_take, List.map_drop, List.map_cons, List.map_nil, List.append_nil, List.nil_append, E_event_Event.pv]; done) | (simp; done))), .eq rfl, trivial⟩ trivial trivial) (an_ (Runs.coe (as' := [(.one (.pv (.bools (List.take (l_4).length l_4) false))), (.one (.pv (T_kinfolkref02_Event.pv t2)))]) (objs' := []) (rows' := []) (hrec_kinfolkref07_Event l_4 t2 _ h8) ⟨.pv (.bools (by first | rfl | (simp only [List.take_length]; done) | (simp only [List.take_length, List.length_append, List.drop_zero, List.map_append, List.map_take, List.map_drop, List.map_cons, List.map_nil, List.append_nil, List.nil_append, E_event_Event.pv]; done) | (simp; done))), .eq rfl, trivial⟩ trivial trivial) trivial))))))))) (by kernel_rfl))
        · obtain ⟨b2, h6, h⟩ := bind_of h
          rcases cond_of h with ⟨h7, h⟩ | ⟨h7, h⟩
          · obtain ⟨l_3, h8, h⟩ := bind_of h
            obtain ⟨l_4, h9, h⟩ := bind_of h
            obtain ⟨l_5, h10, h⟩ := bind_of h
            have h := some_of h
            subst h
            exact runs_of (C := cfg) (objs := []) (sc := [.br false, .res (kinfolkref05_Put_out l 0 1 l_), .br false, .res (kinfolkref05_Put_out l_ 3 2 l_2), .res (kinfolkref07_zero_out (T_kinfolkref02_Event.mk n2 t3 t4) b), .br false, .res (kinfolkref07_zero_out t2 b2), .br true, .res (kinfolkref05_Put_out l_2 1 2 l_3), .res (kinfolkref05_Num_out l_3 n l_4), .res (kinfolkref07_Event_out l_4 (T_kinfolkref02_Event.mk n2 t3 t4) l_5)]) (.k0 (an_ (rfl : false = false) (an_ (kinfolkref05_Put_runs l 0 1 _ h1) (an_ h2 (an_ (Runs.coe (as' := [(.one (.pv (.bools (List.take (l_).length l_) false))), (.one (.pv (.int .u64 3))), (.one (.pv (.int .i64 2)))]) (objs' := []) (rows' := []) (kinfolkref05_Put_runs l_ 3 2 _ h3) ⟨.pv (.bools (by first | rfl | (simp only [List.take_length]; done) | (simp only [List.take_length, List.length_append, List.drop_zero, List.map_append, List.map_take, List.map_drop, List.map_cons, List.map_nil, List.append_nil, List.nil_append, E_event_Event.pv]; done) | (simp; done))), .eq rfl, .eq rfl, trivial⟩ trivial trivial) (an_ (kinfolkref07_zero_runs (T_kinfolkref02_Event.mk n2 t3 t4) _ h4) (an_ h5 (an_ (kinfolkref07_zero_runs t2 _ h6) (an_ h7 (an_ (Runs.coe (as' := [(.one (.pv (.bools (List.take (l_2).length l_2) false))), (.one (.pv (.int .u64 1))), (.one (.pv (.int .i64 2)))]) (objs' := []) (rows' := []) (kinfolkref05_Put_runs l_2 1 2 _ h8) ⟨.pv (.bools (by first | rfl | (simp only [List.take_length]; done) | (simp only [List.take_length, List.length_append, List.drop_zero, List.map_append, List.map_take, List.map_drop, List.map_cons, List.map_nil, List.append_nil, List.nil_append, E_event_Event.pv]; done) | (simp; done))), .eq rfl, .eq rfl, trivial⟩ trivial trivial) (an_ (Runs.coe (as' := [(.one (.pv (.bools (List.take (l_3).length l_3) false))), (.one (.pv (.int .u64 n)))]) (objs' := []) (rows' := []) (kinfolkref05_Num_runs l_3 n _ h9) ⟨.pv (.bools (by first | rfl | (simp only [List.take_length]; done) | (simp only [List.take_length, List.length_append, List.drop_zero, List.map_append, List.map_take, List.map_drop, List.map_cons, List.map_nil, List.append_nil, List.nil_append, E_event_Event.pv]; done) | (simp; done))), .eq rfl, trivial⟩ trivial trivial) (an_ (Runs.coe (as' := [(.one (.pv (.bools (List.take (l_4).length l_4) false))), (.one (.pv (T_kinfolkref02_Event.pv (T_kinfolkref02_Event.mk n2 t3 t4))))]) (objs' := []) (rows' := []) (hrec_kinfolkref07_Event l_4 (T_kinfolkref02_Event.mk n2 t3 t4) _ h10) ⟨.pv (.bools (by first | rfl | (simp only [List.take_length]; done) | (simp only [List.take_length, List.length_append, List.drop_zero, List.map_append, List.map_take, List.map_drop, List.map_cons, List.map_nil, List.append_nil, List.nil_append, E_event_Event.pv]; done) | (simp; done))), .eq rfl, trivial⟩ trivial trivial) trivial))))))))))) (by kernel_rfl))
          · obtain ⟨l_3, h8, h⟩ := bind_of h
            obtain ⟨l_4, h9, h⟩ := bind_of h
            obtain ⟨l_5, h10, h⟩ := bind_of h
            obtain ⟨l_6, h11, h⟩ := bind_of h
            have h := some_of h
            subst h
            exact runs_of (C := cfg) (objs := []) (sc := [.br false, .res (kinfolkref05_Put_out l 0 1 l_), .br false, .res (kinfolkref05_Put_out l_ 3 2 l_2), .res (kinfolkref07_zero_out (T_kinfolkref02_Event.mk n2 t3 t4) b), .br false, .res (kinfolkref07_zero_out t2 b2), .br false, .res (kinfolkref05_Put_out l_2 1 1 l_3), .res (kinfolkref05_Num_out l_3 n l_4), .res (kinfolkref07_Event_out l_4 (T_kinfolkref02_Event.mk n2 t3 t4) l_5), .res (kinfolkref07_Event_out l_5 t2 l_6)]) (.k0 (an_ (rfl : false = false) (an_ (kinfolkref05_Put_runs l 0 1 _ h1) (an_ h2 (an_ (Runs.coe (as' := [(.one (.pv (.bools (List.take (l_).length l_) false))), (.one (.pv (.int .u64 3))), (.one (.pv (.int .i64 2)))]) (objs' := []) (rows' := []) (kinfolkref05_Put_runs l_ 3 2 _ h3) ⟨.pv (.bools (by first | rfl | (simp only [List.take_length]; done) | (simp only [List.take_length, List.length_append, List.drop_zero, List.map_append, List.map_take, List.map_drop, List.map_cons, List.map_nil, List.append_nil, List.nil_append, E_event_Event.pv]; done) | (simp; done))), .eq rfl, .eq rfl, trivial⟩ trivial trivial) (an_ (kinfolkref07_zero_runs (T_kinfolkref02_Event.mk n2 t3 t4) _ h4) (an_ h5 (an_ (kinfolkref07_zero_runs t2 _ h6) (an_ h7 (an_ (Runs.coe (as' := [(.one (.pv (.bools (List.take (l_2).length l_2) false))), (.one (.pv (.int .u64 1))), (.one (.pv (.int .i64 1)))]) (objs' := []) (rows' := []) (kinfolkref05_Put_runs l_2 1 1 _ h8) ⟨.pv (.bools (by first | rfl | (simp only [List.take_length]; done) | (simp only [List.take_length, List.length_append, List.drop_zero, List.map_append, List.map_take, List.map_drop, List.map_cons, List.map_nil, List.append_nil, List.nil_append, E_event_Event.pv]; done) | (simp; done))), .eq rfl, .eq rfl, trivial⟩ trivial trivial) (an_ (Runs.coe (as' := [(.one (.pv (.bools (List.take (l_3).length l_3) false))), (.one (.pv (.int .u64 n)))]) (objs' := []) (rows' := []) (kinfolkref05_Num_runs l_3 n _ h9) ⟨.pv (.bools (by first | rfl | (simp only [List.take_length]; done) | (simp only [List.take_length, List.length_append, List.drop_zero, List.map_append, List.map_take, List.map_drop, List.map_cons, List.map_nil, List.append_nil, List.nil_append, E_event_Event.pv]; done) | (simp; done))), .eq rfl, trivial⟩ trivial trivial) (an_ (Runs.coe (as' := [(.one (.pv (.bools (List.take (l_4).length l_4) false))), (.one (.pv (T_kinfolkref02_Event.pv (T_kinfolkref02_Event.mk n2 t3 t4))))]) (objs' := []) (rows' := []) (hrec_kinfolkref07_Event l_4 (T_kinfolkref02_Event.mk n2 t3 t4) _ h10) ⟨.pv (.bools (by first | rfl | (simp only [List.take_length]; done) | (simp only [List.take_length, List.length_append, List.drop_zero, List.map_append, List.map_take, List.map_drop, List.map_cons, List.map_nil, List.append_nil, List.nil_append, E_event_Event.pv]; done) | (simp; done))), .eq rfl, trivial⟩ trivial trivial) (an_ (Runs.coe (as' := [(.one (.pv (.bools (List.take (l_5).length l_5) false))), (.one (.pv (T_kinfolkref02_Event.pv t2)))]) (objs' := []) (rows' := []) (hrec_kinfolkref07_Event l_5 t2 _ h11) ⟨.pv (.bools (by first | rfl | (simp only [List.take_length]; done) | (simp only [List.take_length, List.length_append, List.drop_zero, List.map_append, List.map_take, List.map_drop, List.map_cons, List.map_nil, List.append_nil, List.nil_append, E_event_Event.pv]; done) | (simp; done))), .eq rfl, trivial⟩ trivial trivial) trivial)))))))))))) (by kernel_rfl))
noncomputable def kinfolkref07_Event : Nat → List Bool → T_kinfolkref02_Event → Option (List Bool)
  | 0, _, _ => none
  | N + 1, l, e => kinfolkref07_Event_b (kinfolkref07_Event N) l e
theorem kinfolkref07_Event_runs : ∀ (N : Nat) (l : List Bool) (e : T_kinfolkref02_Event) (r_ : List Bool), kinfolkref07_Event N l e = some r_ → Runs Try.prog 31 [(.one (.pv (.bools l false))), (.one (.pv (T_kinfolkref02_Event.pv e)))] [] [] (kinfolkref07_Event_out l e r_)
  | 0, _, _, _, h => by cases h
  | N + 1, l, e, r_, h => kinfolkref07_Event_b_runs (kinfolkref07_Event N) (kinfolkref07_Event_runs N) l e r_ h
/-! ### kinfolkref07_Stamp -/
noncomputable def kinfolkref07_Stamp (N : Nat) (s : T_kinfolkref01_ID) (s2 : T_kinfolkref02_Event) : Option (List Bool) :=
  (kinfolkref07_ID N [] s).bind fun l_ =>
  (kinfolkref07_Event N l_ s2).bind fun l_2 =>
  some l_2
theorem kinfolkref07_Stamp_runs (N : Nat) (s : T_kinfolkref01_ID) (s2 : T_kinfolkref02_Event) (r_ : List Bool) (h : kinfolkref07_Stamp N s s2 = some r_) : Runs Try.prog 29 [(.agg [(.pv (T_kinfolkref01_ID.pv s)), (.pv (T_kinfolkref02_Event.pv s2))])] [] [] (kinfolkref07_Stamp_out s s2 r_) := by
  unfold kinfolkref07_Stamp at h
  obtain ⟨l_, h1, h⟩ := bind_of h
  obtain ⟨l_2, h2, h⟩ := bind_of h
  have h := some_of h
  subst h
  exact runs_of (C := cfg) (objs := []) (sc := [.res (kinfolkref07_ID_out [] s l_), .res (kinfolkref07_ID_out [] s l_), .res (kinfolkref07_Event_out l_ s2 l_2)]) (.k1 (an_ (Runs.coe (as' := [(.one (.pv .nils)), (.one (.pv (T_kinfolkref01_ID.pv s)))]) (objs' := []) (rows' := []) (kinfolkref07_ID_runs N [] s _ h1) ⟨.pv (.nilsB), .eq rfl, trivial⟩ trivial trivial) (an_ (Runs.coe (as' := [(.one (.pv .nils)), (.one (.pv (T_kinfolkref01_ID.pv s)))]) (objs' := []) (rows' := []) (kinfolkref07_ID_runs N [] s _ h1) ⟨.pv (.nilsB), .eq rfl, trivial⟩ trivial trivial) (an_ (Runs.coe (as' := [(.one (.pv (.bools (List.take (l_).length l_) false))), (.one (.pv (T_kinfolkref02_Event.pv s2)))]) (objs' := []) (rows' := []) (kinfolkref07_Event_runs N l_ s2 _ h2) ⟨.pv (.bools (by first | rfl | (simp only [List.take_length]; done) | (simp only [List.take_length, List.length_append, List.drop_zero, List.map_append, List.map_take, List.map_drop, List.map_cons, List.map_nil, List.append_nil, List.nil_append, E_event_Event.pv]; done) | (simp; done))), .eq rfl, trivial⟩ trivial trivial) trivial))) (by kernel_rfl) (by kernel_rfl))
/-! ### kinfolkref05_Bytes_out -/
def kinfolkref05_Bytes_out (l : List Bool) : List Int → Res
  | r1 => ([(.one (.own 0 0 (r1).length false))], [], [(.ints .u8 r1)])
/-! ### kinfolkref05_Bytes_L1_3 -/
def kinfolkref05_Bytes_L1_3_st (l : List Bool) (i : Int) (l2 : List Int) : Int × Int → St
  | (b, k) => ⟨[(0, (.av (.one (.pv (.bools l false))))), (3, (.av (.one (.own 0 0 (l2).length false)))), (4, (.av (.one (.pv (.int .i64 i))))), (5, (.av (.one (.pv (.int .u8 b))))), (6, (.av (.one (.pv (.int .i64 k)))))], [], [(0, (.live (.ints .u8 l2)))]⟩
def kinfolkref05_Bytes_L1_3_ex (l : List Bool) (i : Int) (l2 : List Int) : Int → Ex × St
  | r1 => ((.exit 2), ⟨[(0, (.av (.one (.pv (.bools l false))))), (3, (.av (.one (.own 0 0 (l2).length false)))), (4, (.av (.one (.pv (.int .i64 i))))), (5, (.av (.one (.pv (.int .u8 r1)))))], [], [(0, (.live (.ints .u8 l2)))]⟩)
noncomputable def kinfolkref05_Bytes_L1_3_step (l : List Bool) (i : Int) (l2 : List Int) : Int × Int → Option ((Int × Int) ⊕ (Int))
  | (b, k) =>
  bif (decide ((k : Int) < 8)) then
    bif (decide (((iadd .i64 i k) : Int) < ((l).length : Int))) then
      bif decide ((0 : Int) ≤ (iadd .i64 i k)) && decide (((iadd .i64 i k) : Int) < ((l).length : Int)) then
      bif (l.getD ((iadd .i64 i k)).toNat false) then
        some (.inl ((iadd .u8 (imul .u8 b 2) 1), (iadd .i64 k 1)))
      else
        some (.inl ((imul .u8 b 2), (iadd .i64 k 1)))
      else none
    else
      some (.inl ((imul .u8 b 2), (iadd .i64 k 1)))
  else
    some (.inr b)
theorem kinfolkref05_Bytes_L1_3_ok (l : List Bool) (i : Int) (l2 : List Int) (s_ : Int × Int) (z_ : (Int × Int) ⊕ (Int)) (h : kinfolkref05_Bytes_L1_3_step l i l2 s_ = some z_) : RoundOk Try.prog cfg 28 0 (loopAt Try.prog 28 1) (kinfolkref05_Bytes_L1_3_st l i l2) (kinfolkref05_Bytes_L1_3_ex l i l2) s_ z_ := by
  rcases s_ with ⟨b, k⟩
  rcases cond_of h with ⟨h1, h⟩ | ⟨h1, h⟩
  · rcases cond_of h with ⟨h2, h⟩ | ⟨h2, h⟩
    · obtain ⟨h3, h⟩ := need_of h
      rcases cond_of h with ⟨h4, h⟩ | ⟨h4, h⟩
      · have h := some_of h
        subst h
        exact ⟨[.br true, .br true, .br true], kinfolkref05_Bytes_L1_3_st l i l2 ((iadd .u8 (imul .u8 b 2) 1), (iadd .i64 k 1)), .k0 (an_ h1 (an_ h2 (an_ h3 (an_ h4 trivial)))) (by kernel_rfl), .same (by kernel_rfl)⟩
      · have h := some_of h
        subst h
        exact ⟨[.br true, .br true, .br false], kinfolkref05_Bytes_L1_3_st l i l2 ((imul .u8 b 2), (iadd .i64 k 1)), .k0 (an_ h1 (an_ h2 (an_ h3 (an_ h4 trivial)))) (by kernel_rfl), .same (by kernel_rfl)⟩
    · have h := some_of h
      subst h
      exact ⟨[.br true, .br false, .br false], kinfolkref05_Bytes_L1_3_st l i l2 ((imul .u8 b 2), (iadd .i64 k 1)), .k0 (an_ h1 (an_ h2 (an_ (rfl : false = false) trivial))) (by kernel_rfl), .same (by kernel_rfl)⟩
  · have h := some_of h
    subst h
    exact ⟨[.br false], ⟨[(14, (.av (.one (.pv (.bool false))))), (0, (.av (.one (.pv (.bools l false))))), (3, (.av (.one (.own 0 0 (l2).length false)))), (4, (.av (.one (.pv (.int .i64 i))))), (5, (.av (.one (.pv (.int .u8 b))))), (6, (.av (.one (.pv (.int .i64 k))))), (14, (.av (.one (.pv (.bool (decide ((k : Int) < 8)))))))], [], [(0, (.live (.ints .u8 l2)))]⟩, .k0 (an_ h1 trivial) (by kernel_rfl), ⟨⟨⟨_, rfl, .eq rfl⟩, ⟨_, rfl, .eq rfl⟩, ⟨_, rfl, .eq rfl⟩, ⟨_, rfl, .eq rfl⟩, trivial⟩, trivial, ⟨⟨rfl, .eq rfl⟩, trivial⟩⟩⟩
theorem kinfolkref05_Bytes_L1_3_runs (l : List Bool) (i : Int) (l2 : List Int) (s_ : Int × Int) (r_ : Int) (h : runL (kinfolkref05_Bytes_L1_3_step l i l2) s_ = some r_) : LRuns Try.prog (lEnv Try.prog cfg 28 0).nt 0 (.loop (loopAt Try.prog 28 1)) (kinfolkref05_Bytes_L1_3_st l i l2 s_) (kinfolkref05_Bytes_L1_3_ex l i l2 r_).1 (kinfolkref05_Bytes_L1_3_ex l i l2 r_).2 :=
  loop_run h (kinfolkref05_Bytes_L1_3_ok l i l2) (by intro r_; rcases r_ with r1 <;> simp [kinfolkref05_Bytes_L1_3_ex])
/-! ### kinfolkref05_Bytes_L0_2 -/
def kinfolkref05_Bytes_L0_2_st (l : List Bool) : Int × List Int → St
  | (i, l2) => ⟨[(0, (.av (.one (.pv (.bools l false))))), (3, (.av (.one (.own 0 0 (l2).length false)))), (4, (.av (.one (.pv (.int .i64 i)))))], [], [(0, (.live (.ints .u8 l2)))]⟩
def kinfolkref05_Bytes_L0_2_ex (l : List Bool) : List Int → Ex × St
  | r1 => ((.exit 0), ⟨[(3, (.av (.one (.own 0 0 (r1).length false))))], [], [(0, (.live (.ints .u8 r1)))]⟩)
noncomputable def kinfolkref05_Bytes_L0_2_step (l : List Bool) : Int × List Int → Option ((Int × List Int) ⊕ (List Int))
  | (i, l2) =>
  bif (decide ((i : Int) < ((l).length : Int))) then
    (runL (kinfolkref05_Bytes_L1_3_step l i l2) (0, 0)).bind fun n =>
    bif fits ((l2 ++ [n])).length then
    some (.inl ((iadd .i64 i 8), (l2 ++ [n])))
    else none
  else
    some (.inr l2)
theorem kinfolkref05_Bytes_L0_2_ok (l : List Bool) (s_ : Int × List Int) (z_ : (Int × List Int) ⊕ (List Int)) (h : kinfolkref05_Bytes_L0_2_step l s_ = some z_) : RoundOk Try.prog cfg 28 0 (loopAt Try.prog 28 0) (kinfolkref05_Bytes_L0_2_st l) (kinfolkref05_Bytes_L0_2_ex l) s_ z_ := by
  rcases s_ with ⟨i, l2⟩
  rcases cond_of h with ⟨h1, h⟩ | ⟨h1, h⟩
  · obtain ⟨n, h2, h⟩ := bind_of h
    obtain ⟨h3, h⟩ := need_of h
    have h := some_of h
    subst h
    exact ⟨[.br true, .lp (kinfolkref05_Bytes_L1_3_ex l i l2 n).1 (kinfolkref05_Bytes_L1_3_ex l i l2 n).2], kinfolkref05_Bytes_L0_2_st l ((iadd .i64 i 8), (l2 ++ [n])), .k0 (an_ h1 (an_ (kinfolkref05_Bytes_L1_3_runs l i l2 _ _ h2) (an_ (show (Nat.beq (l2).length (l2).length) = true from Nat.beq_refl _) (an_ h3 trivial)))) (by kernel_rfl), .same (by kernel_rfl)⟩
  · have h := some_of h
    subst h
    exact ⟨[.br false], ⟨[(10, (.av (.one (.pv (.bool false))))), (0, (.av (.one (.pv (.bools l false))))), (3, (.av (.one (.own 0 0 (l2).length false)))), (4, (.av (.one (.pv (.int .i64 i))))), (10, (.av (.one (.pv (.bool (decide ((i : Int) < ((l).length : Int))))))))], [], [(0, (.live (.ints .u8 l2)))]⟩, .k0 (an_ h1 trivial) (by kernel_rfl), ⟨⟨⟨_, rfl, .eq rfl⟩, trivial⟩, trivial, ⟨⟨rfl, .eq rfl⟩, trivial⟩⟩⟩
theorem kinfolkref05_Bytes_L0_2_runs (l : List Bool) (s_ : Int × List Int) (r_ : List Int) (h : runL (kinfolkref05_Bytes_L0_2_step l) s_ = some r_) : LRuns Try.prog (lEnv Try.prog cfg 28 0).nt 0 (.loop (loopAt Try.prog 28 0)) (kinfolkref05_Bytes_L0_2_st l s_) (kinfolkref05_Bytes_L0_2_ex l r_).1 (kinfolkref05_Bytes_L0_2_ex l r_).2 :=
  loop_run h (kinfolkref05_Bytes_L0_2_ok l) (by intro r_; rcases r_ with r1 <;> simp [kinfolkref05_Bytes_L0_2_ex])
/-! ### kinfolkref05_Bytes -/
noncomputable def kinfolkref05_Bytes (l : List Bool) : Option (List Int) :=
  (runL (kinfolkref05_Bytes_L0_2_step l) (0, [])).bind fun l_ =>
  some l_
theorem kinfolkref05_Bytes_runs (l : List Bool) (r_ : List Int) (h : kinfolkref05_Bytes l = some r_) : Runs Try.prog 28 [(.one (.pv (.bools l false)))] [] [] (kinfolkref05_Bytes_out l r_) := by
  unfold kinfolkref05_Bytes at h
  obtain ⟨l_, h1, h⟩ := bind_of h
  have h := some_of h
  subst h
  exact runs_of (C := cfg) (objs := []) (sc := [.lp (kinfolkref05_Bytes_L0_2_ex l l_).1 (kinfolkref05_Bytes_L0_2_ex l l_).2]) (.k0 (an_ (LRuns.coe (s0 := ⟨[(0, (.av (.one (.pv (.bools l false))))), (3, (.av (.one (.own 0 0 0 false)))), (4, (.av (.one (.pv (.int .i64 0)))))], [], [(0, (.live (.ints .u8 [])))]⟩) (kinfolkref05_Bytes_L0_2_runs l _ _ h1) ⟨⟨⟨_, rfl, .eq rfl⟩, ⟨_, rfl, .own (by first | rfl | (simp only [List.take_length]; done) | (simp only [List.take_length, List.length_append, List.drop_zero, List.map_append, List.map_take, List.map_drop, List.map_cons, List.map_nil, List.append_nil, List.nil_append, E_event_Event.pv]; done) | (simp; done))⟩, ⟨_, rfl, .eq rfl⟩, trivial⟩, trivial, ⟨⟨rfl, .eq rfl⟩, trivial⟩⟩) trivial) (by kernel_rfl))
/-! ### kinfolklaw07_CodeWrites -/
noncomputable def kinfolklaw07_CodeWrites (N : Nat) (p : List Int) (q : List Int) : Option (Bool) :=
  (kinfolklaw07_awake N).bind fun b =>
  bif b then
    (kinfolklaw07_made N p q).bind fun (b2, t, n, t2, t3, t4) =>
    (code_Stamp N b2 t n t2).bind fun l_ =>
    (code_ReadStamp N l_).bind fun (b3, t5, n2, t6, n3) =>
    (code_ID N b2 t).bind fun l_2 =>
    (code_ReadID N l_2).bind fun (b4, t7, n4) =>
    (code_Event N n t2).bind fun l_3 =>
    (code_ReadEvent N l_3).bind fun (n5, t8, n6) =>
    (kinfolkref07_Stamp N t3 t4).bind fun l_4 =>
    (kinfolkref05_Bytes l_4).bind fun l_5 =>
    (bytes_Equal l_ l_5).bind fun b5 =>
    bif b5 then
      bif (decide ((n3 : Int) = 0)) then
        (stamp_Same N b2 t n t2 b3 t5 n2 t6).bind fun b6 =>
        bif b6 then
          bif (decide ((n4 : Int) = 0)) then
            (id_Same N b4 t7 b2 t).bind fun b7 =>
            bif b7 then
              bif (decide ((n6 : Int) = 0)) then
                (event_Same N n5 t8 n t2).bind fun b8 =>
                bif b8 then
                  (kinfolkref07_ID N [] t3).bind fun l_6 =>
                  (kinfolkref05_Bytes l_6).bind fun l_7 =>
                  (bytes_Equal l_2 l_7).bind fun b9 =>
                  bif b9 then
                    (kinfolkref07_Event N [] t4).bind fun l_8 =>
                    (kinfolkref05_Bytes l_8).bind fun l_9 =>
                    (bytes_Equal l_3 l_9).bind fun b10 =>
                    some b10
                  else
                    some false
                else
                  some false
              else
                some false
            else
              some false
          else
            some false
        else
          some false
      else
        some false
    else
      some false
  else
    some false
theorem kinfolklaw07_CodeWrites_runs (N : Nat) (p : List Int) (q : List Int) (r_ : Bool) (h : kinfolklaw07_CodeWrites N p q = some r_) : Runs Try.prog 5 [(.one (.pv (.ints .u8 p false))), (.one (.pv (.ints .u8 q false)))] [] [] (kinfolklaw07_CodeWrites_out p q r_) := by
  unfold kinfolklaw07_CodeWrites at h
  obtain ⟨b, h1, h⟩ := bind_of h
  rcases cond_of h with ⟨h2, h⟩ | ⟨h2, h⟩
  · obtain ⟨⟨b2, t, n, t2, t3, t4⟩, h3, h⟩ := bind_of h
    obtain ⟨l_, h4, h⟩ := bind_of h
    obtain ⟨⟨b3, t5, n2, t6, n3⟩, h5, h⟩ := bind_of h
    obtain ⟨l_2, h6, h⟩ := bind_of h
    obtain ⟨⟨b4, t7, n4⟩, h7, h⟩ := bind_of h
    obtain ⟨l_3, h8, h⟩ := bind_of h
    obtain ⟨⟨n5, t8, n6⟩, h9, h⟩ := bind_of h
    obtain ⟨l_4, h10, h⟩ := bind_of h
    obtain ⟨l_5, h11, h⟩ := bind_of h
    obtain ⟨b5, h12, h⟩ := bind_of h
    rcases cond_of h with ⟨h13, h⟩ | ⟨h13, h⟩
    · rcases cond_of h with ⟨h14, h⟩ | ⟨h14, h⟩
      · obtain ⟨b6, h15, h⟩ := bind_of h
        rcases cond_of h with ⟨h16, h⟩ | ⟨h16, h⟩
        · rcases cond_of h with ⟨h17, h⟩ | ⟨h17, h⟩
          · obtain ⟨b7, h18, h⟩ := bind_of h
            rcases cond_of h with ⟨h19, h⟩ | ⟨h19, h⟩
            · rcases cond_of h with ⟨h20, h⟩ | ⟨h20, h⟩
              · obtain ⟨b8, h21, h⟩ := bind_of h
                rcases cond_of h with ⟨h22, h⟩ | ⟨h22, h⟩
                · obtain ⟨l_6, h23, h⟩ := bind_of h
                  obtain ⟨l_7, h24, h⟩ := bind_of h
                  obtain ⟨b9, h25, h⟩ := bind_of h
                  rcases cond_of h with ⟨h26, h⟩ | ⟨h26, h⟩
                  · obtain ⟨l_8, h27, h⟩ := bind_of h
                    obtain ⟨l_9, h28, h⟩ := bind_of h
                    obtain ⟨b10, h29, h⟩ := bind_of h
                    have h := some_of h
                    subst h
                    exact runs_of (C := cfg) (objs := []) (sc := [.res (kinfolklaw07_awake_out b), .br false, .res (kinfolklaw07_made_out p q (b2, t, n, t2, t3, t4)), .res (code_Stamp_out b2 t n t2 l_), .res (code_ReadStamp_out l_ (b3, t5, n2, t6, n3)), .res (code_ID_out b2 t l_2), .res (code_ReadID_out l_2 (b4, t7, n4)), .res (code_Event_out n t2 l_3), .res (code_ReadEvent_out l_3 (n5, t8, n6)), .res (kinfolkref07_Stamp_out t3 t4 l_4), .res (kinfolkref05_Bytes_out l_4 l_5), .res (bytes_Equal_out l_ l_5 b5), .br true, .br true, .res (stamp_Same_out b2 t n t2 b3 t5 n2 t6 b6), .br true, .br true, .res (id_Same_out b4 t7 b2 t b7), .br true, .br true, .res (event_Same_out n5 t8 n t2 b8), .br true, .res (code_ID_out b2 t l_2), .res (code_ID_out b2 t l_2), .res (kinfolkref07_ID_out [] t3 l_6), .res (kinfolkref05_Bytes_out l_6 l_7), .res (bytes_Equal_out l_2 l_7 b9), .br true, .res (code_Event_out n t2 l_3), .res (code_Event_out n t2 l_3), .res (kinfolkref07_Event_out [] t4 l_8), .res (kinfolkref05_Bytes_out l_8 l_9), .res (bytes_Equal_out l_3 l_9 b10)]) (.k1 (an_ (kinfolklaw07_awake_runs N _ h1) (an_ (not_of2 h2) (an_ (kinfolklaw07_made_runs N p q _ h3) (an_ (code_Stamp_runs N b2 t n t2 _ h4) (an_ (code_ReadStamp_runs N l_ _ h5) (an_ (code_ID_runs N b2 t _ h6) (an_ (code_ReadID_runs N l_2 _ h7) (an_ (code_Event_runs N n t2 _ h8) (an_ (code_ReadEvent_runs N l_3 _ h9) (an_ (kinfolkref07_Stamp_runs N t3 t4 _ h10) (an_ (Runs.coe (as' := [(.one (.pv (.bools (List.take (l_4).length l_4) false)))]) (objs' := []) (rows' := []) (kinfolkref05_Bytes_runs l_4 _ h11) ⟨.pv (.bools (by first | rfl | (simp only [List.take_length]; done) | (simp only [List.take_length, List.length_append, List.drop_zero, List.map_append, List.map_take, List.map_drop, List.map_cons, List.map_nil, List.append_nil, List.nil_append, E_event_Event.pv]; done) | (simp; done))), trivial⟩ trivial trivial) (an_ (Runs.coe (as' := [(.one (.pv (.ints .u8 l_ false))), (.one (.pv (.ints .u8 (List.take (l_5).length l_5) false)))]) (objs' := []) (rows' := []) (bytes_Equal_runs l_ l_5 _ h12) ⟨.eq rfl, .pv (.ints (by first | rfl | (simp only [List.take_length]; done) | (simp only [List.take_length, List.length_append, List.drop_zero, List.map_append, List.map_take, List.map_drop, List.map_cons, List.map_nil, List.append_nil, List.nil_append, E_event_Event.pv]; done) | (simp; done))), trivial⟩ trivial trivial) (an_ h13 (an_ h14 (an_ (stamp_Same_runs N b2 t n t2 b3 t5 n2 t6 _ h15) (an_ h16 (an_ h17 (an_ (id_Same_runs N b4 t7 b2 t _ h18) (an_ h19 (an_ h20 (an_ (event_Same_runs N n5 t8 n t2 _ h21) (an_ h22 (an_ (code_ID_runs N b2 t _ h6) (an_ (code_ID_runs N b2 t _ h6) (an_ (Runs.coe (as' := [(.one (.pv .nils)), (.one (.pv (T_kinfolkref01_ID.pv t3)))]) (objs' := []) (rows' := []) (kinfolkref07_ID_runs N [] t3 _ h23) ⟨.pv (.nilsB), .eq rfl, trivial⟩ trivial trivial) (an_ (Runs.coe (as' := [(.one (.pv (.bools (List.take (l_6).length l_6) false)))]) (objs' := []) (rows' := []) (kinfolkref05_Bytes_runs l_6 _ h24) ⟨.pv (.bools (by first | rfl | (simp only [List.take_length]; done) | (simp only [List.take_length, List.length_append, List.drop_zero, List.map_append, List.map_take, List.map_drop, List.map_cons, List.map_nil, List.append_nil, List.nil_append, E_event_Event.pv]; done) | (simp; done))), trivial⟩ trivial trivial) (an_ (Runs.coe (as' := [(.one (.pv (.ints .u8 l_2 false))), (.one (.pv (.ints .u8 (List.take (l_7).length l_7) false)))]) (objs' := []) (rows' := []) (bytes_Equal_runs l_2 l_7 _ h25) ⟨.eq rfl, .pv (.ints (by first | rfl | (simp only [List.take_length]; done) | (simp only [List.take_length, List.length_append, List.drop_zero, List.map_append, List.map_take, List.map_drop, List.map_cons, List.map_nil, List.append_nil, List.nil_append, E_event_Event.pv]; done) | (simp; done))), trivial⟩ trivial trivial) (an_ h26 (an_ (code_Event_runs N n t2 _ h8) (an_ (code_Event_runs N n t2 _ h8) (an_ (Runs.coe (as' := [(.one (.pv .nils)), (.one (.pv (T_kinfolkref02_Event.pv t4)))]) (objs' := []) (rows' := []) (kinfolkref07_Event_runs N [] t4 _ h27) ⟨.pv (.nilsB), .eq rfl, trivial⟩ trivial trivial) (an_ (Runs.coe (as' := [(.one (.pv (.bools (List.take (l_8).length l_8) false)))]) (objs' := []) (rows' := []) (kinfolkref05_Bytes_runs l_8 _ h28) ⟨.pv (.bools (by first | rfl | (simp only [List.take_length]; done) | (simp only [List.take_length, List.length_append, List.drop_zero, List.map_append, List.map_take, List.map_drop, List.map_cons, List.map_nil, List.append_nil, List.nil_append, E_event_Event.pv]; done) | (simp; done))), trivial⟩ trivial trivial) (an_ (Runs.coe (as' := [(.one (.pv (.ints .u8 l_3 false))), (.one (.pv (.ints .u8 (List.take (l_9).length l_9) false)))]) (objs' := []) (rows' := []) (bytes_Equal_runs l_3 l_9 _ h29) ⟨.eq rfl, .pv (.ints (by first | rfl | (simp only [List.take_length]; done) | (simp only [List.take_length, List.length_append, List.drop_zero, List.map_append, List.map_take, List.map_drop, List.map_cons, List.map_nil, List.append_nil, List.nil_append, E_event_Event.pv]; done) | (simp; done))), trivial⟩ trivial trivial) trivial))))))))))))))))))))))))))))))))) (by kernel_rfl) (by kernel_rfl))
                  · have h := some_of h
                    subst h
                    exact runs_of (C := cfg) (objs := []) (sc := [.res (kinfolklaw07_awake_out b), .br false, .res (kinfolklaw07_made_out p q (b2, t, n, t2, t3, t4)), .res (code_Stamp_out b2 t n t2 l_), .res (code_ReadStamp_out l_ (b3, t5, n2, t6, n3)), .res (code_ID_out b2 t l_2), .res (code_ReadID_out l_2 (b4, t7, n4)), .res (code_Event_out n t2 l_3), .res (code_ReadEvent_out l_3 (n5, t8, n6)), .res (kinfolkref07_Stamp_out t3 t4 l_4), .res (kinfolkref05_Bytes_out l_4 l_5), .res (bytes_Equal_out l_ l_5 b5), .br true, .br true, .res (stamp_Same_out b2 t n t2 b3 t5 n2 t6 b6), .br true, .br true, .res (id_Same_out b4 t7 b2 t b7), .br true, .br true, .res (event_Same_out n5 t8 n t2 b8), .br true, .res (code_ID_out b2 t l_2), .res (code_ID_out b2 t l_2), .res (kinfolkref07_ID_out [] t3 l_6), .res (kinfolkref05_Bytes_out l_6 l_7), .res (bytes_Equal_out l_2 l_7 b9), .br false]) (.k1 (an_ (kinfolklaw07_awake_runs N _ h1) (an_ (not_of2 h2) (an_ (kinfolklaw07_made_runs N p q _ h3) (an_ (code_Stamp_runs N b2 t n t2 _ h4) (an_ (code_ReadStamp_runs N l_ _ h5) (an_ (code_ID_runs N b2 t _ h6) (an_ (code_ReadID_runs N l_2 _ h7) (an_ (code_Event_runs N n t2 _ h8) (an_ (code_ReadEvent_runs N l_3 _ h9) (an_ (kinfolkref07_Stamp_runs N t3 t4 _ h10) (an_ (Runs.coe (as' := [(.one (.pv (.bools (List.take (l_4).length l_4) false)))]) (objs' := []) (rows' := []) (kinfolkref05_Bytes_runs l_4 _ h11) ⟨.pv (.bools (by first | rfl | (simp only [List.take_length]; done) | (simp only [List.take_length, List.length_append, List.drop_zero, List.map_append, List.map_take, List.map_drop, List.map_cons, List.map_nil, List.append_nil, List.nil_append, E_event_Event.pv]; done) | (simp; done))), trivial⟩ trivial trivial) (an_ (Runs.coe (as' := [(.one (.pv (.ints .u8 l_ false))), (.one (.pv (.ints .u8 (List.take (l_5).length l_5) false)))]) (objs' := []) (rows' := []) (bytes_Equal_runs l_ l_5 _ h12) ⟨.eq rfl, .pv (.ints (by first | rfl | (simp only [List.take_length]; done) | (simp only [List.take_length, List.length_append, List.drop_zero, List.map_append, List.map_take, List.map_drop, List.map_cons, List.map_nil, List.append_nil, List.nil_append, E_event_Event.pv]; done) | (simp; done))), trivial⟩ trivial trivial) (an_ h13 (an_ h14 (an_ (stamp_Same_runs N b2 t n t2 b3 t5 n2 t6 _ h15) (an_ h16 (an_ h17 (an_ (id_Same_runs N b4 t7 b2 t _ h18) (an_ h19 (an_ h20 (an_ (event_Same_runs N n5 t8 n t2 _ h21) (an_ h22 (an_ (code_ID_runs N b2 t _ h6) (an_ (code_ID_runs N b2 t _ h6) (an_ (Runs.coe (as' := [(.one (.pv .nils)), (.one (.pv (T_kinfolkref01_ID.pv t3)))]) (objs' := []) (rows' := []) (kinfolkref07_ID_runs N [] t3 _ h23) ⟨.pv (.nilsB), .eq rfl, trivial⟩ trivial trivial) (an_ (Runs.coe (as' := [(.one (.pv (.bools (List.take (l_6).length l_6) false)))]) (objs' := []) (rows' := []) (kinfolkref05_Bytes_runs l_6 _ h24) ⟨.pv (.bools (by first | rfl | (simp only [List.take_length]; done) | (simp only [List.take_length, List.length_append, List.drop_zero, List.map_append, List.map_take, List.map_drop, List.map_cons, List.map_nil, List.append_nil, List.nil_append, E_event_Event.pv]; done) | (simp; done))), trivial⟩ trivial trivial) (an_ (Runs.coe (as' := [(.one (.pv (.ints .u8 l_2 false))), (.one (.pv (.ints .u8 (List.take (l_7).length l_7) false)))]) (objs' := []) (rows' := []) (bytes_Equal_runs l_2 l_7 _ h25) ⟨.eq rfl, .pv (.ints (by first | rfl | (simp only [List.take_length]; done) | (simp only [List.take_length, List.length_append, List.drop_zero, List.map_append, List.map_take, List.map_drop, List.map_cons, List.map_nil, List.append_nil, List.nil_append, E_event_Event.pv]; done) | (simp; done))), trivial⟩ trivial trivial) (an_ h26 trivial)))))))))))))))))))))))))))) (by kernel_rfl) (by kernel_rfl))
                · have h := some_of h
                  subst h
                  exact runs_of (C := cfg) (objs := []) (sc := [.res (kinfolklaw07_awake_out b), .br false, .res (kinfolklaw07_made_out p q (b2, t, n, t2, t3, t4)), .res (code_Stamp_out b2 t n t2 l_), .res (code_ReadStamp_out l_ (b3, t5, n2, t6, n3)), .res (code_ID_out b2 t l_2), .res (code_ReadID_out l_2 (b4, t7, n4)), .res (code_Event_out n t2 l_3), .res (code_ReadEvent_out l_3 (n5, t8, n6)), .res (kinfolkref07_Stamp_out t3 t4 l_4), .res (kinfolkref05_Bytes_out l_4 l_5), .res (bytes_Equal_out l_ l_5 b5), .br true, .br true, .res (stamp_Same_out b2 t n t2 b3 t5 n2 t6 b6), .br true, .br true, .res (id_Same_out b4 t7 b2 t b7), .br true, .br true, .res (event_Same_out n5 t8 n t2 b8), .br false, .br false]) (.k1 (an_ (kinfolklaw07_awake_runs N _ h1) (an_ (not_of2 h2) (an_ (kinfolklaw07_made_runs N p q _ h3) (an_ (code_Stamp_runs N b2 t n t2 _ h4) (an_ (code_ReadStamp_runs N l_ _ h5) (an_ (code_ID_runs N b2 t _ h6) (an_ (code_ReadID_runs N l_2 _ h7) (an_ (code_Event_runs N n t2 _ h8) (an_ (code_ReadEvent_runs N l_3 _ h9) (an_ (kinfolkref07_Stamp_runs N t3 t4 _ h10) (an_ (Runs.coe (as' := [(.one (.pv (.bools (List.take (l_4).length l_4) false)))]) (objs' := []) (rows' := []) (kinfolkref05_Bytes_runs l_4 _ h11) ⟨.pv (.bools (by first | rfl | (simp only [List.take_length]; done) | (simp only [List.take_length, List.length_append, List.drop_zero, List.map_append, List.map_take, List.map_drop, List.map_cons, List.map_nil, List.append_nil, List.nil_append, E_event_Event.pv]; done) | (simp; done))), trivial⟩ trivial trivial) (an_ (Runs.coe (as' := [(.one (.pv (.ints .u8 l_ false))), (.one (.pv (.ints .u8 (List.take (l_5).length l_5) false)))]) (objs' := []) (rows' := []) (bytes_Equal_runs l_ l_5 _ h12) ⟨.eq rfl, .pv (.ints (by first | rfl | (simp only [List.take_length]; done) | (simp only [List.take_length, List.length_append, List.drop_zero, List.map_append, List.map_take, List.map_drop, List.map_cons, List.map_nil, List.append_nil, List.nil_append, E_event_Event.pv]; done) | (simp; done))), trivial⟩ trivial trivial) (an_ h13 (an_ h14 (an_ (stamp_Same_runs N b2 t n t2 b3 t5 n2 t6 _ h15) (an_ h16 (an_ h17 (an_ (id_Same_runs N b4 t7 b2 t _ h18) (an_ h19 (an_ h20 (an_ (event_Same_runs N n5 t8 n t2 _ h21) (an_ h22 (an_ (rfl : false = false) trivial))))))))))))))))))))))) (by kernel_rfl) (by kernel_rfl))
              · have h := some_of h
                subst h
                exact runs_of (C := cfg) (objs := []) (sc := [.res (kinfolklaw07_awake_out b), .br false, .res (kinfolklaw07_made_out p q (b2, t, n, t2, t3, t4)), .res (code_Stamp_out b2 t n t2 l_), .res (code_ReadStamp_out l_ (b3, t5, n2, t6, n3)), .res (code_ID_out b2 t l_2), .res (code_ReadID_out l_2 (b4, t7, n4)), .res (code_Event_out n t2 l_3), .res (code_ReadEvent_out l_3 (n5, t8, n6)), .res (kinfolkref07_Stamp_out t3 t4 l_4), .res (kinfolkref05_Bytes_out l_4 l_5), .res (bytes_Equal_out l_ l_5 b5), .br true, .br true, .res (stamp_Same_out b2 t n t2 b3 t5 n2 t6 b6), .br true, .br true, .res (id_Same_out b4 t7 b2 t b7), .br true, .br false, .br false, .br false]) (.k1 (an_ (kinfolklaw07_awake_runs N _ h1) (an_ (not_of2 h2) (an_ (kinfolklaw07_made_runs N p q _ h3) (an_ (code_Stamp_runs N b2 t n t2 _ h4) (an_ (code_ReadStamp_runs N l_ _ h5) (an_ (code_ID_runs N b2 t _ h6) (an_ (code_ReadID_runs N l_2 _ h7) (an_ (code_Event_runs N n t2 _ h8) (an_ (code_ReadEvent_runs N l_3 _ h9) (an_ (kinfolkref07_Stamp_runs N t3 t4 _ h10) (an_ (Runs.coe (as' := [(.one (.pv (.bools (List.take (l_4).length l_4) false)))]) (objs' := []) (rows' := []) (kinfolkref05_Bytes_runs l_4 _ h11) ⟨.pv (.bools (by first | rfl | (simp only [List.take_length]; done) | (simp only [List.take_length, List.length_append, List.drop_zero, List.map_append, List.map_take, List.map_drop, List.map_cons, List.map_nil, List.append_nil, List.nil_append, E_event_Event.pv]; done) | (simp; done))), trivial⟩ trivial trivial) (an_ (Runs.coe (as' := [(.one (.pv (.ints .u8 l_ false))), (.one (.pv (.ints .u8 (List.take (l_5).length l_5) false)))]) (objs' := []) (rows' := []) (bytes_Equal_runs l_ l_5 _ h12) ⟨.eq rfl, .pv (.ints (by first | rfl | (simp only [List.take_length]; done) | (simp only [List.take_length, List.length_append, List.drop_zero, List.map_append, List.map_take, List.map_drop, List.map_cons, List.map_nil, List.append_nil, List.nil_append, E_event_Event.pv]; done) | (simp; done))), trivial⟩ trivial trivial) (an_ h13 (an_ h14 (an_ (stamp_Same_runs N b2 t n t2 b3 t5 n2 t6 _ h15) (an_ h16 (an_ h17 (an_ (id_Same_runs N b4 t7 b2 t _ h18) (an_ h19 (an_ h20 (an_ (rfl : false = false) (an_ (rfl : false = false) trivial)))))))))))))))))))))) (by kernel_rfl) (by kernel_rfl))
            · have h := some_of h
              subst h
              exact runs_of (C := cfg) (objs := []) (sc := [.res (kinfolklaw07_awake_out b), .br false, .res (kinfolklaw07_made_out p q (b2, t, n, t2, t3, t4)), .res (code_Stamp_out b2 t n t2 l_), .res (code_ReadStamp_out l_ (b3, t5, n2, t6, n3)), .res (code_ID_out b2 t l_2), .res (code_ReadID_out l_2 (b4, t7, n4)), .res (code_Event_out n t2 l_3), .res (code_ReadEvent_out l_3 (n5, t8, n6)), .res (kinfolkref07_Stamp_out t3 t4 l_4), .res (kinfolkref05_Bytes_out l_4 l_5), .res (bytes_Equal_out l_ l_5 b5), .br true, .br true, .res (stamp_Same_out b2 t n t2 b3 t5 n2 t6 b6), .br true, .br true, .res (id_Same_out b4 t7 b2 t b7), .br false, .br false, .br false, .br false]) (.k1 (an_ (kinfolklaw07_awake_runs N _ h1) (an_ (not_of2 h2) (an_ (kinfolklaw07_made_runs N p q _ h3) (an_ (code_Stamp_runs N b2 t n t2 _ h4) (an_ (code_ReadStamp_runs N l_ _ h5) (an_ (code_ID_runs N b2 t _ h6) (an_ (code_ReadID_runs N l_2 _ h7) (an_ (code_Event_runs N n t2 _ h8) (an_ (code_ReadEvent_runs N l_3 _ h9) (an_ (kinfolkref07_Stamp_runs N t3 t4 _ h10) (an_ (Runs.coe (as' := [(.one (.pv (.bools (List.take (l_4).length l_4) false)))]) (objs' := []) (rows' := []) (kinfolkref05_Bytes_runs l_4 _ h11) ⟨.pv (.bools (by first | rfl | (simp only [List.take_length]; done) | (simp only [List.take_length, List.length_append, List.drop_zero, List.map_append, List.map_take, List.map_drop, List.map_cons, List.map_nil, List.append_nil, List.nil_append, E_event_Event.pv]; done) | (simp; done))), trivial⟩ trivial trivial) (an_ (Runs.coe (as' := [(.one (.pv (.ints .u8 l_ false))), (.one (.pv (.ints .u8 (List.take (l_5).length l_5) false)))]) (objs' := []) (rows' := []) (bytes_Equal_runs l_ l_5 _ h12) ⟨.eq rfl, .pv (.ints (by first | rfl | (simp only [List.take_length]; done) | (simp only [List.take_length, List.length_append, List.drop_zero, List.map_append, List.map_take, List.map_drop, List.map_cons, List.map_nil, List.append_nil, List.nil_append, E_event_Event.pv]; done) | (simp; done))), trivial⟩ trivial trivial) (an_ h13 (an_ h14 (an_ (stamp_Same_runs N b2 t n t2 b3 t5 n2 t6 _ h15) (an_ h16 (an_ h17 (an_ (id_Same_runs N b4 t7 b2 t _ h18) (an_ h19 (an_ (rfl : false = false) (an_ (rfl : false = false) (an_ (rfl : false = false) trivial)))))))))))))))))))))) (by kernel_rfl) (by kernel_rfl))
          · have h := some_of h
            subst h
            exact runs_of (C := cfg) (objs := []) (sc := [.res (kinfolklaw07_awake_out b), .br false, .res (kinfolklaw07_made_out p q (b2, t, n, t2, t3, t4)), .res (code_Stamp_out b2 t n t2 l_), .res (code_ReadStamp_out l_ (b3, t5, n2, t6, n3)), .res (code_ID_out b2 t l_2), .res (code_ReadID_out l_2 (b4, t7, n4)), .res (code_Event_out n t2 l_3), .res (code_ReadEvent_out l_3 (n5, t8, n6)), .res (kinfolkref07_Stamp_out t3 t4 l_4), .res (kinfolkref05_Bytes_out l_4 l_5), .res (bytes_Equal_out l_ l_5 b5), .br true, .br true, .res (stamp_Same_out b2 t n t2 b3 t5 n2 t6 b6), .br true, .br false, .br false, .br false, .br false, .br false]) (.k1 (an_ (kinfolklaw07_awake_runs N _ h1) (an_ (not_of2 h2) (an_ (kinfolklaw07_made_runs N p q _ h3) (an_ (code_Stamp_runs N b2 t n t2 _ h4) (an_ (code_ReadStamp_runs N l_ _ h5) (an_ (code_ID_runs N b2 t _ h6) (an_ (code_ReadID_runs N l_2 _ h7) (an_ (code_Event_runs N n t2 _ h8) (an_ (code_ReadEvent_runs N l_3 _ h9) (an_ (kinfolkref07_Stamp_runs N t3 t4 _ h10) (an_ (Runs.coe (as' := [(.one (.pv (.bools (List.take (l_4).length l_4) false)))]) (objs' := []) (rows' := []) (kinfolkref05_Bytes_runs l_4 _ h11) ⟨.pv (.bools (by first | rfl | (simp only [List.take_length]; done) | (simp only [List.take_length, List.length_append, List.drop_zero, List.map_append, List.map_take, List.map_drop, List.map_cons, List.map_nil, List.append_nil, List.nil_append, E_event_Event.pv]; done) | (simp; done))), trivial⟩ trivial trivial) (an_ (Runs.coe (as' := [(.one (.pv (.ints .u8 l_ false))), (.one (.pv (.ints .u8 (List.take (l_5).length l_5) false)))]) (objs' := []) (rows' := []) (bytes_Equal_runs l_ l_5 _ h12) ⟨.eq rfl, .pv (.ints (by first | rfl | (simp only [List.take_length]; done) | (simp only [List.take_length, List.length_append, List.drop_zero, List.map_append, List.map_take, List.map_drop, List.map_cons, List.map_nil, List.append_nil, List.nil_append, E_event_Event.pv]; done) | (simp; done))), trivial⟩ trivial trivial) (an_ h13 (an_ h14 (an_ (stamp_Same_runs N b2 t n t2 b3 t5 n2 t6 _ h15) (an_ h16 (an_ h17 (an_ (rfl : false = false) (an_ (rfl : false = false) (an_ (rfl : false = false) (an_ (rfl : false = false) trivial))))))))))))))))))))) (by kernel_rfl) (by kernel_rfl))
        · have h := some_of h
          subst h
          exact runs_of (C := cfg) (objs := []) (sc := [.res (kinfolklaw07_awake_out b), .br false, .res (kinfolklaw07_made_out p q (b2, t, n, t2, t3, t4)), .res (code_Stamp_out b2 t n t2 l_), .res (code_ReadStamp_out l_ (b3, t5, n2, t6, n3)), .res (code_ID_out b2 t l_2), .res (code_ReadID_out l_2 (b4, t7, n4)), .res (code_Event_out n t2 l_3), .res (code_ReadEvent_out l_3 (n5, t8, n6)), .res (kinfolkref07_Stamp_out t3 t4 l_4), .res (kinfolkref05_Bytes_out l_4 l_5), .res (bytes_Equal_out l_ l_5 b5), .br true, .br true, .res (stamp_Same_out b2 t n t2 b3 t5 n2 t6 b6), .br false, .br false, .br false, .br false, .br false, .br false]) (.k1 (an_ (kinfolklaw07_awake_runs N _ h1) (an_ (not_of2 h2) (an_ (kinfolklaw07_made_runs N p q _ h3) (an_ (code_Stamp_runs N b2 t n t2 _ h4) (an_ (code_ReadStamp_runs N l_ _ h5) (an_ (code_ID_runs N b2 t _ h6) (an_ (code_ReadID_runs N l_2 _ h7) (an_ (code_Event_runs N n t2 _ h8) (an_ (code_ReadEvent_runs N l_3 _ h9) (an_ (kinfolkref07_Stamp_runs N t3 t4 _ h10) (an_ (Runs.coe (as' := [(.one (.pv (.bools (List.take (l_4).length l_4) false)))]) (objs' := []) (rows' := []) (kinfolkref05_Bytes_runs l_4 _ h11) ⟨.pv (.bools (by first | rfl | (simp only [List.take_length]; done) | (simp only [List.take_length, List.length_append, List.drop_zero, List.map_append, List.map_take, List.map_drop, List.map_cons, List.map_nil, List.append_nil, List.nil_append, E_event_Event.pv]; done) | (simp; done))), trivial⟩ trivial trivial) (an_ (Runs.coe (as' := [(.one (.pv (.ints .u8 l_ false))), (.one (.pv (.ints .u8 (List.take (l_5).length l_5) false)))]) (objs' := []) (rows' := []) (bytes_Equal_runs l_ l_5 _ h12) ⟨.eq rfl, .pv (.ints (by first | rfl | (simp only [List.take_length]; done) | (simp only [List.take_length, List.length_append, List.drop_zero, List.map_append, List.map_take, List.map_drop, List.map_cons, List.map_nil, List.append_nil, List.nil_append, E_event_Event.pv]; done) | (simp; done))), trivial⟩ trivial trivial) (an_ h13 (an_ h14 (an_ (stamp_Same_runs N b2 t n t2 b3 t5 n2 t6 _ h15) (an_ h16 (an_ (rfl : false = false) (an_ (rfl : false = false) (an_ (rfl : false = false) (an_ (rfl : false = false) (an_ (rfl : false = false) trivial))))))))))))))))))))) (by kernel_rfl) (by kernel_rfl))
      · have h := some_of h
        subst h
        exact runs_of (C := cfg) (objs := []) (sc := [.res (kinfolklaw07_awake_out b), .br false, .res (kinfolklaw07_made_out p q (b2, t, n, t2, t3, t4)), .res (code_Stamp_out b2 t n t2 l_), .res (code_ReadStamp_out l_ (b3, t5, n2, t6, n3)), .res (code_ID_out b2 t l_2), .res (code_ReadID_out l_2 (b4, t7, n4)), .res (code_Event_out n t2 l_3), .res (code_ReadEvent_out l_3 (n5, t8, n6)), .res (kinfolkref07_Stamp_out t3 t4 l_4), .res (kinfolkref05_Bytes_out l_4 l_5), .res (bytes_Equal_out l_ l_5 b5), .br true, .br false, .br false, .br false, .br false, .br false, .br false, .br false]) (.k1 (an_ (kinfolklaw07_awake_runs N _ h1) (an_ (not_of2 h2) (an_ (kinfolklaw07_made_runs N p q _ h3) (an_ (code_Stamp_runs N b2 t n t2 _ h4) (an_ (code_ReadStamp_runs N l_ _ h5) (an_ (code_ID_runs N b2 t _ h6) (an_ (code_ReadID_runs N l_2 _ h7) (an_ (code_Event_runs N n t2 _ h8) (an_ (code_ReadEvent_runs N l_3 _ h9) (an_ (kinfolkref07_Stamp_runs N t3 t4 _ h10) (an_ (Runs.coe (as' := [(.one (.pv (.bools (List.take (l_4).length l_4) false)))]) (objs' := []) (rows' := []) (kinfolkref05_Bytes_runs l_4 _ h11) ⟨.pv (.bools (by first | rfl | (simp only [List.take_length]; done) | (simp only [List.take_length, List.length_append, List.drop_zero, List.map_append, List.map_take, List.map_drop, List.map_cons, List.map_nil, List.append_nil, List.nil_append, E_event_Event.pv]; done) | (simp; done))), trivial⟩ trivial trivial) (an_ (Runs.coe (as' := [(.one (.pv (.ints .u8 l_ false))), (.one (.pv (.ints .u8 (List.take (l_5).length l_5) false)))]) (objs' := []) (rows' := []) (bytes_Equal_runs l_ l_5 _ h12) ⟨.eq rfl, .pv (.ints (by first | rfl | (simp only [List.take_length]; done) | (simp only [List.take_length, List.length_append, List.drop_zero, List.map_append, List.map_take, List.map_drop, List.map_cons, List.map_nil, List.append_nil, List.nil_append, E_event_Event.pv]; done) | (simp; done))), trivial⟩ trivial trivial) (an_ h13 (an_ h14 (an_ (rfl : false = false) (an_ (rfl : false = false) (an_ (rfl : false = false) (an_ (rfl : false = false) (an_ (rfl : false = false) (an_ (rfl : false = false) trivial)))))))))))))))))))) (by kernel_rfl) (by kernel_rfl))
    · have h := some_of h
      subst h
      exact runs_of (C := cfg) (objs := []) (sc := [.res (kinfolklaw07_awake_out b), .br false, .res (kinfolklaw07_made_out p q (b2, t, n, t2, t3, t4)), .res (code_Stamp_out b2 t n t2 l_), .res (code_ReadStamp_out l_ (b3, t5, n2, t6, n3)), .res (code_ID_out b2 t l_2), .res (code_ReadID_out l_2 (b4, t7, n4)), .res (code_Event_out n t2 l_3), .res (code_ReadEvent_out l_3 (n5, t8, n6)), .res (kinfolkref07_Stamp_out t3 t4 l_4), .res (kinfolkref05_Bytes_out l_4 l_5), .res (bytes_Equal_out l_ l_5 b5), .br false, .br false, .br false, .br false, .br false, .br false, .br false, .br false]) (.k1 (an_ (kinfolklaw07_awake_runs N _ h1) (an_ (not_of2 h2) (an_ (kinfolklaw07_made_runs N p q _ h3) (an_ (code_Stamp_runs N b2 t n t2 _ h4) (an_ (code_ReadStamp_runs N l_ _ h5) (an_ (code_ID_runs N b2 t _ h6) (an_ (code_ReadID_runs N l_2 _ h7) (an_ (code_Event_runs N n t2 _ h8) (an_ (code_ReadEvent_runs N l_3 _ h9) (an_ (kinfolkref07_Stamp_runs N t3 t4 _ h10) (an_ (Runs.coe (as' := [(.one (.pv (.bools (List.take (l_4).length l_4) false)))]) (objs' := []) (rows' := []) (kinfolkref05_Bytes_runs l_4 _ h11) ⟨.pv (.bools (by first | rfl | (simp only [List.take_length]; done) | (simp only [List.take_length, List.length_append, List.drop_zero, List.map_append, List.map_take, List.map_drop, List.map_cons, List.map_nil, List.append_nil, List.nil_append, E_event_Event.pv]; done) | (simp; done))), trivial⟩ trivial trivial) (an_ (Runs.coe (as' := [(.one (.pv (.ints .u8 l_ false))), (.one (.pv (.ints .u8 (List.take (l_5).length l_5) false)))]) (objs' := []) (rows' := []) (bytes_Equal_runs l_ l_5 _ h12) ⟨.eq rfl, .pv (.ints (by first | rfl | (simp only [List.take_length]; done) | (simp only [List.take_length, List.length_append, List.drop_zero, List.map_append, List.map_take, List.map_drop, List.map_cons, List.map_nil, List.append_nil, List.nil_append, E_event_Event.pv]; done) | (simp; done))), trivial⟩ trivial trivial) (an_ h13 (an_ (rfl : false = false) (an_ (rfl : false = false) (an_ (rfl : false = false) (an_ (rfl : false = false) (an_ (rfl : false = false) (an_ (rfl : false = false) (an_ (rfl : false = false) trivial)))))))))))))))))))) (by kernel_rfl) (by kernel_rfl))
  · have h := some_of h
    subst h
    exact runs_of (C := cfg) (objs := []) (sc := [.res (kinfolklaw07_awake_out b), .br true]) (.k0 (an_ (kinfolklaw07_awake_runs N _ h1) (an_ (not_of h2) trivial)) (by kernel_rfl))

end Go.Proofs.Ytjjakdmcnkldoaa
