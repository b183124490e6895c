/- What functions compute, and that they do. -/
import Derived.Test.YtjjcmgdgifcmgaaA4
set_option linter.unusedVariables false
set_option linter.unusedSimpArgs false
set_option maxRecDepth 100000
namespace Go.Proofs.Ytjjcmgdgifcmgaa
open Go.Ev

/-! ### kinfolkref05_Put_L0_2 -/
def kinfolkref05_Put_L0_2_st (l : List Bool) (k : Int) : Int × Int × List Bool → St
  | (n, i, l2) => ⟨[(0, (.av (.one (.pv (.bools l false))))), (1, (.av (.one (.pv (.int .u64 n))))), (2, (.av (.one (.pv (.int .i64 k))))), (7, (.av (.one (.own 0 0 (l2).length false)))), (8, (.av (.one (.pv (.int .i64 i)))))], [], [(0, (.live (.bools l2)))]⟩
def kinfolkref05_Put_L0_2_ex (l : List Bool) (k : Int) : List Bool → Ex × St
  | r1 => ((.exit 0), ⟨[(0, (.av (.one (.pv (.bools l false))))), (7, (.av (.one (.own 0 0 (r1).length false))))], [], [(0, (.live (.bools r1)))]⟩)
noncomputable def kinfolkref05_Put_L0_2_step (l : List Bool) (k : Int) : Int × Int × List Bool → Option ((Int × Int × List Bool) ⊕ (List Bool))
  | (n, i, l2) =>
  (kinfolkref05_within k).bind fun n2 =>
  bif (decide ((i : Int) < n2)) then
    bif Nat.beq ((List.take (l2).length l2)).length 0 then
      some (.inl ((iquo .u64 n 2), (iadd .i64 i 1), [(decide (((irem .u64 n 2) : Int) = 1))]))
    else
      bif fits (([(decide (((irem .u64 n 2) : Int) = 1))] ++ (List.take (l2).length l2))).length then
      some (.inl ((iquo .u64 n 2), (iadd .i64 i 1), ([(decide (((irem .u64 n 2) : Int) = 1))] ++ l2)))
      else none
  else
    some (.inr l2)
theorem kinfolkref05_Put_L0_2_ok (l : List Bool) (k : Int) (s_ : Int × Int × List Bool) (z_ : (Int × Int × List Bool) ⊕ (List Bool)) (h : kinfolkref05_Put_L0_2_step l k s_ = some z_) : RoundOk Try.prog cfg 76 0 (loopAt Try.prog 76 0) (kinfolkref05_Put_L0_2_st l k) (kinfolkref05_Put_L0_2_ex l k) s_ z_ := by
  rcases s_ with ⟨n, i, l2⟩
  rw [kinfolkref05_Put_L0_2_step] at h
  obtain ⟨n2, h1, h⟩ := bind_of h
  rcases cond_of h with ⟨h2, h⟩ | ⟨h2, h⟩
  · rcases cond_of h with ⟨h3, h⟩ | ⟨h3, h⟩
    · have h := some_of h
      subst h
      exact ⟨[.res (kinfolkref05_within_out k n2), .br true, .br true], ⟨[(0, (.av (.one (.pv (.bools l false))))), (1, (.av (.one (.pv (.int .u64 (iquo .u64 n 2)))))), (2, (.av (.one (.pv (.int .i64 k))))), (7, (.av (.one (.own 0 0 1 false)))), (8, (.av (.one (.pv (.int .i64 (iadd .i64 i 1))))))], [], [(0, (.live (.bools [(decide (((irem .u64 n 2) : Int) = 1))])))]⟩, .k0 (an_ (kinfolkref05_within_runs k _ h1) (an_ h2 (an_ (rfl : true = true) (an_ h3 (an_ (rfl : true = true) trivial))))) (by kernel_rfl), ⟨⟨⟨_, rfl, .eq rfl⟩, ⟨_, rfl, .eq rfl⟩, ⟨_, rfl, .eq rfl⟩, ⟨_, rfl, .own (by first | rfl | (simp only [List.take_length]; done) | (simp only [List.take_length, List.length_append, List.drop_zero, List.map_append, List.map_take, List.map_drop, List.map_replicate, List.map_cons, List.map_nil, List.append_nil, List.nil_append, E_deed_Gift.pv, E_deed_Gift.upd]; done) | (simp; done) | (simp only [List.length_map, List.take_length, List.length_append, List.drop_zero, List.map_append, List.map_take, List.map_drop, List.map_replicate, List.map_cons, List.map_nil, List.append_nil, List.nil_append, E_deed_Gift.pv, E_deed_Gift.upd]; done))⟩, ⟨_, rfl, .eq rfl⟩, trivial⟩, trivial, ⟨⟨rfl, .eq rfl⟩, trivial⟩⟩⟩
    · obtain ⟨h4, h⟩ := need_of h
      have h := some_of h
      subst h
      exact ⟨[.res (kinfolkref05_within_out k n2), .br true, .br false], ⟨[(0, (.av (.one (.pv (.bools l false))))), (1, (.av (.one (.pv (.int .u64 (iquo .u64 n 2)))))), (2, (.av (.one (.pv (.int .i64 k))))), (7, (.av (.one (.own 0 0 (([(decide (((irem .u64 n 2) : Int) = 1))] ++ (List.take (l2).length l2))).length false)))), (8, (.av (.one (.pv (.int .i64 (iadd .i64 i 1))))))], [], [(0, (.live (.bools ([(decide (((irem .u64 n 2) : Int) = 1))] ++ (List.take (l2).length l2)))))]⟩, .k0 (an_ (kinfolkref05_within_runs k _ h1) (an_ h2 (an_ (rfl : true = true) (an_ (not_of h3) (an_ h4 (an_ (rfl : true = true) trivial)))))) (by kernel_rfl), ⟨⟨⟨_, rfl, .eq rfl⟩, ⟨_, rfl, .eq rfl⟩, ⟨_, rfl, .eq rfl⟩, ⟨_, rfl, .own (by first | rfl | (simp only [List.take_length]; done) | (simp only [List.take_length, List.length_append, List.drop_zero, List.map_append, List.map_take, List.map_drop, List.map_replicate, List.map_cons, List.map_nil, List.append_nil, List.nil_append, E_deed_Gift.pv, E_deed_Gift.upd]; done) | (simp; done) | (simp only [List.length_map, List.take_length, List.length_append, List.drop_zero, List.map_append, List.map_take, List.map_drop, List.map_replicate, List.map_cons, List.map_nil, List.append_nil, List.nil_append, E_deed_Gift.pv, E_deed_Gift.upd]; done))⟩, ⟨_, rfl, .eq rfl⟩, trivial⟩, trivial, ⟨⟨rfl, .eq (by first | rfl | (simp only [List.take_length]; done) | (simp only [List.take_length, List.length_append, List.drop_zero, List.map_append, List.map_take, List.map_drop, List.map_replicate, List.map_cons, List.map_nil, List.append_nil, List.nil_append, E_deed_Gift.pv, E_deed_Gift.upd]; done) | (simp; done) | (simp only [List.length_map, List.take_length, List.length_append, List.drop_zero, List.map_append, List.map_take, List.map_drop, List.map_replicate, List.map_cons, List.map_nil, List.append_nil, List.nil_append, E_deed_Gift.pv, E_deed_Gift.upd]; done))⟩, trivial⟩⟩⟩
  · have h := some_of h
    subst h
    exact ⟨[.res (kinfolkref05_within_out k n2), .br false], ⟨[(12, (.av (.one (.pv (.bool false))))), (0, (.av (.one (.pv (.bools l false))))), (1, (.av (.one (.pv (.int .u64 n))))), (2, (.av (.one (.pv (.int .i64 k))))), (7, (.av (.one (.own 0 0 (l2).length false)))), (8, (.av (.one (.pv (.int .i64 i))))), (12, (.av (.one (.pv (.bool (decide ((i : Int) < n2)))))))], [], [(0, (.live (.bools l2)))]⟩, .k0 (an_ (kinfolkref05_within_runs k _ h1) (an_ h2 trivial)) (by kernel_rfl), ⟨⟨⟨_, rfl, .eq rfl⟩, ⟨_, rfl, .eq rfl⟩, trivial⟩, trivial, ⟨⟨rfl, .eq rfl⟩, trivial⟩⟩⟩
theorem kinfolkref05_Put_L0_2_runs (l : List Bool) (k : Int) (s_ : Int × Int × List Bool) (r_ : List Bool) (h : runL (kinfolkref05_Put_L0_2_step l k) s_ = some r_) : LRuns Try.prog (lEnv Try.prog cfg 76 0).nt 0 (.loop (loopAt Try.prog 76 0)) (kinfolkref05_Put_L0_2_st l k s_) (kinfolkref05_Put_L0_2_ex l k r_).1 (kinfolkref05_Put_L0_2_ex l k r_).2 :=
  loop_run h (kinfolkref05_Put_L0_2_ok l k) (by intro r_; rcases r_ with r1 <;> simp [kinfolkref05_Put_L0_2_ex])
/-! ### kinfolkref05_Put -/
noncomputable def kinfolkref05_Put (l : List Bool) (n : Int) (k : Int) : Option (List Bool) :=
  (runL (kinfolkref05_Put_L0_2_step l k) (n, 0, [])).bind fun l_ =>
  bif Nat.beq (l).length 0 then
    bif fits (([] ++ (List.take (l_).length l_))).length then
    some ([] ++ l_)
    else none
  else
    bif fits (([] ++ l)).length then
    bif fits ((([] ++ l) ++ (List.take (l_).length l_))).length then
    some (([] ++ l) ++ l_)
    else none
    else none
theorem kinfolkref05_Put_runs (l : List Bool) (n : Int) (k : Int) (r_ : List Bool) (h : kinfolkref05_Put l n k = some r_) : Runs Try.prog 76 [(.one (.pv (.bools l false))), (.one (.pv (.int .u64 n))), (.one (.pv (.int .i64 k)))] [] [] (kinfolkref05_Put_out l n k r_) := by
  unfold kinfolkref05_Put at h
  obtain ⟨l_, h1, h⟩ := bind_of h
  rcases cond_of h with ⟨h2, h⟩ | ⟨h2, h⟩
  · obtain ⟨h3, h⟩ := need_of h
    have h := some_of h
    subst h
    have e_ : Runs Try.prog 76 [(.one (.pv (.bools l false))), (.one (.pv (.int .u64 n))), (.one (.pv (.int .i64 k)))] [] [] ([(.one (.own 0 0 (([] ++ (List.take (l_).length l_))).length false))], [], [(.bools ([] ++ (List.take (l_).length l_)))]) := runs_of (C := cfg) (objs := []) (sc := [.lp (kinfolkref05_Put_L0_2_ex l k l_).1 (kinfolkref05_Put_L0_2_ex l k l_).2, .br true]) (.k0 (an_ (LRuns.coe (s0 := ⟨[(0, (.av (.one (.pv (.bools l false))))), (1, (.av (.one (.pv (.int .u64 n))))), (2, (.av (.one (.pv (.int .i64 k))))), (7, (.av (.one (.own 0 0 0 false)))), (8, (.av (.one (.pv (.int .i64 0)))))], [], [(0, (.live (.bools [])))]⟩) (kinfolkref05_Put_L0_2_runs l k _ _ h1) ⟨⟨⟨_, rfl, .eq rfl⟩, ⟨_, rfl, .eq rfl⟩, ⟨_, rfl, .eq rfl⟩, ⟨_, rfl, .own (by first | rfl | (simp only [List.take_length]; done) | (simp only [List.take_length, List.length_append, List.drop_zero, List.map_append, List.map_take, List.map_drop, List.map_replicate, List.map_cons, List.map_nil, List.append_nil, List.nil_append, E_deed_Gift.pv, E_deed_Gift.upd]; done) | (simp; done) | (simp only [List.length_map, List.take_length, List.length_append, List.drop_zero, List.map_append, List.map_take, List.map_drop, List.map_replicate, List.map_cons, List.map_nil, List.append_nil, List.nil_append, E_deed_Gift.pv, E_deed_Gift.upd]; done))⟩, ⟨_, rfl, .eq rfl⟩, trivial⟩, trivial, ⟨⟨rfl, .eq rfl⟩, trivial⟩⟩) (an_ h2 (an_ (rfl : true = true) (an_ h3 trivial)))) (by kernel_rfl))
    exact e_.out ⟨.own (by first | rfl | (simp only [List.take_length]; done) | (simp only [List.take_length, List.length_append, List.drop_zero, List.map_append, List.map_take, List.map_drop, List.map_replicate, List.map_cons, List.map_nil, List.append_nil, List.nil_append, E_deed_Gift.pv, E_deed_Gift.upd]; done) | (simp; done) | (simp only [List.length_map, List.take_length, List.length_append, List.drop_zero, List.map_append, List.map_take, List.map_drop, List.map_replicate, List.map_cons, List.map_nil, List.append_nil, List.nil_append, E_deed_Gift.pv, E_deed_Gift.upd]; done)), trivial⟩ trivial ⟨.eq (by first | rfl | (simp only [List.take_length]; done) | (simp only [List.take_length, List.length_append, List.drop_zero, List.map_append, List.map_take, List.map_drop, List.map_replicate, List.map_cons, List.map_nil, List.append_nil, List.nil_append, E_deed_Gift.pv, E_deed_Gift.upd]; done) | (simp; done) | (simp only [List.length_map, List.take_length, List.length_append, List.drop_zero, List.map_append, List.map_take, List.map_drop, List.map_replicate, List.map_cons, List.map_nil, List.append_nil, List.nil_append, E_deed_Gift.pv, E_deed_Gift.upd]; done)), trivial⟩ rfl
  · obtain ⟨h3, h⟩ := need_of h
    obtain ⟨h4, h⟩ := need_of h
    have h := some_of h
    subst h
    have e_ : Runs Try.prog 76 [(.one (.pv (.bools l false))), (.one (.pv (.int .u64 n))), (.one (.pv (.int .i64 k)))] [] [] ([(.one (.own 0 0 ((([] ++ l) ++ (List.take (l_).length l_))).length false))], [], [(.bools (([] ++ l) ++ (List.take (l_).length l_)))]) := runs_of (C := cfg) (objs := []) (sc := [.lp (kinfolkref05_Put_L0_2_ex l k l_).1 (kinfolkref05_Put_L0_2_ex l k l_).2, .br false]) (.k0 (an_ (LRuns.coe (s0 := ⟨[(0, (.av (.one (.pv (.bools l false))))), (1, (.av (.one (.pv (.int .u64 n))))), (2, (.av (.one (.pv (.int .i64 k))))), (7, (.av (.one (.own 0 0 0 false)))), (8, (.av (.one (.pv (.int .i64 0)))))], [], [(0, (.live (.bools [])))]⟩) (kinfolkref05_Put_L0_2_runs l k _ _ h1) ⟨⟨⟨_, rfl, .eq rfl⟩, ⟨_, rfl, .eq rfl⟩, ⟨_, rfl, .eq rfl⟩, ⟨_, rfl, .own (by first | rfl | (simp only [List.take_length]; done) | (simp only [List.take_length, List.length_append, List.drop_zero, List.map_append, List.map_take, List.map_drop, List.map_replicate, List.map_cons, List.map_nil, List.append_nil, List.nil_append, E_deed_Gift.pv, E_deed_Gift.upd]; done) | (simp; done) | (simp only [List.length_map, List.take_length, List.length_append, List.drop_zero, List.map_append, List.map_take, List.map_drop, List.map_replicate, List.map_cons, List.map_nil, List.append_nil, List.nil_append, E_deed_Gift.pv, E_deed_Gift.upd]; done))⟩, ⟨_, rfl, .eq rfl⟩, trivial⟩, trivial, ⟨⟨rfl, .eq rfl⟩, trivial⟩⟩) (an_ (not_of h2) (an_ h3 (an_ (show (Nat.beq (([] ++ l)).length (([] ++ l)).length) = true from Nat.beq_refl _) (an_ h4 trivial))))) (by kernel_rfl))
    exact e_.out ⟨.own (by first | rfl | (simp only [List.take_length]; done) | (simp only [List.take_length, List.length_append, List.drop_zero, List.map_append, List.map_take, List.map_drop, List.map_replicate, List.map_cons, List.map_nil, List.append_nil, List.nil_append, E_deed_Gift.pv, E_deed_Gift.upd]; done) | (simp; done) | (simp only [List.length_map, List.take_length, List.length_append, List.drop_zero, List.map_append, List.map_take, List.map_drop, List.map_replicate, List.map_cons, List.map_nil, List.append_nil, List.nil_append, E_deed_Gift.pv, E_deed_Gift.upd]; done)), trivial⟩ trivial ⟨.eq (by first | rfl | (simp only [List.take_length]; done) | (simp only [List.take_length, List.length_append, List.drop_zero, List.map_append, List.map_take, List.map_drop, List.map_replicate, List.map_cons, List.map_nil, List.append_nil, List.nil_append, E_deed_Gift.pv, E_deed_Gift.upd]; done) | (simp; done) | (simp only [List.length_map, List.take_length, List.length_append, List.drop_zero, List.map_append, List.map_take, List.map_drop, List.map_replicate, List.map_cons, List.map_nil, List.append_nil, List.nil_append, E_deed_Gift.pv, E_deed_Gift.upd]; done)), trivial⟩ rfl
/-! ### kinfolkref07_ID -/
noncomputable def kinfolkref07_ID_b (rec_kinfolkref07_ID : List Bool → T_kinfolkref01_ID → Option (List Bool)) (l : List Bool) (i : T_kinfolkref01_ID) : Option (List Bool) :=
  match i with
  | .nil =>
    none
  | .mk n t t2 =>
    bif (decide ((n : Int) < 2)) then
      (kinfolkref05_Put l 0 2).bind fun l_ =>
      (kinfolkref05_Put l_ (IntKind.u64.wrap n) 1).bind fun l_2 =>
      some l_2
    else
      match t with
      | .nil =>
        none
      | .mk n2 t3 t4 =>
        bif (decide ((n2 : Int) = 0)) then
          (kinfolkref05_Put l 1 2).bind fun l_ =>
          (rec_kinfolkref07_ID l_ t2).bind fun l_2 =>
          some l_2
        else
          match t2 with
          | .nil =>
            none
          | .mk n3 t5 t6 =>
            bif (decide ((n3 : Int) = 0)) then
              (kinfolkref05_Put l 2 2).bind fun l_ =>
              (rec_kinfolkref07_ID l_ t).bind fun l_2 =>
              some l_2
            else
              (kinfolkref05_Put l 3 2).bind fun l_ =>
              (rec_kinfolkref07_ID l_ t).bind fun l_2 =>
              (rec_kinfolkref07_ID l_2 t2).bind fun l_3 =>
              some l_3
theorem kinfolkref07_ID_b_runs (rec_kinfolkref07_ID : List Bool → T_kinfolkref01_ID → Option (List Bool)) (hrec_kinfolkref07_ID : ∀ l i r_, rec_kinfolkref07_ID l i = some r_ → Runs Try.prog 48 [(.one (.pv (.bools l false))), (.one (.pv (T_kinfolkref01_ID.pv i)))] [] [] (kinfolkref07_ID_out l i r_)) (l : List Bool) (i : T_kinfolkref01_ID) (r_ : List Bool) (h : kinfolkref07_ID_b rec_kinfolkref07_ID l i = some r_) : Runs Try.prog 48 [(.one (.pv (.bools l false))), (.one (.pv (T_kinfolkref01_ID.pv i)))] [] [] (kinfolkref07_ID_out l i r_) := by
  unfold kinfolkref07_ID_b at h
  cases i with
  | nil =>
    cases h
  | mk n t t2 =>
    rcases cond_of h with ⟨h1, h⟩ | ⟨h1, h⟩
    · obtain ⟨l_, h2, h⟩ := bind_of h
      obtain ⟨l_2, h3, h⟩ := bind_of h
      have h := some_of h
      subst h
      exact runs_of (C := cfg) (objs := []) (sc := [.br true, .res (kinfolkref05_Put_out l 0 2 l_), .res (kinfolkref05_Put_out l_ (IntKind.u64.wrap n) 1 l_2)]) (.k0 (an_ h1 (an_ (kinfolkref05_Put_runs l 0 2 _ h2) (an_ (Runs.coe (as' := [(.one (.pv (.bools (List.take (l_).length l_) false))), (.one (.pv (.int .u64 (IntKind.u64.wrap n)))), (.one (.pv (.int .i64 1)))]) (objs' := []) (rows' := []) (kinfolkref05_Put_runs l_ (IntKind.u64.wrap n) 1 _ h3) ⟨.pv (.bools (by first | rfl | (simp only [List.take_length]; done) | (simp only [List.take_length, List.length_append, List.drop_zero, List.map_append, List.map_take, List.map_drop, List.map_replicate, List.map_cons, List.map_nil, List.append_nil, List.nil_append, E_deed_Gift.pv, E_deed_Gift.upd]; done) | (simp; done) | (simp only [List.length_map, List.take_length, List.length_append, List.drop_zero, List.map_append, List.map_take, List.map_drop, List.map_replicate, List.map_cons, List.map_nil, List.append_nil, List.nil_append, E_deed_Gift.pv, E_deed_Gift.upd]; done))), .eq rfl, .eq rfl, trivial⟩ trivial trivial) trivial))) (by kernel_rfl))
    · cases t with
      | nil =>
        cases h
      | mk n2 t3 t4 =>
        rcases cond_of h with ⟨h2, h⟩ | ⟨h2, h⟩
        · obtain ⟨l_, h3, h⟩ := bind_of h
          obtain ⟨l_2, h4, h⟩ := bind_of h
          have h := some_of h
          subst h
          exact runs_of (C := cfg) (objs := []) (sc := [.br false, .br true, .res (kinfolkref05_Put_out l 1 2 l_), .res (kinfolkref07_ID_out l_ t2 l_2)]) (.k0 (an_ h1 (an_ h2 (an_ (kinfolkref05_Put_runs l 1 2 _ h3) (an_ (Runs.coe (as' := [(.one (.pv (.bools (List.take (l_).length l_) false))), (.one (.pv (T_kinfolkref01_ID.pv t2)))]) (objs' := []) (rows' := []) (hrec_kinfolkref07_ID l_ t2 _ h4) ⟨.pv (.bools (by first | rfl | (simp only [List.take_length]; done) | (simp only [List.take_length, List.length_append, List.drop_zero, List.map_append, List.map_take, List.map_drop, List.map_replicate, List.map_cons, List.map_nil, List.append_nil, List.nil_append, E_deed_Gift.pv, E_deed_Gift.upd]; done) | (simp; done) | (simp only [List.length_map, List.take_length, List.length_append, List.drop_zero, List.map_append, List.map_take, List.map_drop, List.map_replicate, List.map_cons, List.map_nil, List.append_nil, List.nil_append, E_deed_Gift.pv, E_deed_Gift.upd]; done))), .eq rfl, trivial⟩ trivial trivial) trivial)))) (by kernel_rfl))
        · cases t2 with
          | nil =>
            cases h
          | mk n3 t5 t6 =>
            rcases cond_of h with ⟨h3, h⟩ | ⟨h3, h⟩
            · obtain ⟨l_, h4, h⟩ := bind_of h
              obtain ⟨l_2, h5, h⟩ := bind_of h
              have h := some_of h
              subst h
              exact runs_of (C := cfg) (objs := []) (sc := [.br false, .br false, .br true, .res (kinfolkref05_Put_out l 2 2 l_), .res (kinfolkref07_ID_out l_ (T_kinfolkref01_ID.mk n2 t3 t4) l_2)]) (.k0 (an_ h1 (an_ h2 (an_ h3 (an_ (kinfolkref05_Put_runs l 2 2 _ h4) (an_ (Runs.coe (as' := [(.one (.pv (.bools (List.take (l_).length l_) false))), (.one (.pv (T_kinfolkref01_ID.pv (T_kinfolkref01_ID.mk n2 t3 t4))))]) (objs' := []) (rows' := []) (hrec_kinfolkref07_ID l_ (T_kinfolkref01_ID.mk n2 t3 t4) _ h5) ⟨.pv (.bools (by first | rfl | (simp only [List.take_length]; done) | (simp only [List.take_length, List.length_append, List.drop_zero, List.map_append, List.map_take, List.map_drop, List.map_replicate, List.map_cons, List.map_nil, List.append_nil, List.nil_append, E_deed_Gift.pv, E_deed_Gift.upd]; done) | (simp; done) | (simp only [List.length_map, List.take_length, List.length_append, List.drop_zero, List.map_append, List.map_take, List.map_drop, List.map_replicate, List.map_cons, List.map_nil, List.append_nil, List.nil_append, E_deed_Gift.pv, E_deed_Gift.upd]; done))), .eq rfl, trivial⟩ trivial trivial) trivial))))) (by kernel_rfl))
            · obtain ⟨l_, h4, h⟩ := bind_of h
              obtain ⟨l_2, h5, h⟩ := bind_of h
              obtain ⟨l_3, h6, h⟩ := bind_of h
              have h := some_of h
              subst h
              exact runs_of (C := cfg) (objs := []) (sc := [.br false, .br false, .br false, .res (kinfolkref05_Put_out l 3 2 l_), .res (kinfolkref07_ID_out l_ (T_kinfolkref01_ID.mk n2 t3 t4) l_2), .res (kinfolkref07_ID_out l_2 (T_kinfolkref01_ID.mk n3 t5 t6) l_3)]) (.k0 (an_ h1 (an_ h2 (an_ h3 (an_ (kinfolkref05_Put_runs l 3 2 _ h4) (an_ (Runs.coe (as' := [(.one (.pv (.bools (List.take (l_).length l_) false))), (.one (.pv (T_kinfolkref01_ID.pv (T_kinfolkref01_ID.mk n2 t3 t4))))]) (objs' := []) (rows' := []) (hrec_kinfolkref07_ID l_ (T_kinfolkref01_ID.mk n2 t3 t4) _ h5) ⟨.pv (.bools (by first | rfl | (simp only [List.take_length]; done) | (simp only [List.take_length, List.length_append, List.drop_zero, List.map_append, List.map_take, List.map_drop, List.map_replicate, List.map_cons, List.map_nil, List.append_nil, List.nil_append, E_deed_Gift.pv, E_deed_Gift.upd]; done) | (simp; done) | (simp only [List.length_map, List.take_length, List.length_append, List.drop_zero, List.map_append, List.map_take, List.map_drop, List.map_replicate, List.map_cons, List.map_nil, List.append_nil, List.nil_append, E_deed_Gift.pv, E_deed_Gift.upd]; done))), .eq rfl, trivial⟩ trivial trivial) (an_ (Runs.coe (as' := [(.one (.pv (.bools (List.take (l_2).length l_2) false))), (.one (.pv (T_kinfolkref01_ID.pv (T_kinfolkref01_ID.mk n3 t5 t6))))]) (objs' := []) (rows' := []) (hrec_kinfolkref07_ID l_2 (T_kinfolkref01_ID.mk n3 t5 t6) _ h6) ⟨.pv (.bools (by first | rfl | (simp only [List.take_length]; done) | (simp only [List.take_length, List.length_append, List.drop_zero, List.map_append, List.map_take, List.map_drop, List.map_replicate, List.map_cons, List.map_nil, List.append_nil, List.nil_append, E_deed_Gift.pv, E_deed_Gift.upd]; done) | (simp; done) | (simp only [List.length_map, List.take_length, List.length_append, List.drop_zero, List.map_append, List.map_take, List.map_drop, List.map_replicate, List.map_cons, List.map_nil, List.append_nil, List.nil_append, E_deed_Gift.pv, E_deed_Gift.upd]; done))), .eq rfl, trivial⟩ trivial trivial) trivial)))))) (by kernel_rfl))
noncomputable def kinfolkref07_ID : Nat → List Bool → T_kinfolkref01_ID → Option (List Bool)
  | 0, _, _ => none
  | N + 1, l, i => kinfolkref07_ID_b (kinfolkref07_ID N) l i
theorem kinfolkref07_ID_runs : ∀ (N : Nat) (l : List Bool) (i : T_kinfolkref01_ID) (r_ : List Bool), kinfolkref07_ID N l i = some r_ → Runs Try.prog 48 [(.one (.pv (.bools l false))), (.one (.pv (T_kinfolkref01_ID.pv i)))] [] [] (kinfolkref07_ID_out l i r_)
  | 0, _, _, _, h => by cases h
  | N + 1, l, i, r_, h => kinfolkref07_ID_b_runs (kinfolkref07_ID N) (kinfolkref07_ID_runs N) l i r_ h
/-! ### kinfolkref05_Bytes_out -/
def kinfolkref05_Bytes_out (l : List Bool) : List Int → Res
  | r1 => ([(.one (.own 0 0 (r1).length false))], [], [(.ints .u8 r1)])
/-! ### kinfolkref05_Bytes_L1_3 -/
def kinfolkref05_Bytes_L1_3_st (l : List Bool) (i : Int) (l2 : List Int) : Int × Int → St
  | (b, k) => ⟨[(0, (.av (.one (.pv (.bools l false))))), (3, (.av (.one (.own 0 0 (l2).length false)))), (4, (.av (.one (.pv (.int .i64 i))))), (5, (.av (.one (.pv (.int .u8 b))))), (6, (.av (.one (.pv (.int .i64 k)))))], [], [(0, (.live (.ints .u8 l2)))]⟩
def kinfolkref05_Bytes_L1_3_ex (l : List Bool) (i : Int) (l2 : List Int) : Int → Ex × St
  | r1 => ((.exit 2), ⟨[(0, (.av (.one (.pv (.bools l false))))), (3, (.av (.one (.own 0 0 (l2).length false)))), (4, (.av (.one (.pv (.int .i64 i))))), (5, (.av (.one (.pv (.int .u8 r1)))))], [], [(0, (.live (.ints .u8 l2)))]⟩)
noncomputable def kinfolkref05_Bytes_L1_3_step (l : List Bool) (i : Int) (l2 : List Int) : Int × Int → Option ((Int × Int) ⊕ (Int))
  | (b, k) =>
  bif (decide ((k : Int) < 8)) then
    bif (decide (((iadd .i64 i k) : Int) < ((l).length : Int))) then
      bif decide ((0 : Int) ≤ (iadd .i64 i k)) && decide (((iadd .i64 i k) : Int) < ((l).length : Int)) then
      bif (l.getD ((iadd .i64 i k)).toNat false) then
        some (.inl ((iadd .u8 (imul .u8 b 2) 1), (iadd .i64 k 1)))
      else
        some (.inl ((imul .u8 b 2), (iadd .i64 k 1)))
      else none
    else
      some (.inl ((imul .u8 b 2), (iadd .i64 k 1)))
  else
    some (.inr b)
theorem kinfolkref05_Bytes_L1_3_ok (l : List Bool) (i : Int) (l2 : List Int) (s_ : Int × Int) (z_ : (Int × Int) ⊕ (Int)) (h : kinfolkref05_Bytes_L1_3_step l i l2 s_ = some z_) : RoundOk Try.prog cfg 47 0 (loopAt Try.prog 47 1) (kinfolkref05_Bytes_L1_3_st l i l2) (kinfolkref05_Bytes_L1_3_ex l i l2) s_ z_ := by
  rcases s_ with ⟨b, k⟩
  rcases cond_of h with ⟨h1, h⟩ | ⟨h1, h⟩
  · rcases cond_of h with ⟨h2, h⟩ | ⟨h2, h⟩
    · obtain ⟨h3, h⟩ := need_of h
      rcases cond_of h with ⟨h4, h⟩ | ⟨h4, h⟩
      · have h := some_of h
        subst h
        exact ⟨[.br true, .br true, .br true], kinfolkref05_Bytes_L1_3_st l i l2 ((iadd .u8 (imul .u8 b 2) 1), (iadd .i64 k 1)), .k0 (an_ h1 (an_ h2 (an_ h3 (an_ h4 trivial)))) (by kernel_rfl), .same (by kernel_rfl)⟩
      · have h := some_of h
        subst h
        exact ⟨[.br true, .br true, .br false], kinfolkref05_Bytes_L1_3_st l i l2 ((imul .u8 b 2), (iadd .i64 k 1)), .k0 (an_ h1 (an_ h2 (an_ h3 (an_ h4 trivial)))) (by kernel_rfl), .same (by kernel_rfl)⟩
    · have h := some_of h
      subst h
      exact ⟨[.br true, .br false, .br false], kinfolkref05_Bytes_L1_3_st l i l2 ((imul .u8 b 2), (iadd .i64 k 1)), .k0 (an_ h1 (an_ h2 (an_ (rfl : false = false) trivial))) (by kernel_rfl), .same (by kernel_rfl)⟩
  · have h := some_of h
    subst h
    exact ⟨[.br false], ⟨[(14, (.av (.one (.pv (.bool false))))), (0, (.av (.one (.pv (.bools l false))))), (3, (.av (.one (.own 0 0 (l2).length false)))), (4, (.av (.one (.pv (.int .i64 i))))), (5, (.av (.one (.pv (.int .u8 b))))), (6, (.av (.one (.pv (.int .i64 k))))), (14, (.av (.one (.pv (.bool (decide ((k : Int) < 8)))))))], [], [(0, (.live (.ints .u8 l2)))]⟩, .k0 (an_ h1 trivial) (by kernel_rfl), ⟨⟨⟨_, rfl, .eq rfl⟩, ⟨_, rfl, .eq rfl⟩, ⟨_, rfl, .eq rfl⟩, ⟨_, rfl, .eq rfl⟩, trivial⟩, trivial, ⟨⟨rfl, .eq rfl⟩, trivial⟩⟩⟩
theorem kinfolkref05_Bytes_L1_3_runs (l : List Bool) (i : Int) (l2 : List Int) (s_ : Int × Int) (r_ : Int) (h : runL (kinfolkref05_Bytes_L1_3_step l i l2) s_ = some r_) : LRuns Try.prog (lEnv Try.prog cfg 47 0).nt 0 (.loop (loopAt Try.prog 47 1)) (kinfolkref05_Bytes_L1_3_st l i l2 s_) (kinfolkref05_Bytes_L1_3_ex l i l2 r_).1 (kinfolkref05_Bytes_L1_3_ex l i l2 r_).2 :=
  loop_run h (kinfolkref05_Bytes_L1_3_ok l i l2) (by intro r_; rcases r_ with r1 <;> simp [kinfolkref05_Bytes_L1_3_ex])
/-! ### kinfolkref05_Bytes_L0_2 -/
def kinfolkref05_Bytes_L0_2_st (l : List Bool) : Int × List Int → St
  | (i, l2) => ⟨[(0, (.av (.one (.pv (.bools l false))))), (3, (.av (.one (.own 0 0 (l2).length false)))), (4, (.av (.one (.pv (.int .i64 i)))))], [], [(0, (.live (.ints .u8 l2)))]⟩
def kinfolkref05_Bytes_L0_2_ex (l : List Bool) : List Int → Ex × St
  | r1 => ((.exit 0), ⟨[(3, (.av (.one (.own 0 0 (r1).length false))))], [], [(0, (.live (.ints .u8 r1)))]⟩)
noncomputable def kinfolkref05_Bytes_L0_2_step (l : List Bool) : Int × List Int → Option ((Int × List Int) ⊕ (List Int))
  | (i, l2) =>
  bif (decide ((i : Int) < ((l).length : Int))) then
    (runL (kinfolkref05_Bytes_L1_3_step l i l2) (0, 0)).bind fun n =>
    bif fits ((l2 ++ [n])).length then
    some (.inl ((iadd .i64 i 8), (l2 ++ [n])))
    else none
  else
    some (.inr l2)
theorem kinfolkref05_Bytes_L0_2_ok (l : List Bool) (s_ : Int × List Int) (z_ : (Int × List Int) ⊕ (List Int)) (h : kinfolkref05_Bytes_L0_2_step l s_ = some z_) : RoundOk Try.prog cfg 47 0 (loopAt Try.prog 47 0) (kinfolkref05_Bytes_L0_2_st l) (kinfolkref05_Bytes_L0_2_ex l) s_ z_ := by
  rcases s_ with ⟨i, l2⟩
  rcases cond_of h with ⟨h1, h⟩ | ⟨h1, h⟩
  · obtain ⟨n, h2, h⟩ := bind_of h
    obtain ⟨h3, h⟩ := need_of h
    have h := some_of h
    subst h
    exact ⟨[.br true, .lp (kinfolkref05_Bytes_L1_3_ex l i l2 n).1 (kinfolkref05_Bytes_L1_3_ex l i l2 n).2], kinfolkref05_Bytes_L0_2_st l ((iadd .i64 i 8), (l2 ++ [n])), .k0 (an_ h1 (an_ (kinfolkref05_Bytes_L1_3_runs l i l2 _ _ h2) (an_ (show (Nat.beq (l2).length (l2).length) = true from Nat.beq_refl _) (an_ h3 trivial)))) (by kernel_rfl), .same (by kernel_rfl)⟩
  · have h := some_of h
    subst h
    exact ⟨[.br false], ⟨[(10, (.av (.one (.pv (.bool false))))), (0, (.av (.one (.pv (.bools l false))))), (3, (.av (.one (.own 0 0 (l2).length false)))), (4, (.av (.one (.pv (.int .i64 i))))), (10, (.av (.one (.pv (.bool (decide ((i : Int) < ((l).length : Int))))))))], [], [(0, (.live (.ints .u8 l2)))]⟩, .k0 (an_ h1 trivial) (by kernel_rfl), ⟨⟨⟨_, rfl, .eq rfl⟩, trivial⟩, trivial, ⟨⟨rfl, .eq rfl⟩, trivial⟩⟩⟩
theorem kinfolkref05_Bytes_L0_2_runs (l : List Bool) (s_ : Int × List Int) (r_ : List Int) (h : runL (kinfolkref05_Bytes_L0_2_step l) s_ = some r_) : LRuns Try.prog (lEnv Try.prog cfg 47 0).nt 0 (.loop (loopAt Try.prog 47 0)) (kinfolkref05_Bytes_L0_2_st l s_) (kinfolkref05_Bytes_L0_2_ex l r_).1 (kinfolkref05_Bytes_L0_2_ex l r_).2 :=
  loop_run h (kinfolkref05_Bytes_L0_2_ok l) (by intro r_; rcases r_ with r1 <;> simp [kinfolkref05_Bytes_L0_2_ex])
/-! ### kinfolkref05_Bytes -/
noncomputable def kinfolkref05_Bytes (l : List Bool) : Option (List Int) :=
  (runL (kinfolkref05_Bytes_L0_2_step l) (0, [])).bind fun l_ =>
  some l_
theorem kinfolkref05_Bytes_runs (l : List Bool) (r_ : List Int) (h : kinfolkref05_Bytes l = some r_) : Runs Try.prog 47 [(.one (.pv (.bools l false)))] [] [] (kinfolkref05_Bytes_out l r_) := by
  unfold kinfolkref05_Bytes at h
  obtain ⟨l_, h1, h⟩ := bind_of h
  have h := some_of h
  subst h
  exact runs_of (C := cfg) (objs := []) (sc := [.lp (kinfolkref05_Bytes_L0_2_ex l l_).1 (kinfolkref05_Bytes_L0_2_ex l l_).2]) (.k0 (an_ (LRuns.coe (s0 := ⟨[(0, (.av (.one (.pv (.bools l false))))), (3, (.av (.one (.own 0 0 0 false)))), (4, (.av (.one (.pv (.int .i64 0)))))], [], [(0, (.live (.ints .u8 [])))]⟩) (kinfolkref05_Bytes_L0_2_runs l _ _ h1) ⟨⟨⟨_, rfl, .eq rfl⟩, ⟨_, rfl, .own (by first | rfl | (simp only [List.take_length]; done) | (simp only [List.take_length, List.length_append, List.drop_zero, List.map_append, List.map_take, List.map_drop, List.map_replicate, List.map_cons, List.map_nil, List.append_nil, List.nil_append, E_deed_Gift.pv, E_deed_Gift.upd]; done) | (simp; done) | (simp only [List.length_map, List.take_length, List.length_append, List.drop_zero, List.map_append, List.map_take, List.map_drop, List.map_replicate, List.map_cons, List.map_nil, List.append_nil, List.nil_append, E_deed_Gift.pv, E_deed_Gift.upd]; done))⟩, ⟨_, rfl, .eq rfl⟩, trivial⟩, trivial, ⟨⟨rfl, .eq rfl⟩, trivial⟩⟩) trivial) (by kernel_rfl))
/-! ### kinfolkref06_Text_out -/
def kinfolkref06_Text_out (s : ByteArray) : List Int → Res
  | r1 => ([(.one (.own 0 0 (r1).length false))], [], [(.ints .u8 r1)])
/-! ### kinfolkref06_Text -/
noncomputable def kinfolkref06_Text (N : Nat) (s : ByteArray) : Option (List Int) :=
  (kinfolkref06_Num N (IntKind.u64.wrap (s.size : Int))).bind fun l_ =>
  bif decide (s.size ≤ 140737488355328) then
  bif fits ((l_ ++ (List.take (bytesL s).length (bytesL s)))).length then
  some (l_ ++ (bytesL s))
  else none
  else none
theorem kinfolkref06_Text_runs (N : Nat) (s : ByteArray) (r_ : List Int) (h : kinfolkref06_Text N s = some r_) : Runs Try.prog 46 [(.one (.pv (.str s)))] [] [] (kinfolkref06_Text_out s r_) := by
  unfold kinfolkref06_Text at h
  obtain ⟨l_, h1, h⟩ := bind_of h
  obtain ⟨h2, h⟩ := need_of h
  obtain ⟨h3, h⟩ := need_of h
  have h := some_of h
  subst h
  have e_ : Runs Try.prog 46 [(.one (.pv (.str s)))] [] [] ([(.one (.own 0 0 ((l_ ++ (List.take (bytesL s).length (bytesL s)))).length false))], [], [(.ints .u8 (l_ ++ (List.take (bytesL s).length (bytesL s))))]) := runs_of (C := cfg) (objs := []) (sc := [.res (kinfolkref06_Num_out (IntKind.u64.wrap (s.size : Int)) l_)]) (.k0 (an_ (kinfolkref06_Num_runs N (IntKind.u64.wrap (s.size : Int)) _ h1) (an_ h2 (an_ (show (Nat.beq (l_).length (l_).length) = true from Nat.beq_refl _) (an_ h3 trivial)))) (by kernel_rfl))
  exact e_.out ⟨.own (by first | rfl | (simp only [List.take_length]; done) | (simp only [List.take_length, List.length_append, List.drop_zero, List.map_append, List.map_take, List.map_drop, List.map_replicate, List.map_cons, List.map_nil, List.append_nil, List.nil_append, E_deed_Gift.pv, E_deed_Gift.upd]; done) | (simp; done) | (simp only [List.length_map, List.take_length, List.length_append, List.drop_zero, List.map_append, List.map_take, List.map_drop, List.map_replicate, List.map_cons, List.map_nil, List.append_nil, List.nil_append, E_deed_Gift.pv, E_deed_Gift.upd]; done)), trivial⟩ trivial ⟨.eq (by first | rfl | (simp only [List.take_length]; done) | (simp only [List.take_length, List.length_append, List.drop_zero, List.map_append, List.map_take, List.map_drop, List.map_replicate, List.map_cons, List.map_nil, List.append_nil, List.nil_append, E_deed_Gift.pv, E_deed_Gift.upd]; done) | (simp; done) | (simp only [List.length_map, List.take_length, List.length_append, List.drop_zero, List.map_append, List.map_take, List.map_drop, List.map_replicate, List.map_cons, List.map_nil, List.append_nil, List.nil_append, E_deed_Gift.pv, E_deed_Gift.upd]; done)), trivial⟩ rfl
/-! ### kinfolkref06_Join_out -/
def kinfolkref06_Join_out (l : List E_L_uint8) : List Int → Res
  | r1 => ([(.one (.own 0 0 (r1).length false))], [], [(.ints .u8 r1)])
/-! ### kinfolkref06_Join_L0_2 -/
def kinfolkref06_Join_L0_2_st (r : List E_L_uint8) (n : Int) : Int × List Int → St
  | (n2, l) => ⟨[(3, (.av (.one (.own 0 0 (l).length false)))), (6, (.av (.one (.pv (.recs 1 (List.map E_L_uint8.pv r) false))))), (7, (.av (.one (.pv (.int .i64 n))))), (8, (.av (.one (.pv (.int .i64 n2)))))], [], [(0, (.live (.ints .u8 l)))]⟩
def kinfolkref06_Join_L0_2_ex (r : List E_L_uint8) (n : Int) : List Int → Ex × St
  | r1 => ((.exit 0), ⟨[(3, (.av (.one (.own 0 0 (r1).length false))))], [], [(0, (.live (.ints .u8 r1)))]⟩)
noncomputable def kinfolkref06_Join_L0_2_step (r : List E_L_uint8) (n : Int) : Int × List Int → Option ((Int × List Int) ⊕ (List Int))
  | (n2, l) =>
  bif (decide ((n2 : Int) < n)) then
    bif decide ((0 : Int) ≤ n2) && decide ((n2 : Int) < (((List.map E_L_uint8.pv r)).length : Int)) then
    (r[(n2).toNat]?).bind fun e_ => match e_ with
    | .mk l_ =>
    bif fits ((l ++ l_)).length then
    some (.inl ((iadd .i64 n2 1), (l ++ l_)))
    else none
    else none
  else
    some (.inr l)
theorem kinfolkref06_Join_L0_2_ok (r : List E_L_uint8) (n : Int) (s_ : Int × List Int) (z_ : (Int × List Int) ⊕ (List Int)) (h : kinfolkref06_Join_L0_2_step r n s_ = some z_) : RoundOk Try.prog cfg 13 0 (loopAt Try.prog 13 0) (kinfolkref06_Join_L0_2_st r n) (kinfolkref06_Join_L0_2_ex r n) s_ z_ := by
  rcases s_ with ⟨n2, l⟩
  rcases cond_of h with ⟨h1, h⟩ | ⟨h1, h⟩
  · obtain ⟨h2, h⟩ := need_of h
    obtain ⟨⟨l_⟩, h3, h⟩ := bind_of h
    obtain ⟨h4, h⟩ := need_of h
    have h := some_of h
    subst h
    exact ⟨[.br true, .el [(.ints .u8 l_ false)]], kinfolkref06_Join_L0_2_st r n ((iadd .i64 n2 1), (l ++ l_)), .k0 (an_ h1 (an_ h2 (an_ (el_of (f := E_L_uint8.pv) h3) (an_ (show (Nat.beq (l).length (l).length) = true from Nat.beq_refl _) (an_ h4 trivial))))) (by kernel_rfl), .same (by kernel_rfl)⟩
  · have h := some_of h
    subst h
    exact ⟨[.br false], ⟨[(9, (.av (.one (.pv (.bool false))))), (3, (.av (.one (.own 0 0 (l).length false)))), (6, (.av (.one (.pv (.recs 1 (List.map E_L_uint8.pv r) false))))), (7, (.av (.one (.pv (.int .i64 n))))), (8, (.av (.one (.pv (.int .i64 n2))))), (9, (.av (.one (.pv (.bool (decide ((n2 : Int) < n)))))))], [], [(0, (.live (.ints .u8 l)))]⟩, .k0 (an_ h1 trivial) (by kernel_rfl), ⟨⟨⟨_, rfl, .eq rfl⟩, trivial⟩, trivial, ⟨⟨rfl, .eq rfl⟩, trivial⟩⟩⟩
theorem kinfolkref06_Join_L0_2_runs (r : List E_L_uint8) (n : Int) (s_ : Int × List Int) (r_ : List Int) (h : runL (kinfolkref06_Join_L0_2_step r n) s_ = some r_) : LRuns Try.prog (lEnv Try.prog cfg 13 0).nt 0 (.loop (loopAt Try.prog 13 0)) (kinfolkref06_Join_L0_2_st r n s_) (kinfolkref06_Join_L0_2_ex r n r_).1 (kinfolkref06_Join_L0_2_ex r n r_).2 :=
  loop_run h (kinfolkref06_Join_L0_2_ok r n) (by intro r_; rcases r_ with r1 <;> simp [kinfolkref06_Join_L0_2_ex])
/-! ### kinfolkref06_Join -/
noncomputable def kinfolkref06_Join (l : List E_L_uint8) : Option (List Int) :=
  (runL (kinfolkref06_Join_L0_2_step l (((List.map E_L_uint8.pv l)).length : Int)) (0, [])).bind fun l_ =>
  some l_
theorem kinfolkref06_Join_runs (l : List E_L_uint8) (r_ : List Int) (h : kinfolkref06_Join l = some r_) : Runs Try.prog 13 [(.one (.pv (.recs 1 (List.map E_L_uint8.pv l) false)))] [] [] (kinfolkref06_Join_out l r_) := by
  unfold kinfolkref06_Join at h
  obtain ⟨l_, h1, h⟩ := bind_of h
  have h := some_of h
  subst h
  exact runs_of (C := cfg) (objs := []) (sc := [.lp (kinfolkref06_Join_L0_2_ex l (((List.map E_L_uint8.pv l)).length : Int) l_).1 (kinfolkref06_Join_L0_2_ex l (((List.map E_L_uint8.pv l)).length : Int) l_).2]) (.k0 (an_ (LRuns.coe (s0 := ⟨[(3, (.av (.one (.own 0 0 0 false)))), (6, (.av (.one (.pv (.recs 1 (List.map E_L_uint8.pv l) false))))), (7, (.av (.one (.pv (.int .i64 (((List.map E_L_uint8.pv l)).length : Int)))))), (8, (.av (.one (.pv (.int .i64 0)))))], [], [(0, (.live (.ints .u8 [])))]⟩) (kinfolkref06_Join_L0_2_runs l (((List.map E_L_uint8.pv l)).length : Int) _ _ h1) ⟨⟨⟨_, rfl, .own (by first | rfl | (simp only [List.take_length]; done) | (simp only [List.take_length, List.length_append, List.drop_zero, List.map_append, List.map_take, List.map_drop, List.map_replicate, List.map_cons, List.map_nil, List.append_nil, List.nil_append, E_deed_Gift.pv, E_L_uint8.pv, E_deed_Gift.upd, E_L_uint8.upd]; done) | (simp; done) | (simp only [List.length_map, List.take_length, List.length_append, List.drop_zero, List.map_append, List.map_take, List.map_drop, List.map_replicate, List.map_cons, List.map_nil, List.append_nil, List.nil_append, E_deed_Gift.pv, E_L_uint8.pv, E_deed_Gift.upd, E_L_uint8.upd]; done))⟩, ⟨_, rfl, .eq rfl⟩, ⟨_, rfl, .eq rfl⟩, ⟨_, rfl, .eq rfl⟩, trivial⟩, trivial, ⟨⟨rfl, .eq rfl⟩, trivial⟩⟩) trivial) (by kernel_rfl))
/-! ### kinfolkref15_PutGift -/
noncomputable def kinfolkref15_PutGift (N : Nat) (g : Int) (g2 : Int) (g3 : Int) (g4 : T_kinfolkref01_ID) : Option (List Int) :=
  (kinfolkref06_Num N g).bind fun l_ =>
  (kinfolkref06_Num N (IntKind.u64.wrap g2)).bind fun l_2 =>
  (kinfolkref06_Num N (IntKind.u64.wrap g3)).bind fun l_3 =>
  (kinfolkref07_ID N [] g4).bind fun l_4 =>
  (kinfolkref05_Bytes l_4).bind fun l_5 =>
  (kinfolkref06_Text N (strOf (List.take (l_5).length l_5))).bind fun l_6 =>
  (kinfolkref06_Join [(E_L_uint8.mk l_), (E_L_uint8.mk l_2), (E_L_uint8.mk l_3), (E_L_uint8.mk l_6)]).bind fun l_7 =>
  some l_7
theorem kinfolkref15_PutGift_runs (N : Nat) (g : Int) (g2 : Int) (g3 : Int) (g4 : T_kinfolkref01_ID) (r_ : List Int) (h : kinfolkref15_PutGift N g g2 g3 g4 = some r_) : Runs Try.prog 14 [(.agg [(.pv (.int .u64 g)), (.pv (.int .i64 g2)), (.pv (.int .i64 g3)), (.pv (T_kinfolkref01_ID.pv g4))])] [] [] (kinfolkref15_PutGift_out g g2 g3 g4 r_) := by
  unfold kinfolkref15_PutGift at h
  obtain ⟨l_, h1, h⟩ := bind_of h
  obtain ⟨l_2, h2, h⟩ := bind_of h
  obtain ⟨l_3, h3, h⟩ := bind_of h
  obtain ⟨l_4, h4, h⟩ := bind_of h
  obtain ⟨l_5, h5, h⟩ := bind_of h
  obtain ⟨l_6, h6, h⟩ := bind_of h
  obtain ⟨l_7, h7, h⟩ := bind_of h
  have h := some_of h
  subst h
  exact runs_of (C := cfg) (objs := []) (sc := [.res (kinfolkref06_Num_out g l_), .res (kinfolkref06_Num_out g l_), .res (kinfolkref06_Num_out g l_), .res (kinfolkref06_Num_out g l_), .res (kinfolkref06_Num_out (IntKind.u64.wrap g2) l_2), .res (kinfolkref06_Num_out g l_), .res (kinfolkref06_Num_out g l_), .res (kinfolkref06_Num_out (IntKind.u64.wrap g2) l_2), .res (kinfolkref06_Num_out g l_), .res (kinfolkref06_Num_out (IntKind.u64.wrap g2) l_2), .res (kinfolkref06_Num_out g l_), .res (kinfolkref06_Num_out (IntKind.u64.wrap g2) l_2), .res (kinfolkref06_Num_out (IntKind.u64.wrap g3) l_3), .res (kinfolkref06_Num_out (IntKind.u64.wrap g3) l_3), .res (kinfolkref07_ID_out [] g4 l_4), .res (kinfolkref05_Bytes_out l_4 l_5), .res (kinfolkref06_Text_out (strOf (List.take (l_5).length l_5)) l_6), .res (kinfolkref06_Join_out [(E_L_uint8.mk l_), (E_L_uint8.mk l_2), (E_L_uint8.mk l_3), (E_L_uint8.mk l_6)] l_7)]) (.k1 (an_ (kinfolkref06_Num_runs N g _ h1) (an_ (kinfolkref06_Num_runs N g _ h1) (an_ (kinfolkref06_Num_runs N g _ h1) (an_ (kinfolkref06_Num_runs N g _ h1) (an_ (kinfolkref06_Num_runs N (IntKind.u64.wrap g2) _ h2) (an_ (kinfolkref06_Num_runs N g _ h1) (an_ (kinfolkref06_Num_runs N g _ h1) (an_ (kinfolkref06_Num_runs N (IntKind.u64.wrap g2) _ h2) (an_ (kinfolkref06_Num_runs N g _ h1) (an_ (kinfolkref06_Num_runs N (IntKind.u64.wrap g2) _ h2) (an_ (kinfolkref06_Num_runs N g _ h1) (an_ (kinfolkref06_Num_runs N (IntKind.u64.wrap g2) _ h2) (an_ (kinfolkref06_Num_runs N (IntKind.u64.wrap g3) _ h3) (an_ (kinfolkref06_Num_runs N (IntKind.u64.wrap g3) _ h3) (an_ (Runs.coe (as' := [(.one (.pv .nils)), (.one (.pv (T_kinfolkref01_ID.pv g4)))]) (objs' := []) (rows' := []) (kinfolkref07_ID_runs N [] g4 _ h4) ⟨.pv (.nilsB), .eq rfl, trivial⟩ trivial trivial) (an_ (Runs.coe (as' := [(.one (.pv (.bools (List.take (l_4).length l_4) false)))]) (objs' := []) (rows' := []) (kinfolkref05_Bytes_runs l_4 _ h5) ⟨.pv (.bools (by first | rfl | (simp only [List.take_length]; done) | (simp only [List.take_length, List.length_append, List.drop_zero, List.map_append, List.map_take, List.map_drop, List.map_replicate, List.map_cons, List.map_nil, List.append_nil, List.nil_append, E_deed_Gift.pv, E_L_uint8.pv, E_deed_Gift.upd, E_L_uint8.upd]; done) | (simp; done) | (simp only [List.length_map, List.take_length, List.length_append, List.drop_zero, List.map_append, List.map_take, List.map_drop, List.map_replicate, List.map_cons, List.map_nil, List.append_nil, List.nil_append, E_deed_Gift.pv, E_L_uint8.pv, E_deed_Gift.upd, E_L_uint8.upd]; done))), trivial⟩ trivial trivial) (an_ (kinfolkref06_Text_runs N (strOf (List.take (l_5).length l_5)) _ h6) (an_ (Runs.coe (as' := [(.one (.pv (.recs 1 [[(.ints .u8 (List.take (l_).length l_) false)], [(.ints .u8 (List.take (l_2).length l_2) false)], [(.ints .u8 (List.take (l_3).length l_3) false)], [(.ints .u8 (List.take (l_6).length l_6) false)]] true)))]) (objs' := []) (rows' := []) (kinfolkref06_Join_runs [(E_L_uint8.mk l_), (E_L_uint8.mk l_2), (E_L_uint8.mk l_3), (E_L_uint8.mk l_6)] _ h7) ⟨.pv (.recs (.cons (.cons (.ints (by first | rfl | (simp only [List.take_length]; done) | (simp only [List.take_length, List.length_append, List.drop_zero, List.map_append, List.map_take, List.map_drop, List.map_replicate, List.map_cons, List.map_nil, List.append_nil, List.nil_append, E_deed_Gift.pv, E_L_uint8.pv, E_deed_Gift.upd, E_L_uint8.upd]; done) | (simp; done) | (simp only [List.length_map, List.take_length, List.length_append, List.drop_zero, List.map_append, List.map_take, List.map_drop, List.map_replicate, List.map_cons, List.map_nil, List.append_nil, List.nil_append, E_deed_Gift.pv, E_L_uint8.pv, E_deed_Gift.upd, E_L_uint8.upd]; done))) (.nil)) (.cons (.cons (.ints (by first | rfl | (simp only [List.take_length]; done) | (simp only [List.take_length, List.length_append, List.drop_zero, List.map_append, List.map_take, List.map_drop, List.map_replicate, List.map_cons, List.map_nil, List.append_nil, List.nil_append, E_deed_Gift.pv, E_L_uint8.pv, E_deed_Gift.upd, E_L_uint8.upd]; done) | (simp; done) | (simp only [List.length_map, List.take_length, List.length_append, List.drop_zero, List.map_append, List.map_take, List.map_drop, List.map_replicate, List.map_cons, List.map_nil, List.append_nil, List.nil_append, E_deed_Gift.pv, E_L_uint8.pv, E_deed_Gift.upd, E_L_uint8.upd]; done))) (.nil)) (.cons (.cons (.ints (by first | rfl | (simp only [List.take_length]; done) | (simp only [List.take_length, List.length_append, List.drop_zero, List.map_append, List.map_take, List.map_drop, List.map_replicate, List.map_cons, List.map_nil, List.append_nil, List.nil_append, E_deed_Gift.pv, E_L_uint8.pv, E_deed_Gift.upd, E_L_uint8.upd]; done) | (simp; done) | (simp only [List.length_map, List.take_length, List.length_append, List.drop_zero, List.map_append, List.map_take, List.map_drop, List.map_replicate, List.map_cons, List.map_nil, List.append_nil, List.nil_append, E_deed_Gift.pv, E_L_uint8.pv, E_deed_Gift.upd, E_L_uint8.upd]; done))) (.nil)) (.cons (.cons (.ints (by first | rfl | (simp only [List.take_length]; done) | (simp only [List.take_length, List.length_append, List.drop_zero, List.map_append, List.map_take, List.map_drop, List.map_replicate, List.map_cons, List.map_nil, List.append_nil, List.nil_append, E_deed_Gift.pv, E_L_uint8.pv, E_deed_Gift.upd, E_L_uint8.upd]; done) | (simp; done) | (simp only [List.length_map, List.take_length, List.length_append, List.drop_zero, List.map_append, List.map_take, List.map_drop, List.map_replicate, List.map_cons, List.map_nil, List.append_nil, List.nil_append, E_deed_Gift.pv, E_L_uint8.pv, E_deed_Gift.upd, E_L_uint8.upd]; done))) (.nil)) (.nil)))))), trivial⟩ trivial trivial) trivial)))))))))))))))))) (by kernel_rfl) (by kernel_rfl))
/-! ### kinfolkref06_Same_out -/
def kinfolkref06_Same_out (a : List Int) (b : List Int) : Bool → Res
  | r1 => ([(.one (.pv (.bool r1)))], [], [])
/-! ### kinfolkref06_Same_L0 -/
def kinfolkref06_Same_L0_st (a : List Int) (b : List Int) (n : Int) : Int → St
  | n2 => ⟨[(0, (.av (.one (.pv (.ints .u8 a false))))), (1, (.av (.one (.pv (.ints .u8 b false))))), (12, (.av (.one (.pv (.int .i64 n))))), (13, (.av (.one (.pv (.int .i64 n2)))))], [], []⟩
def kinfolkref06_Same_L0_ex (a : List Int) (b : List Int) (n : Int) : (Unit) ⊕ (Unit) → Ex × St
  | .inl _ => (.ret, ⟨[(4, (.av (.one (.pv (.bool false)))))], [], []⟩)
  | .inr _ => ((.exit 0), ⟨[], [], []⟩)
noncomputable def kinfolkref06_Same_L0_step (a : List Int) (b : List Int) (n : Int) : Int → Option ((Int) ⊕ ((Unit) ⊕ (Unit)))
  | n2 =>
  bif (decide ((n2 : Int) < n)) then
    bif decide ((0 : Int) ≤ n2) && decide ((n2 : Int) < ((a).length : Int)) then
    bif decide ((0 : Int) ≤ n2) && decide ((n2 : Int) < ((b).length : Int)) then
    bif (decide (((a.getD (n2).toNat 0) : Int) = (b.getD (n2).toNat 0))) then
      some (.inl (iadd .i64 n2 1))
    else
      some (.inr (.inl ()))
    else none
    else none
  else
    some (.inr (.inr ()))
theorem kinfolkref06_Same_L0_ok (a : List Int) (b : List Int) (n : Int) (n2 : Int) (z_ : (Int) ⊕ ((Unit) ⊕ (Unit))) (h : kinfolkref06_Same_L0_step a b n n2 = some z_) : RoundOk Try.prog cfg 12 0 (loopAt Try.prog 12 0) (kinfolkref06_Same_L0_st a b n) (kinfolkref06_Same_L0_ex a b n) n2 z_ := by
  rcases cond_of h with ⟨h1, h⟩ | ⟨h1, h⟩
  · obtain ⟨h2, h⟩ := need_of h
    obtain ⟨h3, h⟩ := need_of h
    rcases cond_of h with ⟨h4, h⟩ | ⟨h4, h⟩
    · have h := some_of h
      subst h
      exact ⟨[.br true, .br false], kinfolkref06_Same_L0_st a b n (iadd .i64 n2 1), .k0 (an_ h1 (an_ h2 (an_ h3 (an_ (not_of2 h4) trivial)))) (by kernel_rfl), .same (by kernel_rfl)⟩
    · have h := some_of h
      subst h
      exact ⟨[.br true, .br true], (kinfolkref06_Same_L0_ex a b n (.inl ())).2, .k0 (an_ h1 (an_ h2 (an_ h3 (an_ (not_of h4) trivial)))) (by kernel_rfl), .same (by kernel_rfl)⟩
  · have h := some_of h
    subst h
    exact ⟨[.br false], ⟨[(14, (.av (.one (.pv (.bool false))))), (0, (.av (.one (.pv (.ints .u8 a false))))), (1, (.av (.one (.pv (.ints .u8 b false))))), (12, (.av (.one (.pv (.int .i64 n))))), (13, (.av (.one (.pv (.int .i64 n2))))), (14, (.av (.one (.pv (.bool (decide ((n2 : Int) < n)))))))], [], []⟩, .k0 (an_ h1 trivial) (by kernel_rfl), ⟨trivial, trivial, trivial⟩⟩
theorem kinfolkref06_Same_L0_runs (a : List Int) (b : List Int) (n : Int) (s_ : Int) (r_ : (Unit) ⊕ (Unit)) (h : runL (kinfolkref06_Same_L0_step a b n) s_ = some r_) : LRuns Try.prog (lEnv Try.prog cfg 12 0).nt 0 (.loop (loopAt Try.prog 12 0)) (kinfolkref06_Same_L0_st a b n s_) (kinfolkref06_Same_L0_ex a b n r_).1 (kinfolkref06_Same_L0_ex a b n r_).2 :=
  loop_run h (kinfolkref06_Same_L0_ok a b n) (by intro r_; rcases r_ with _ | _ <;> simp [kinfolkref06_Same_L0_ex])
/-! ### kinfolkref06_Same -/
noncomputable def kinfolkref06_Same (a : List Int) (b : List Int) : Option (Bool) :=
  bif (decide ((((a).length : Int) : Int) = ((b).length : Int))) then
    (runL (kinfolkref06_Same_L0_step a b ((a).length : Int)) 0).bind fun z_ => match z_ with
    | .inl _ =>
      some false
    | .inr _ =>
      some true
  else
    some false
theorem kinfolkref06_Same_runs (a : List Int) (b : List Int) (r_ : Bool) (h : kinfolkref06_Same a b = some r_) : Runs Try.prog 12 [(.one (.pv (.ints .u8 a false))), (.one (.pv (.ints .u8 b false)))] [] [] (kinfolkref06_Same_out a b r_) := by
  unfold kinfolkref06_Same at h
  rcases cond_of h with ⟨h1, h⟩ | ⟨h1, h⟩
  · obtain ⟨z_, h2, h⟩ := bind_of h
    rcases z_ with _ | _
    · have h := some_of h
      subst h
      exact runs_of (C := cfg) (objs := []) (sc := [.br false, .lp (kinfolkref06_Same_L0_ex a b ((a).length : Int) (.inl ())).1 (kinfolkref06_Same_L0_ex a b ((a).length : Int) (.inl ())).2]) (.k0 (an_ (not_of2 h1) (an_ (kinfolkref06_Same_L0_runs a b ((a).length : Int) _ _ h2) trivial)) (by kernel_rfl))
    · have h := some_of h
      subst h
      exact runs_of (C := cfg) (objs := []) (sc := [.br false, .lp (kinfolkref06_Same_L0_ex a b ((a).length : Int) (.inr ())).1 (kinfolkref06_Same_L0_ex a b ((a).length : Int) (.inr ())).2]) (.k0 (an_ (not_of2 h1) (an_ (kinfolkref06_Same_L0_runs a b ((a).length : Int) _ _ h2) trivial)) (by kernel_rfl))
  · have h := some_of h
    subst h
    exact runs_of (C := cfg) (objs := []) (sc := [.br true]) (.k0 (an_ (not_of h1) trivial) (by kernel_rfl))
/-! ### kinfolklaw15_same_out -/
def kinfolklaw15_same_out (g : Int) (g2 : Int) (g3 : Int) (g4 : Bool) (g5 : T_id_halves) (h_ : Int) (h_2 : Int) (h_3 : Int) (h_4 : T_kinfolkref01_ID) : Bool → Res
  | r1 => ([(.one (.pv (.bool r1)))], [], [])
/-! ### id_ID_Text_out -/
def id_ID_Text_out (i : Bool) (i2 : T_id_halves) : ByteArray → Res
  | r1 => ([(.one (.pv (.str r1)))], [], [])
/-! ### id_ID_Text -/
noncomputable def id_ID_Text_b (rec_id_ID_Text : Bool → T_id_halves → Option (ByteArray)) (i : Bool) (i2 : T_id_halves) : Option (ByteArray) :=
  (id_ID_IsZero i i2).bind fun b =>
  bif b then
    some (⟨#[48]⟩ : ByteArray)
  else
    (id_ID_IsOne i i2).bind fun _ =>
    bif i then
      some (⟨#[49]⟩ : ByteArray)
    else
      match i2 with
      | .nil =>
        none
      | .mk b2 t b3 t2 =>
        (rec_id_ID_Text b2 t).bind fun s =>
        bif decide ((⟨#[40]⟩ : ByteArray).size + s.size ≤ 140737488355328) then
        bif decide (((⟨#[40]⟩ : ByteArray) ++ s).size + (⟨#[44]⟩ : ByteArray).size ≤ 140737488355328) then
        (rec_id_ID_Text b3 t2).bind fun s2 =>
        bif decide ((((⟨#[40]⟩ : ByteArray) ++ s) ++ (⟨#[44]⟩ : ByteArray)).size + s2.size ≤ 140737488355328) then
        bif decide (((((⟨#[40]⟩ : ByteArray) ++ s) ++ (⟨#[44]⟩ : ByteArray)) ++ s2).size + (⟨#[41]⟩ : ByteArray).size ≤ 140737488355328) then
        some (((((⟨#[40]⟩ : ByteArray) ++ s) ++ (⟨#[44]⟩ : ByteArray)) ++ s2) ++ (⟨#[41]⟩ : ByteArray))
        else none
        else none
        else none
        else none
theorem id_ID_Text_b_runs (rec_id_ID_Text : Bool → T_id_halves → Option (ByteArray)) (hrec_id_ID_Text : ∀ i i2 r_, rec_id_ID_Text i i2 = some r_ → Runs Try.prog 49 [(.agg [(.pv (.bool i)), (.pv (T_id_halves.pv i2))])] [] [] (id_ID_Text_out i i2 r_)) (i : Bool) (i2 : T_id_halves) (r_ : ByteArray) (h : id_ID_Text_b rec_id_ID_Text i i2 = some r_) : Runs Try.prog 49 [(.agg [(.pv (.bool i)), (.pv (T_id_halves.pv i2))])] [] [] (id_ID_Text_out i i2 r_) := by
  unfold id_ID_Text_b at h
  obtain ⟨b, h1, h⟩ := bind_of h
  rcases cond_of h with ⟨h2, h⟩ | ⟨h2, h⟩
  · have h := some_of h
    subst h
    exact runs_of (C := cfg) (objs := []) (sc := [.res (id_ID_IsZero_out i i2 b), .br true]) (.k0 (an_ (id_ID_IsZero_runs i i2 _ h1) (an_ h2 trivial)) (by kernel_rfl))
  · obtain ⟨_, h3, h⟩ := bind_of h
    rcases cond_of h with ⟨h4, h⟩ | ⟨h4, h⟩
    · have h := some_of h
      subst h
      exact runs_of (C := cfg) (objs := []) (sc := [.res (id_ID_IsZero_out i i2 b), .br false, .res (id_ID_IsOne_out i i2 ()), .br true]) (.k0 (an_ (id_ID_IsZero_runs i i2 _ h1) (an_ h2 (an_ (id_ID_IsOne_runs i i2 _ h3) (an_ h4 trivial)))) (by kernel_rfl))
    · cases i2 with
      | nil =>
        cases h
      | mk b2 t b3 t2 =>
        obtain ⟨s, h5, h⟩ := bind_of h
        obtain ⟨h6, h⟩ := need_of h
        obtain ⟨h7, h⟩ := need_of h
        obtain ⟨s2, h8, h⟩ := bind_of h
        obtain ⟨h9, h⟩ := need_of h
        obtain ⟨h10, h⟩ := need_of h
        have h := some_of h
        subst h
        exact runs_of (C := cfg) (objs := []) (sc := [.res (id_ID_IsZero_out i (T_id_halves.mk b2 t b3 t2) b), .br false, .res (id_ID_IsOne_out i (T_id_halves.mk b2 t b3 t2) ()), .br false, .res (id_ID_Text_out b2 t s), .res (id_ID_Text_out b2 t s), .res (id_ID_Text_out b3 t2 s2)]) (.k1 (an_ (id_ID_IsZero_runs i (T_id_halves.mk b2 t b3 t2) _ h1) (an_ h2 (an_ (id_ID_IsOne_runs i (T_id_halves.mk b2 t b3 t2) _ h3) (an_ h4 (an_ (hrec_id_ID_Text b2 t _ h5) (an_ h6 (an_ h7 (an_ (hrec_id_ID_Text b2 t _ h5) (an_ h6 (an_ h7 (an_ (hrec_id_ID_Text b3 t2 _ h8) (an_ h9 (an_ h10 trivial))))))))))))) (by kernel_rfl) (by kernel_rfl))
noncomputable def id_ID_Text : Nat → Bool → T_id_halves → Option (ByteArray)
  | 0, _, _ => none
  | N + 1, i, i2 => id_ID_Text_b (id_ID_Text N) i i2
theorem id_ID_Text_runs : ∀ (N : Nat) (i : Bool) (i2 : T_id_halves) (r_ : ByteArray), id_ID_Text N i i2 = some r_ → Runs Try.prog 49 [(.agg [(.pv (.bool i)), (.pv (T_id_halves.pv i2))])] [] [] (id_ID_Text_out i i2 r_)
  | 0, _, _, _, h => by cases h
  | N + 1, i, i2, r_, h => id_ID_Text_b_runs (id_ID_Text N) (id_ID_Text_runs N) i i2 r_ h
/-! ### kinfolkref01_Text_out -/
def kinfolkref01_Text_out (i : T_kinfolkref01_ID) : ByteArray → Res
  | r1 => ([(.one (.pv (.str r1)))], [], [])
/-! ### kinfolkref01_Text -/
noncomputable def kinfolkref01_Text_b (rec_kinfolkref01_Text : T_kinfolkref01_ID → Option (ByteArray)) (i : T_kinfolkref01_ID) : Option (ByteArray) :=
  match i with
  | .nil =>
    none
  | .mk n t t2 =>
    bif (decide ((n : Int) = 0)) then
      some (⟨#[48]⟩ : ByteArray)
    else
      bif (decide ((n : Int) = 1)) then
        some (⟨#[49]⟩ : ByteArray)
      else
        (rec_kinfolkref01_Text t).bind fun s =>
        bif decide ((⟨#[40]⟩ : ByteArray).size + s.size ≤ 140737488355328) then
        bif decide (((⟨#[40]⟩ : ByteArray) ++ s).size + (⟨#[44]⟩ : ByteArray).size ≤ 140737488355328) then
        (rec_kinfolkref01_Text t2).bind fun s2 =>
        bif decide ((((⟨#[40]⟩ : ByteArray) ++ s) ++ (⟨#[44]⟩ : ByteArray)).size + s2.size ≤ 140737488355328) then
        bif decide (((((⟨#[40]⟩ : ByteArray) ++ s) ++ (⟨#[44]⟩ : ByteArray)) ++ s2).size + (⟨#[41]⟩ : ByteArray).size ≤ 140737488355328) then
        some (((((⟨#[40]⟩ : ByteArray) ++ s) ++ (⟨#[44]⟩ : ByteArray)) ++ s2) ++ (⟨#[41]⟩ : ByteArray))
        else none
        else none
        else none
        else none
theorem kinfolkref01_Text_b_runs (rec_kinfolkref01_Text : T_kinfolkref01_ID → Option (ByteArray)) (hrec_kinfolkref01_Text : ∀ i r_, rec_kinfolkref01_Text i = some r_ → Runs Try.prog 50 [(.one (.pv (T_kinfolkref01_ID.pv i)))] [] [] (kinfolkref01_Text_out i r_)) (i : T_kinfolkref01_ID) (r_ : ByteArray) (h : kinfolkref01_Text_b rec_kinfolkref01_Text i = some r_) : Runs Try.prog 50 [(.one (.pv (T_kinfolkref01_ID.pv i)))] [] [] (kinfolkref01_Text_out i r_) := by
  unfold kinfolkref01_Text_b at h
  cases i with
  | nil =>
    cases h
  | mk n t t2 =>
    rcases cond_of h with ⟨h1, h⟩ | ⟨h1, h⟩
    · have h := some_of h
      subst h
      exact runs_of (C := cfg) (objs := []) (sc := [.br true]) (.k0 (an_ h1 trivial) (by kernel_rfl))
    · rcases cond_of h with ⟨h2, h⟩ | ⟨h2, h⟩
      · have h := some_of h
        subst h
        exact runs_of (C := cfg) (objs := []) (sc := [.br false, .br true]) (.k0 (an_ h1 (an_ h2 trivial)) (by kernel_rfl))
      · obtain ⟨s, h3, h⟩ := bind_of h
        obtain ⟨h4, h⟩ := need_of h
        obtain ⟨h5, h⟩ := need_of h
        obtain ⟨s2, h6, h⟩ := bind_of h
        obtain ⟨h7, h⟩ := need_of h
        obtain ⟨h8, h⟩ := need_of h
        have h := some_of h
        subst h
        exact runs_of (C := cfg) (objs := []) (sc := [.br false, .br false, .res (kinfolkref01_Text_out t s), .res (kinfolkref01_Text_out t2 s2)]) (.k0 (an_ h1 (an_ h2 (an_ (hrec_kinfolkref01_Text t _ h3) (an_ h4 (an_ h5 (an_ (hrec_kinfolkref01_Text t2 _ h6) (an_ h7 (an_ h8 trivial)))))))) (by kernel_rfl))
noncomputable def kinfolkref01_Text : Nat → T_kinfolkref01_ID → Option (ByteArray)
  | 0, _ => none
  | N + 1, i => kinfolkref01_Text_b (kinfolkref01_Text N) i
theorem kinfolkref01_Text_runs : ∀ (N : Nat) (i : T_kinfolkref01_ID) (r_ : ByteArray), kinfolkref01_Text N i = some r_ → Runs Try.prog 50 [(.one (.pv (T_kinfolkref01_ID.pv i)))] [] [] (kinfolkref01_Text_out i r_)
  | 0, _, _, h => by cases h
  | N + 1, i, r_, h => kinfolkref01_Text_b_runs (kinfolkref01_Text N) (kinfolkref01_Text_runs N) i r_ h
/-! ### kinfolklaw15_same -/
noncomputable def kinfolklaw15_same (N : Nat) (g : Int) (g2 : Int) (g3 : Int) (g4 : Bool) (g5 : T_id_halves) (h_ : Int) (h_2 : Int) (h_3 : Int) (h_4 : T_kinfolkref01_ID) : Option (Bool) :=
  bif (decide ((g : Int) = h_)) then
    bif (decide ((g2 : Int) = h_2)) then
      bif (decide ((g3 : Int) = h_3)) then
        (id_ID_Text N g4 g5).bind fun s =>
        (kinfolkref01_Text N h_4).bind fun s2 =>
        some (decide (s = s2))
      else
        some false
    else
      some false
  else
    some false
theorem kinfolklaw15_same_runs (N : Nat) (g : Int) (g2 : Int) (g3 : Int) (g4 : Bool) (g5 : T_id_halves) (h_ : Int) (h_2 : Int) (h_3 : Int) (h_4 : T_kinfolkref01_ID) (r_ : Bool) (h : kinfolklaw15_same N g g2 g3 g4 g5 h_ h_2 h_3 h_4 = some r_) : Runs Try.prog 16 [(.agg [(.pv (.int .u64 g)), (.pv (.int .i64 g2)), (.pv (.int .i64 g3)), (.pv (.bool g4)), (.pv (T_id_halves.pv g5))]), (.agg [(.pv (.int .u64 h_)), (.pv (.int .i64 h_2)), (.pv (.int .i64 h_3)), (.pv (T_kinfolkref01_ID.pv h_4))])] [] [] (kinfolklaw15_same_out g g2 g3 g4 g5 h_ h_2 h_3 h_4 r_) := by
  unfold kinfolklaw15_same at h
  rcases cond_of h with ⟨h1, h⟩ | ⟨h1, h⟩
  · rcases cond_of h with ⟨h2, h⟩ | ⟨h2, h⟩
    · rcases cond_of h with ⟨h3, h⟩ | ⟨h3, h⟩
      · obtain ⟨s, h4, h⟩ := bind_of h
        obtain ⟨s2, h5, h⟩ := bind_of h
        have h := some_of h
        subst h
        exact runs_of (C := cfg) (objs := []) (sc := [.br true, .br true, .br true, .res (id_ID_Text_out g4 g5 s), .res (id_ID_Text_out g4 g5 s), .res (kinfolkref01_Text_out h_4 s2)]) (.k1 (an_ h1 (an_ h2 (an_ h3 (an_ (id_ID_Text_runs N g4 g5 _ h4) (an_ (id_ID_Text_runs N g4 g5 _ h4) (an_ (kinfolkref01_Text_runs N h_4 _ h5) trivial)))))) (by kernel_rfl) (by kernel_rfl))
      · have h := some_of h
        subst h
        exact runs_of (C := cfg) (objs := []) (sc := [.br true, .br true, .br false]) (.k1 (an_ h1 (an_ h2 (an_ h3 trivial))) (by kernel_rfl) (by kernel_rfl))
    · have h := some_of h
      subst h
      exact runs_of (C := cfg) (objs := []) (sc := [.br true, .br false, .br false]) (.k1 (an_ h1 (an_ h2 (an_ (rfl : false = false) trivial))) (by kernel_rfl) (by kernel_rfl))
  · have h := some_of h
    subst h
    exact runs_of (C := cfg) (objs := []) (sc := [.br false, .br false, .br false]) (.k1 (an_ h1 (an_ (rfl : false = false) (an_ (rfl : false = false) trivial))) (by kernel_rfl) (by kernel_rfl))
/-! ### kinfolkref15_Right_out -/
def kinfolkref15_Right_out (g : Int) (g2 : Int) (g3 : Int) (g4 : T_kinfolkref01_ID) : Bool → Res
  | r1 => ([(.one (.pv (.bool r1)))], [], [])
/-! ### kinfolkref15_Right -/
noncomputable def kinfolkref15_Right (g : Int) (g2 : Int) (g3 : Int) (g4 : T_kinfolkref01_ID) : Option (Bool) :=
  bif (decide ((0 : Int) < g)) then
    bif (decide ((g : Int) < 4611686018427387904)) then
      bif (decide ((0 : Int) ≤ g2)) then
        bif (decide ((g2 : Int) < 12)) then
          bif (decide ((0 : Int) ≤ g3)) then
            bif (decide ((g3 : Int) < 12)) then
              bif (decide ((g2 : Int) = g3)) then
                some false
              else
                match g4 with
                | .nil =>
                  none
                | .mk n t t2 =>
                  some (!(decide ((n : Int) = 0)))
            else
              some false
          else
            some false
        else
          some false
      else
        some false
    else
      some false
  else
    some false
theorem kinfolkref15_Right_runs (g : Int) (g2 : Int) (g3 : Int) (g4 : T_kinfolkref01_ID) (r_ : Bool) (h : kinfolkref15_Right g g2 g3 g4 = some r_) : Runs Try.prog 18 [(.agg [(.pv (.int .u64 g)), (.pv (.int .i64 g2)), (.pv (.int .i64 g3)), (.pv (T_kinfolkref01_ID.pv g4))])] [] [] (kinfolkref15_Right_out g g2 g3 g4 r_) := by
  unfold kinfolkref15_Right at h
  rcases cond_of h with ⟨h1, h⟩ | ⟨h1, h⟩
  · rcases cond_of h with ⟨h2, h⟩ | ⟨h2, h⟩
    · rcases cond_of h with ⟨h3, h⟩ | ⟨h3, h⟩
      · rcases cond_of h with ⟨h4, h⟩ | ⟨h4, h⟩
        · rcases cond_of h with ⟨h5, h⟩ | ⟨h5, h⟩
          · rcases cond_of h with ⟨h6, h⟩ | ⟨h6, h⟩
            · rcases cond_of h with ⟨h7, h⟩ | ⟨h7, h⟩
              · have h := some_of h
                subst h
                exact runs_of (C := cfg) (objs := []) (sc := [.br true, .br true, .br true, .br true, .br true, .br true, .br false]) (.k0 (an_ h1 (an_ h2 (an_ h3 (an_ h4 (an_ h5 (an_ h6 (an_ (not_of2 h7) trivial))))))) (by kernel_rfl))
              · cases g4 with
                | nil =>
                  cases h
                | mk n t t2 =>
                  have h := some_of h
                  subst h
                  exact runs_of (C := cfg) (objs := []) (sc := [.br true, .br true, .br true, .br true, .br true, .br true, .br true]) (.k0 (an_ h1 (an_ h2 (an_ h3 (an_ h4 (an_ h5 (an_ h6 (an_ (not_of h7) trivial))))))) (by kernel_rfl))
            · have h := some_of h
              subst h
              exact runs_of (C := cfg) (objs := []) (sc := [.br true, .br true, .br true, .br true, .br true, .br false, .br false]) (.k0 (an_ h1 (an_ h2 (an_ h3 (an_ h4 (an_ h5 (an_ h6 (an_ (rfl : false = false) trivial))))))) (by kernel_rfl))
          · have h := some_of h
            subst h
            exact runs_of (C := cfg) (objs := []) (sc := [.br true, .br true, .br true, .br true, .br false, .br false, .br false]) (.k0 (an_ h1 (an_ h2 (an_ h3 (an_ h4 (an_ h5 (an_ (rfl : false = false) (an_ (rfl : false = false) trivial))))))) (by kernel_rfl))
        · have h := some_of h
          subst h
          exact runs_of (C := cfg) (objs := []) (sc := [.br true, .br true, .br true, .br false, .br false, .br false, .br false]) (.k0 (an_ h1 (an_ h2 (an_ h3 (an_ h4 (an_ (rfl : false = false) (an_ (rfl : false = false) (an_ (rfl : false = false) trivial))))))) (by kernel_rfl))
      · have h := some_of h
        subst h
        exact runs_of (C := cfg) (objs := []) (sc := [.br true, .br true, .br false, .br false, .br false, .br false, .br false]) (.k0 (an_ h1 (an_ h2 (an_ h3 (an_ (rfl : false = false) (an_ (rfl : false = false) (an_ (rfl : false = false) (an_ (rfl : false = false) trivial))))))) (by kernel_rfl))
    · have h := some_of h
      subst h
      exact runs_of (C := cfg) (objs := []) (sc := [.br true, .br false, .br false, .br false, .br false, .br false, .br false]) (.k0 (an_ h1 (an_ h2 (an_ (rfl : false = false) (an_ (rfl : false = false) (an_ (rfl : false = false) (an_ (rfl : false = false) (an_ (rfl : false = false) trivial))))))) (by kernel_rfl))
  · have h := some_of h
    subst h
    exact runs_of (C := cfg) (objs := []) (sc := [.br false, .br false, .br false, .br false, .br false, .br false, .br false]) (.k0 (an_ h1 (an_ (rfl : false = false) (an_ (rfl : false = false) (an_ (rfl : false = false) (an_ (rfl : false = false) (an_ (rfl : false = false) (an_ (rfl : false = false) trivial))))))) (by kernel_rfl))

end Go.Proofs.Ytjjcmgdgifcmgaa
