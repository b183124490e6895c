/- What functions compute, and that they do. -/
import Derived.Test.YteiikkpajcggfaaDoorA2
set_option linter.unusedVariables false
set_option linter.unusedSimpArgs false
set_option maxRecDepth 100000
namespace Go.Proofs.YteiikkpajcggfaaDoor
open Go.Ev

/-! ### kinfolkref08_sign_L0 -/
def kinfolkref08_sign_L0_st (s : ByteArray) (at_ : Int) (n : Int) (least : Int) : Int × Int → St
  | (x, i) => ⟨[(0, (.av (.one (.pv (.str s))))), (1, (.av (.one (.pv (.int .i64 at_))))), (8, (.av (.one (.pv (.int .i64 n))))), (9, (.av (.one (.pv (.int .i64 least))))), (10, (.av (.one (.pv (.int .i64 x))))), (11, (.av (.one (.pv (.int .i64 i)))))], [], []⟩
def kinfolkref08_sign_L0_ex (s : ByteArray) (at_ : Int) (n : Int) (least : Int) : (Unit) ⊕ (Int) → Ex × St
  | .inl _ => (.ret, ⟨[(4, (.av (.one (.pv (.int .i64 0))))), (5, (.av (.one (.pv (.int .i64 1))))), (6, (.av (.one (.pv (.bool false)))))], [], []⟩)
  | .inr r1 => ((.exit 1), ⟨[(8, (.av (.one (.pv (.int .i64 n))))), (9, (.av (.one (.pv (.int .i64 least))))), (10, (.av (.one (.pv (.int .i64 r1)))))], [], []⟩)
noncomputable def kinfolkref08_sign_L0_step (s : ByteArray) (at_ : Int) (n : Int) (least : Int) : Int × Int → Option ((Int × Int) ⊕ ((Unit) ⊕ (Int)))
  | (x, i) =>
  bif (decide ((i : Int) < n)) then
    bif (decide (((s.size : Int) : Int) ≤ (iadd .i64 at_ i))) then
      some (.inr (.inl ()))
    else
      bif decide ((0 : Int) ≤ (iadd .i64 at_ i)) && decide (((iadd .i64 at_ i) : Int) < (s.size : Int)) then
      bif (decide ((((s.data.getD ((iadd .i64 at_ i)).toNat 0).toNat : Int) : Int) < 128)) then
        some (.inr (.inl ()))
      else
        bif (decide ((191 : Int) < ((s.data.getD ((iadd .i64 at_ i)).toNat 0).toNat : Int))) then
          some (.inr (.inl ()))
        else
          some (.inl ((isub .i64 (iadd .i64 (imul .i64 64 x) (IntKind.i64.wrap ((s.data.getD ((iadd .i64 at_ i)).toNat 0).toNat : Int))) 128), (iadd .i64 i 1)))
      else none
  else
    some (.inr (.inr x))
theorem kinfolkref08_sign_L0_ok (s : ByteArray) (at_ : Int) (n : Int) (least : Int) (s_ : Int × Int) (z_ : (Int × Int) ⊕ ((Unit) ⊕ (Int))) (h : kinfolkref08_sign_L0_step s at_ n least s_ = some z_) : RoundOk Tryd.prog cfg 50 0 (loopAt Tryd.prog 50 0) (kinfolkref08_sign_L0_st s at_ n least) (kinfolkref08_sign_L0_ex s at_ n least) s_ z_ := by
  rcases s_ with ⟨x, i⟩
  rcases cond_of h with ⟨h1, h⟩ | ⟨h1, h⟩
  · rcases cond_of h with ⟨h2, h⟩ | ⟨h2, h⟩
    · have h := some_of h
      subst h
      have t_ := tT h1 <| tT h2 <| tT (rfl : true = true) <| tT (rfl : true = true) <| tN
      exact ⟨t_.ev, (kinfolkref08_sign_L0_ex s at_ n least (.inl ())).2, .k0 t_.pf (by kernel_rfl), .same (by kernel_rfl)⟩
    · obtain ⟨h3, h⟩ := need_of h
      rcases cond_of h with ⟨h4, h⟩ | ⟨h4, h⟩
      · have h := some_of h
        subst h
        have t_ := tT h1 <| tF h2 <| tO h3 <| tT h4 <| tT (rfl : true = true) <| tN
        exact ⟨t_.ev, (kinfolkref08_sign_L0_ex s at_ n least (.inl ())).2, .k0 t_.pf (by kernel_rfl), .same (by kernel_rfl)⟩
      · rcases cond_of h with ⟨h5, h⟩ | ⟨h5, h⟩
        · have h := some_of h
          subst h
          have t_ := tT h1 <| tF h2 <| tO h3 <| tF h4 <| tO h3 <| tT h5 <| tN
          exact ⟨t_.ev, (kinfolkref08_sign_L0_ex s at_ n least (.inl ())).2, .k0 t_.pf (by kernel_rfl), .same (by kernel_rfl)⟩
        · have h := some_of h
          subst h
          have t_ := tT h1 <| tF h2 <| tO h3 <| tF h4 <| tO h3 <| tF h5 <| tO h3 <| tN
          exact ⟨t_.ev, kinfolkref08_sign_L0_st s at_ n least ((isub .i64 (iadd .i64 (imul .i64 64 x) (IntKind.i64.wrap ((s.data.getD ((iadd .i64 at_ i)).toNat 0).toNat : Int))) 128), (iadd .i64 i 1)), .k0 t_.pf (by kernel_rfl), .same (by kernel_rfl)⟩
  · have h := some_of h
    subst h
    have t_ := tF h1 <| tN
    exact ⟨t_.ev, ⟨[(49, (.av (.one (.pv (.bool false))))), (0, (.av (.one (.pv (.str s))))), (1, (.av (.one (.pv (.int .i64 at_))))), (8, (.av (.one (.pv (.int .i64 n))))), (9, (.av (.one (.pv (.int .i64 least))))), (10, (.av (.one (.pv (.int .i64 x))))), (11, (.av (.one (.pv (.int .i64 i))))), (49, (.av (.one (.pv (.bool (decide ((i : Int) < n)))))))], [], []⟩, .k0 t_.pf (by kernel_rfl), ⟨⟨⟨_, rfl, .eq rfl⟩, ⟨_, rfl, .eq rfl⟩, ⟨_, rfl, .eq rfl⟩, trivial⟩, trivial, trivial⟩⟩
theorem kinfolkref08_sign_L0_runs (s : ByteArray) (at_ : Int) (n : Int) (least : Int) (s_ : Int × Int) (r_ : (Unit) ⊕ (Int)) (h : runL (kinfolkref08_sign_L0_step s at_ n least) s_ = some r_) : LRuns Tryd.prog (lEnv Tryd.prog cfg 50 0).nt 0 (.loop (loopAt Tryd.prog 50 0)) (kinfolkref08_sign_L0_st s at_ n least s_) (kinfolkref08_sign_L0_ex s at_ n least r_).1 (kinfolkref08_sign_L0_ex s at_ n least r_).2 :=
  loop_run h (kinfolkref08_sign_L0_ok s at_ n least) (by intro r_; rcases r_ with _ | r1 <;> simp [kinfolkref08_sign_L0_ex])
/-! ### kinfolkref08_sign_L0_2 -/
def kinfolkref08_sign_L0_2_st (s : ByteArray) (at_ : Int) : Int × Int → St
  | (x, i) => ⟨[(0, (.av (.one (.pv (.str s))))), (1, (.av (.one (.pv (.int .i64 at_))))), (8, (.av (.one (.pv (.int .i64 4))))), (9, (.av (.one (.pv (.int .i64 65536))))), (10, (.av (.one (.pv (.int .i64 x))))), (11, (.av (.one (.pv (.int .i64 i)))))], [], []⟩
def kinfolkref08_sign_L0_2_ex (s : ByteArray) (at_ : Int) : (Unit) ⊕ (Int) → Ex × St
  | .inl _ => (.ret, ⟨[(4, (.av (.one (.pv (.int .i64 0))))), (5, (.av (.one (.pv (.int .i64 1))))), (6, (.av (.one (.pv (.bool false)))))], [], []⟩)
  | .inr r1 => ((.exit 1), ⟨[(8, (.av (.one (.pv (.int .i64 4))))), (9, (.av (.one (.pv (.int .i64 65536))))), (10, (.av (.one (.pv (.int .i64 r1)))))], [], []⟩)
noncomputable def kinfolkref08_sign_L0_2_step (s : ByteArray) (at_ : Int) : Int × Int → Option ((Int × Int) ⊕ ((Unit) ⊕ (Int)))
  | (x, i) =>
  bif (decide ((i : Int) < 4)) then
    bif (decide (((s.size : Int) : Int) ≤ (iadd .i64 at_ i))) then
      some (.inr (.inl ()))
    else
      bif decide ((0 : Int) ≤ (iadd .i64 at_ i)) && decide (((iadd .i64 at_ i) : Int) < (s.size : Int)) then
      bif (decide ((((s.data.getD ((iadd .i64 at_ i)).toNat 0).toNat : Int) : Int) < 128)) then
        some (.inr (.inl ()))
      else
        bif (decide ((191 : Int) < ((s.data.getD ((iadd .i64 at_ i)).toNat 0).toNat : Int))) then
          some (.inr (.inl ()))
        else
          some (.inl ((isub .i64 (iadd .i64 (imul .i64 64 x) (IntKind.i64.wrap ((s.data.getD ((iadd .i64 at_ i)).toNat 0).toNat : Int))) 128), (iadd .i64 i 1)))
      else none
  else
    some (.inr (.inr x))
theorem kinfolkref08_sign_L0_2_ok (s : ByteArray) (at_ : Int) (s_ : Int × Int) (z_ : (Int × Int) ⊕ ((Unit) ⊕ (Int))) (h : kinfolkref08_sign_L0_2_step s at_ s_ = some z_) : RoundOk Tryd.prog cfg 50 0 (loopAt Tryd.prog 50 0) (kinfolkref08_sign_L0_2_st s at_) (kinfolkref08_sign_L0_2_ex s at_) s_ z_ := by
  rcases s_ with ⟨x, i⟩
  rcases cond_of h with ⟨h1, h⟩ | ⟨h1, h⟩
  · rcases cond_of h with ⟨h2, h⟩ | ⟨h2, h⟩
    · have h := some_of h
      subst h
      have t_ := tT h1 <| tT h2 <| tT (rfl : true = true) <| tT (rfl : true = true) <| tN
      exact ⟨t_.ev, (kinfolkref08_sign_L0_2_ex s at_ (.inl ())).2, .k0 t_.pf (by kernel_rfl), .same (by kernel_rfl)⟩
    · obtain ⟨h3, h⟩ := need_of h
      rcases cond_of h with ⟨h4, h⟩ | ⟨h4, h⟩
      · have h := some_of h
        subst h
        have t_ := tT h1 <| tF h2 <| tO h3 <| tT h4 <| tT (rfl : true = true) <| tN
        exact ⟨t_.ev, (kinfolkref08_sign_L0_2_ex s at_ (.inl ())).2, .k0 t_.pf (by kernel_rfl), .same (by kernel_rfl)⟩
      · rcases cond_of h with ⟨h5, h⟩ | ⟨h5, h⟩
        · have h := some_of h
          subst h
          have t_ := tT h1 <| tF h2 <| tO h3 <| tF h4 <| tO h3 <| tT h5 <| tN
          exact ⟨t_.ev, (kinfolkref08_sign_L0_2_ex s at_ (.inl ())).2, .k0 t_.pf (by kernel_rfl), .same (by kernel_rfl)⟩
        · have h := some_of h
          subst h
          have t_ := tT h1 <| tF h2 <| tO h3 <| tF h4 <| tO h3 <| tF h5 <| tO h3 <| tN
          exact ⟨t_.ev, kinfolkref08_sign_L0_2_st s at_ ((isub .i64 (iadd .i64 (imul .i64 64 x) (IntKind.i64.wrap ((s.data.getD ((iadd .i64 at_ i)).toNat 0).toNat : Int))) 128), (iadd .i64 i 1)), .k0 t_.pf (by kernel_rfl), .same (by kernel_rfl)⟩
  · have h := some_of h
    subst h
    have t_ := tF h1 <| tN
    exact ⟨t_.ev, ⟨[(49, (.av (.one (.pv (.bool false))))), (0, (.av (.one (.pv (.str s))))), (1, (.av (.one (.pv (.int .i64 at_))))), (8, (.av (.one (.pv (.int .i64 4))))), (9, (.av (.one (.pv (.int .i64 65536))))), (10, (.av (.one (.pv (.int .i64 x))))), (11, (.av (.one (.pv (.int .i64 i))))), (49, (.av (.one (.pv (.bool (decide ((i : Int) < 4)))))))], [], []⟩, .k0 t_.pf (by kernel_rfl), ⟨⟨⟨_, rfl, .eq rfl⟩, ⟨_, rfl, .eq rfl⟩, ⟨_, rfl, .eq rfl⟩, trivial⟩, trivial, trivial⟩⟩
theorem kinfolkref08_sign_L0_2_runs (s : ByteArray) (at_ : Int) (s_ : Int × Int) (r_ : (Unit) ⊕ (Int)) (h : runL (kinfolkref08_sign_L0_2_step s at_) s_ = some r_) : LRuns Tryd.prog (lEnv Tryd.prog cfg 50 0).nt 0 (.loop (loopAt Tryd.prog 50 0)) (kinfolkref08_sign_L0_2_st s at_ s_) (kinfolkref08_sign_L0_2_ex s at_ r_).1 (kinfolkref08_sign_L0_2_ex s at_ r_).2 :=
  loop_run h (kinfolkref08_sign_L0_2_ok s at_) (by intro r_; rcases r_ with _ | r1 <;> simp [kinfolkref08_sign_L0_2_ex])
/-! ### kinfolkref08_sign_2 -/
noncomputable def kinfolkref08_sign_2 (s : ByteArray) (at_ : Int) : Option (Int × Int × Bool) :=
  bif decide ((0 : Int) ≤ at_) && decide ((at_ : Int) < (s.size : Int)) then
  bif (decide (((IntKind.i64.wrap ((s.data.getD (at_).toNat 0).toNat : Int)) : Int) < 128)) then
    some ((IntKind.i64.wrap ((s.data.getD (at_).toNat 0).toNat : Int)), 1, true)
  else
    bif (decide ((192 : Int) ≤ (IntKind.i64.wrap ((s.data.getD (at_).toNat 0).toNat : Int)))) then
      (kinfolkref08_sign_C20 s at_ (IntKind.i64.wrap ((s.data.getD (at_).toNat 0).toNat : Int)) (decide (((IntKind.i64.wrap ((s.data.getD (at_).toNat 0).toNat : Int)) : Int) < 224))).bind fun z_ => match z_ with
      | .inl (n, n2, n3) =>
        (runL (kinfolkref08_sign_L0_step s at_ n n2) (n3, 1)).bind fun z_ => match z_ with
        | .inl _ =>
          some (0, 1, false)
        | .inr n4 =>
          bif (decide ((n4 : Int) < n2)) then
            some (0, 1, false)
          else
            bif (decide ((1114111 : Int) < n4)) then
              some (0, 1, false)
            else
              bif (decide ((55296 : Int) ≤ n4)) then
                bif (decide ((n4 : Int) < 57344)) then
                  some (0, 1, false)
                else
                  some (n4, n, true)
              else
                some (n4, n, true)
      | .inr _ =>
        some (0, 1, false)
    else
      bif (decide ((224 : Int) ≤ (IntKind.i64.wrap ((s.data.getD (at_).toNat 0).toNat : Int)))) then
        (kinfolkref08_sign_C29 s at_ (IntKind.i64.wrap ((s.data.getD (at_).toNat 0).toNat : Int)) (decide (((IntKind.i64.wrap ((s.data.getD (at_).toNat 0).toNat : Int)) : Int) < 240))).bind fun z_ => match z_ with
        | .inl (n, n2, n3) =>
          (runL (kinfolkref08_sign_L0_step s at_ n n2) (n3, 1)).bind fun z_ => match z_ with
          | .inl _ =>
            some (0, 1, false)
          | .inr n4 =>
            bif (decide ((n4 : Int) < n2)) then
              some (0, 1, false)
            else
              bif (decide ((1114111 : Int) < n4)) then
                some (0, 1, false)
              else
                bif (decide ((55296 : Int) ≤ n4)) then
                  bif (decide ((n4 : Int) < 57344)) then
                    some (0, 1, false)
                  else
                    some (n4, n, true)
                else
                  some (n4, n, true)
        | .inr _ =>
          some (0, 1, false)
      else
        bif (decide ((240 : Int) ≤ (IntKind.i64.wrap ((s.data.getD (at_).toNat 0).toNat : Int)))) then
          bif (decide (((IntKind.i64.wrap ((s.data.getD (at_).toNat 0).toNat : Int)) : Int) < 248)) then
            (runL (kinfolkref08_sign_L0_2_step s at_) ((isub .i64 (IntKind.i64.wrap ((s.data.getD (at_).toNat 0).toNat : Int)) 240), 1)).bind fun z_ => match z_ with
            | .inl _ =>
              some (0, 1, false)
            | .inr n =>
              bif (decide ((n : Int) < 65536)) then
                some (0, 1, false)
              else
                bif (decide ((1114111 : Int) < n)) then
                  some (0, 1, false)
                else
                  bif (decide ((55296 : Int) ≤ n)) then
                    bif (decide ((n : Int) < 57344)) then
                      some (0, 1, false)
                    else
                      some (n, 4, true)
                  else
                    some (n, 4, true)
          else
            some (0, 1, false)
        else
          some (0, 1, false)
  else none
theorem kinfolkref08_sign_2_runs (s : ByteArray) (at_ : Int) (r_ : Int × Int × Bool) (h : kinfolkref08_sign_2 s at_ = some r_) : Runs Tryd.prog 50 [(.one (.pv (.str s))), (.one (.pv (.int .i64 at_)))] [] [] (kinfolkref08_sign_2_out s at_ r_) := by
  unfold kinfolkref08_sign_2 at h
  obtain ⟨h1, h⟩ := need_of h
  rcases cond_of h with ⟨h2, h⟩ | ⟨h2, h⟩
  · have h := some_of h
    subst h
    have t_ := tO h1 <| tT h2 <| tN
    exact runs_of (C := cfg) (objs := []) (sc := t_.ev) (.k0 t_.pf (by kernel_rfl))
  · rcases cond_of h with ⟨h3, h⟩ | ⟨h3, h⟩
    · obtain ⟨z_, h4, h⟩ := bind_of h
      rcases z_ with ⟨n, n2, n3⟩ | _
      · have q_4 := (kinfolkref08_sign_C20_runs s at_ (IntKind.i64.wrap ((s.data.getD (at_).toNat 0).toNat : Int)) (decide (((IntKind.i64.wrap ((s.data.getD (at_).toNat 0).toNat : Int)) : Int) < 224)) _ h4)
        obtain ⟨z_, h5, h⟩ := bind_of h
        rcases z_ with _ | n4
        · have h := some_of h
          subst h
          have t_ := tO h1 <| tF h2 <| tT h3 <| tL q_4 <| tL (kinfolkref08_sign_L0_runs s at_ n n2 _ _ h5) <| tN
          exact runs_of (C := cfg) (objs := []) (sc := t_.ev) (.k0 t_.pf (by kernel_rfl))
        · rcases cond_of h with ⟨h6, h⟩ | ⟨h6, h⟩
          · have h := some_of h
            subst h
            have t_ := tO h1 <| tF h2 <| tT h3 <| tL q_4 <| tL (kinfolkref08_sign_L0_runs s at_ n n2 _ _ h5) <| tT h6 <| tT (rfl : true = true) <| tT (rfl : true = true) <| tN
            exact runs_of (C := cfg) (objs := []) (sc := t_.ev) (.k0 t_.pf (by kernel_rfl))
          · rcases cond_of h with ⟨h7, h⟩ | ⟨h7, h⟩
            · have h := some_of h
              subst h
              have t_ := tO h1 <| tF h2 <| tT h3 <| tL q_4 <| tL (kinfolkref08_sign_L0_runs s at_ n n2 _ _ h5) <| tF h6 <| tT h7 <| tT (rfl : true = true) <| tN
              exact runs_of (C := cfg) (objs := []) (sc := t_.ev) (.k0 t_.pf (by kernel_rfl))
            · rcases cond_of h with ⟨h8, h⟩ | ⟨h8, h⟩
              · rcases cond_of h with ⟨h9, h⟩ | ⟨h9, h⟩
                · have h := some_of h
                  subst h
                  have t_ := tO h1 <| tF h2 <| tT h3 <| tL q_4 <| tL (kinfolkref08_sign_L0_runs s at_ n n2 _ _ h5) <| tF h6 <| tF h7 <| tT h8 <| tT h9 <| tN
                  exact runs_of (C := cfg) (objs := []) (sc := t_.ev) (.k0 t_.pf (by kernel_rfl))
                · have h := some_of h
                  subst h
                  have t_ := tO h1 <| tF h2 <| tT h3 <| tL q_4 <| tL (kinfolkref08_sign_L0_runs s at_ n n2 _ _ h5) <| tF h6 <| tF h7 <| tT h8 <| tF h9 <| tN
                  exact runs_of (C := cfg) (objs := []) (sc := t_.ev) (.k0 t_.pf (by kernel_rfl))
              · have h := some_of h
                subst h
                have t_ := tO h1 <| tF h2 <| tT h3 <| tL q_4 <| tL (kinfolkref08_sign_L0_runs s at_ n n2 _ _ h5) <| tF h6 <| tF h7 <| tF h8 <| tF (rfl : false = false) <| tN
                exact runs_of (C := cfg) (objs := []) (sc := t_.ev) (.k0 t_.pf (by kernel_rfl))
      · have h := some_of h
        subst h
        have t_ := tO h1 <| tF h2 <| tT h3 <| tL (kinfolkref08_sign_C20_runs s at_ (IntKind.i64.wrap ((s.data.getD (at_).toNat 0).toNat : Int)) (decide (((IntKind.i64.wrap ((s.data.getD (at_).toNat 0).toNat : Int)) : Int) < 224)) _ h4) <| tN
        exact runs_of (C := cfg) (objs := []) (sc := t_.ev) (.k0 t_.pf (by kernel_rfl))
    · rcases cond_of h with ⟨h4, h⟩ | ⟨h4, h⟩
      · obtain ⟨z_, h5, h⟩ := bind_of h
        rcases z_ with ⟨n, n2, n3⟩ | _
        · have q_5 := (kinfolkref08_sign_C29_runs s at_ (IntKind.i64.wrap ((s.data.getD (at_).toNat 0).toNat : Int)) (decide (((IntKind.i64.wrap ((s.data.getD (at_).toNat 0).toNat : Int)) : Int) < 240)) _ h5)
          obtain ⟨z_, h6, h⟩ := bind_of h
          rcases z_ with _ | n4
          · have h := some_of h
            subst h
            have t_ := tO h1 <| tF h2 <| tF h3 <| tF (rfl : false = false) <| tT h4 <| tL q_5 <| tL (kinfolkref08_sign_L0_runs s at_ n n2 _ _ h6) <| tN
            exact runs_of (C := cfg) (objs := []) (sc := t_.ev) (.k0 t_.pf (by kernel_rfl))
          · rcases cond_of h with ⟨h7, h⟩ | ⟨h7, h⟩
            · have h := some_of h
              subst h
              have t_ := tO h1 <| tF h2 <| tF h3 <| tF (rfl : false = false) <| tT h4 <| tL q_5 <| tL (kinfolkref08_sign_L0_runs s at_ n n2 _ _ h6) <| tT h7 <| tT (rfl : true = true) <| tT (rfl : true = true) <| tN
              exact runs_of (C := cfg) (objs := []) (sc := t_.ev) (.k0 t_.pf (by kernel_rfl))
            · rcases cond_of h with ⟨h8, h⟩ | ⟨h8, h⟩
              · have h := some_of h
                subst h
                have t_ := tO h1 <| tF h2 <| tF h3 <| tF (rfl : false = false) <| tT h4 <| tL q_5 <| tL (kinfolkref08_sign_L0_runs s at_ n n2 _ _ h6) <| tF h7 <| tT h8 <| tT (rfl : true = true) <| tN
                exact runs_of (C := cfg) (objs := []) (sc := t_.ev) (.k0 t_.pf (by kernel_rfl))
              · rcases cond_of h with ⟨h9, h⟩ | ⟨h9, h⟩
                · rcases cond_of h with ⟨h10, h⟩ | ⟨h10, h⟩
                  · have h := some_of h
                    subst h
                    have t_ := tO h1 <| tF h2 <| tF h3 <| tF (rfl : false = false) <| tT h4 <| tL q_5 <| tL (kinfolkref08_sign_L0_runs s at_ n n2 _ _ h6) <| tF h7 <| tF h8 <| tT h9 <| tT h10 <| tN
                    exact runs_of (C := cfg) (objs := []) (sc := t_.ev) (.k0 t_.pf (by kernel_rfl))
                  · have h := some_of h
                    subst h
                    have t_ := tO h1 <| tF h2 <| tF h3 <| tF (rfl : false = false) <| tT h4 <| tL q_5 <| tL (kinfolkref08_sign_L0_runs s at_ n n2 _ _ h6) <| tF h7 <| tF h8 <| tT h9 <| tF h10 <| tN
                    exact runs_of (C := cfg) (objs := []) (sc := t_.ev) (.k0 t_.pf (by kernel_rfl))
                · have h := some_of h
                  subst h
                  have t_ := tO h1 <| tF h2 <| tF h3 <| tF (rfl : false = false) <| tT h4 <| tL q_5 <| tL (kinfolkref08_sign_L0_runs s at_ n n2 _ _ h6) <| tF h7 <| tF h8 <| tF h9 <| tF (rfl : false = false) <| tN
                  exact runs_of (C := cfg) (objs := []) (sc := t_.ev) (.k0 t_.pf (by kernel_rfl))
        · have h := some_of h
          subst h
          have t_ := tO h1 <| tF h2 <| tF h3 <| tF (rfl : false = false) <| tT h4 <| tL (kinfolkref08_sign_C29_runs s at_ (IntKind.i64.wrap ((s.data.getD (at_).toNat 0).toNat : Int)) (decide (((IntKind.i64.wrap ((s.data.getD (at_).toNat 0).toNat : Int)) : Int) < 240)) _ h5) <| tN
          exact runs_of (C := cfg) (objs := []) (sc := t_.ev) (.k0 t_.pf (by kernel_rfl))
      · rcases cond_of h with ⟨h5, h⟩ | ⟨h5, h⟩
        · rcases cond_of h with ⟨h6, h⟩ | ⟨h6, h⟩
          · obtain ⟨z_, h7, h⟩ := bind_of h
            rcases z_ with _ | n
            · have h := some_of h
              subst h
              have t_ := tO h1 <| tF h2 <| tF h3 <| tF (rfl : false = false) <| tF h4 <| tF (rfl : false = false) <| tT h5 <| tT h6 <| tL (kinfolkref08_sign_L0_2_runs s at_ _ _ h7) <| tN
              exact runs_of (C := cfg) (objs := []) (sc := t_.ev) (.k0 t_.pf (by kernel_rfl))
            · rcases cond_of h with ⟨h8, h⟩ | ⟨h8, h⟩
              · have h := some_of h
                subst h
                have t_ := tO h1 <| tF h2 <| tF h3 <| tF (rfl : false = false) <| tF h4 <| tF (rfl : false = false) <| tT h5 <| tT h6 <| tL (kinfolkref08_sign_L0_2_runs s at_ _ _ h7) <| tT h8 <| tT (rfl : true = true) <| tT (rfl : true = true) <| tN
                exact runs_of (C := cfg) (objs := []) (sc := t_.ev) (.k0 t_.pf (by kernel_rfl))
              · rcases cond_of h with ⟨h9, h⟩ | ⟨h9, h⟩
                · have h := some_of h
                  subst h
                  have t_ := tO h1 <| tF h2 <| tF h3 <| tF (rfl : false = false) <| tF h4 <| tF (rfl : false = false) <| tT h5 <| tT h6 <| tL (kinfolkref08_sign_L0_2_runs s at_ _ _ h7) <| tF h8 <| tT h9 <| tT (rfl : true = true) <| tN
                  exact runs_of (C := cfg) (objs := []) (sc := t_.ev) (.k0 t_.pf (by kernel_rfl))
                · rcases cond_of h with ⟨h10, h⟩ | ⟨h10, h⟩
                  · rcases cond_of h with ⟨h11, h⟩ | ⟨h11, h⟩
                    · have h := some_of h
                      subst h
                      have t_ := tO h1 <| tF h2 <| tF h3 <| tF (rfl : false = false) <| tF h4 <| tF (rfl : false = false) <| tT h5 <| tT h6 <| tL (kinfolkref08_sign_L0_2_runs s at_ _ _ h7) <| tF h8 <| tF h9 <| tT h10 <| tT h11 <| tN
                      exact runs_of (C := cfg) (objs := []) (sc := t_.ev) (.k0 t_.pf (by kernel_rfl))
                    · have h := some_of h
                      subst h
                      have t_ := tO h1 <| tF h2 <| tF h3 <| tF (rfl : false = false) <| tF h4 <| tF (rfl : false = false) <| tT h5 <| tT h6 <| tL (kinfolkref08_sign_L0_2_runs s at_ _ _ h7) <| tF h8 <| tF h9 <| tT h10 <| tF h11 <| tN
                      exact runs_of (C := cfg) (objs := []) (sc := t_.ev) (.k0 t_.pf (by kernel_rfl))
                  · have h := some_of h
                    subst h
                    have t_ := tO h1 <| tF h2 <| tF h3 <| tF (rfl : false = false) <| tF h4 <| tF (rfl : false = false) <| tT h5 <| tT h6 <| tL (kinfolkref08_sign_L0_2_runs s at_ _ _ h7) <| tF h8 <| tF h9 <| tF h10 <| tF (rfl : false = false) <| tN
                    exact runs_of (C := cfg) (objs := []) (sc := t_.ev) (.k0 t_.pf (by kernel_rfl))
          · have h := some_of h
            subst h
            have t_ := tO h1 <| tF h2 <| tF h3 <| tF (rfl : false = false) <| tF h4 <| tF (rfl : false = false) <| tT h5 <| tF h6 <| tN
            exact runs_of (C := cfg) (objs := []) (sc := t_.ev) (.k0 t_.pf (by kernel_rfl))
        · have h := some_of h
          subst h
          have t_ := tO h1 <| tF h2 <| tF h3 <| tF (rfl : false = false) <| tF h4 <| tF (rfl : false = false) <| tF h5 <| tF (rfl : false = false) <| tN
          exact runs_of (C := cfg) (objs := []) (sc := t_.ev) (.k0 t_.pf (by kernel_rfl))
/-! ### kinfolkref08_Check_L0 -/
def kinfolkref08_Check_L0_st (s : ByteArray) : Int → St
  | at_ => ⟨[(0, (.av (.one (.pv (.str s))))), (5, (.av (.one (.pv (.int .i64 at_)))))], [], []⟩
def kinfolkref08_Check_L0_ex (s : ByteArray) : (Unit) ⊕ (Unit) → Ex × St
  | .inl _ => (.ret, ⟨[(4, (.av (.one (.pv (.int .i64 7)))))], [], []⟩)
  | .inr _ => ((.exit 0), ⟨[], [], []⟩)
noncomputable def kinfolkref08_Check_L0_step (s : ByteArray) : Int → Option ((Int) ⊕ ((Unit) ⊕ (Unit)))
  | at_ =>
  bif (decide ((at_ : Int) < (s.size : Int))) then
    (kinfolkref08_sign_2 s at_).bind fun (n, n2, b) =>
    bif b then
      bif (decide ((n : Int) < 32)) then
        some (.inr (.inl ()))
      else
        bif (decide ((n : Int) = 127)) then
          some (.inr (.inl ()))
        else
          some (.inl (iadd .i64 at_ n2))
    else
      some (.inr (.inl ()))
  else
    some (.inr (.inr ()))
theorem kinfolkref08_Check_L0_ok (s : ByteArray) (at_ : Int) (z_ : (Int) ⊕ ((Unit) ⊕ (Unit))) (h : kinfolkref08_Check_L0_step s at_ = some z_) : RoundOk Tryd.prog cfg 31 0 (loopAt Tryd.prog 31 0) (kinfolkref08_Check_L0_st s) (kinfolkref08_Check_L0_ex s) at_ z_ := by
  rcases cond_of h with ⟨h1, h⟩ | ⟨h1, h⟩
  · obtain ⟨⟨n, n2, b⟩, h2, h⟩ := bind_of h
    rcases cond_of h with ⟨h3, h⟩ | ⟨h3, h⟩
    · rcases cond_of h with ⟨h4, h⟩ | ⟨h4, h⟩
      · have h := some_of h
        subst h
        have t_ := tT h1 <| tR (kinfolkref08_sign_2_runs s at_ _ h2) <| tF (not_of2 h3) <| tT h4 <| tT (rfl : true = true) <| tN
        exact ⟨t_.ev, (kinfolkref08_Check_L0_ex s (.inl ())).2, .k0 t_.pf (by kernel_rfl), .same (by kernel_rfl)⟩
      · rcases cond_of h with ⟨h5, h⟩ | ⟨h5, h⟩
        · have h := some_of h
          subst h
          have t_ := tT h1 <| tR (kinfolkref08_sign_2_runs s at_ _ h2) <| tF (not_of2 h3) <| tF h4 <| tT h5 <| tN
          exact ⟨t_.ev, (kinfolkref08_Check_L0_ex s (.inl ())).2, .k0 t_.pf (by kernel_rfl), .same (by kernel_rfl)⟩
        · have h := some_of h
          subst h
          have t_ := tT h1 <| tR (kinfolkref08_sign_2_runs s at_ _ h2) <| tF (not_of2 h3) <| tF h4 <| tF h5 <| tN
          exact ⟨t_.ev, kinfolkref08_Check_L0_st s (iadd .i64 at_ n2), .k0 t_.pf (by kernel_rfl), .same (by kernel_rfl)⟩
    · have h := some_of h
      subst h
      have t_ := tT h1 <| tR (kinfolkref08_sign_2_runs s at_ _ h2) <| tT (not_of h3) <| tT (rfl : true = true) <| tT (rfl : true = true) <| tN
      exact ⟨t_.ev, (kinfolkref08_Check_L0_ex s (.inl ())).2, .k0 t_.pf (by kernel_rfl), .same (by kernel_rfl)⟩
  · have h := some_of h
    subst h
    have t_ := tF h1 <| tN
    exact ⟨t_.ev, ⟨[(16, (.av (.one (.pv (.bool false))))), (0, (.av (.one (.pv (.str s))))), (5, (.av (.one (.pv (.int .i64 at_))))), (16, (.av (.one (.pv (.bool (decide ((at_ : Int) < (s.size : Int))))))))], [], []⟩, .k0 t_.pf (by kernel_rfl), ⟨trivial, trivial, trivial⟩⟩
theorem kinfolkref08_Check_L0_runs (s : ByteArray) (s_ : Int) (r_ : (Unit) ⊕ (Unit)) (h : runL (kinfolkref08_Check_L0_step s) s_ = some r_) : LRuns Tryd.prog (lEnv Tryd.prog cfg 31 0).nt 0 (.loop (loopAt Tryd.prog 31 0)) (kinfolkref08_Check_L0_st s s_) (kinfolkref08_Check_L0_ex s r_).1 (kinfolkref08_Check_L0_ex s r_).2 :=
  loop_run h (kinfolkref08_Check_L0_ok s) (by intro r_; rcases r_ with _ | _ <;> simp [kinfolkref08_Check_L0_ex])
/-! ### kinfolkref08_Check -/
noncomputable def kinfolkref08_Check (s : ByteArray) (most : Int) : Option (Int) :=
  bif (decide ((most : Int) < (s.size : Int))) then
    some 9
  else
    (runL (kinfolkref08_Check_L0_step s) 0).bind fun z_ => match z_ with
    | .inl _ =>
      some 7
    | .inr _ =>
      some 0
theorem kinfolkref08_Check_runs (s : ByteArray) (most : Int) (r_ : Int) (h : kinfolkref08_Check s most = some r_) : Runs Tryd.prog 31 [(.one (.pv (.str s))), (.one (.pv (.int .i64 most)))] [] [] (kinfolkref08_Check_out s most r_) := by
  unfold kinfolkref08_Check at h
  rcases cond_of h with ⟨h1, h⟩ | ⟨h1, h⟩
  · have h := some_of h
    subst h
    have t_ := tT h1 <| tN
    exact runs_of (C := cfg) (objs := []) (sc := t_.ev) (.k0 t_.pf (by kernel_rfl))
  · obtain ⟨z_, h2, h⟩ := bind_of h
    rcases z_ with _ | _
    · have h := some_of h
      subst h
      have t_ := tF h1 <| tL (kinfolkref08_Check_L0_runs s _ _ h2) <| tN
      exact runs_of (C := cfg) (objs := []) (sc := t_.ev) (.k0 t_.pf (by kernel_rfl))
    · have h := some_of h
      subst h
      have t_ := tF h1 <| tL (kinfolkref08_Check_L0_runs s _ _ h2) <| tN
      exact runs_of (C := cfg) (objs := []) (sc := t_.ev) (.k0 t_.pf (by kernel_rfl))
/-! ### kinfolkref08_Fold_out -/
def kinfolkref08_Fold_out (s : ByteArray) : ByteArray → Res
  | r1 => ([(.one (.pv (.str r1)))], [], [])
/-! ### kinfolkref08_Fold_L0 -/
def kinfolkref08_Fold_L0_st : ByteArray → St
  | s => ⟨[(0, (.av (.one (.pv (.str s)))))], [], []⟩
def kinfolkref08_Fold_L0_ex : ByteArray → Ex × St
  | r1 => ((.exit 0), ⟨[(0, (.av (.one (.pv (.str r1)))))], [], []⟩)
noncomputable def kinfolkref08_Fold_L0_step : ByteArray → Option ((ByteArray) ⊕ (ByteArray))
  | s =>
  bif (decide ((0 : Int) < (s.size : Int))) then
    bif decide ((0 : Int) ≤ 0) && decide ((0 : Int) < (s.size : Int)) then
    bif (decide ((((s.data.getD 0 0).toNat : Int) : Int) = 32)) then
      bif decide ((0 : Int) ≤ 1) && decide ((1 : Int) ≤ (s.size : Int)) && decide (((s.size : Int) : Int) ≤ (s.size : Int)) then
      some (.inl (s.extract 1 ((s.size : Int)).toNat))
      else none
    else
      some (.inr s)
    else none
  else
    some (.inr s)
theorem kinfolkref08_Fold_L0_ok (s : ByteArray) (z_ : (ByteArray) ⊕ (ByteArray)) (h : kinfolkref08_Fold_L0_step s = some z_) : RoundOk Tryd.prog cfg 32 0 (loopAt Tryd.prog 32 0) (kinfolkref08_Fold_L0_st) (kinfolkref08_Fold_L0_ex) s z_ := by
  rcases cond_of h with ⟨h1, h⟩ | ⟨h1, h⟩
  · obtain ⟨h2, h⟩ := need_of h
    rcases cond_of h with ⟨h3, h⟩ | ⟨h3, h⟩
    · obtain ⟨h4, h⟩ := need_of h
      have h := some_of h
      subst h
      have t_ := tT h1 <| tO h2 <| tT h3 <| tO h4 <| tN
      exact ⟨t_.ev, kinfolkref08_Fold_L0_st (s.extract 1 ((s.size : Int)).toNat), .k0 t_.pf (by kernel_rfl), .same (by kernel_rfl)⟩
    · have h := some_of h
      subst h
      have t_ := tT h1 <| tO h2 <| tF h3 <| tN
      exact ⟨t_.ev, ⟨[(11, (.av (.one (.pv (.bool false))))), (0, (.av (.one (.pv (.str s))))), (11, (.av (.one (.pv (.bool (decide ((((s.data.getD 0 0).toNat : Int) : Int) = 32)))))))], [], []⟩, .k0 t_.pf (by kernel_rfl), ⟨⟨⟨_, rfl, .eq rfl⟩, trivial⟩, trivial, trivial⟩⟩
  · have h := some_of h
    subst h
    have t_ := tF h1 <| tF (rfl : false = false) <| tN
    exact ⟨t_.ev, ⟨[(11, (.av (.one (.pv (.bool false))))), (0, (.av (.one (.pv (.str s))))), (11, (.av (.one (.pv (.bool false)))))], [], []⟩, .k0 t_.pf (by kernel_rfl), ⟨⟨⟨_, rfl, .eq rfl⟩, trivial⟩, trivial, trivial⟩⟩
theorem kinfolkref08_Fold_L0_runs (s_ : ByteArray) (r_ : ByteArray) (h : runL (kinfolkref08_Fold_L0_step) s_ = some r_) : LRuns Tryd.prog (lEnv Tryd.prog cfg 32 0).nt 0 (.loop (loopAt Tryd.prog 32 0)) (kinfolkref08_Fold_L0_st s_) (kinfolkref08_Fold_L0_ex r_).1 (kinfolkref08_Fold_L0_ex r_).2 :=
  loop_run h (kinfolkref08_Fold_L0_ok) (by intro r_; rcases r_ with r1 <;> simp [kinfolkref08_Fold_L0_ex])
/-! ### kinfolkref08_Fold_L1 -/
def kinfolkref08_Fold_L1_st : ByteArray → St
  | s => ⟨[(0, (.av (.one (.pv (.str s)))))], [], []⟩
def kinfolkref08_Fold_L1_ex : ByteArray → Ex × St
  | r1 => ((.exit 2), ⟨[(0, (.av (.one (.pv (.str r1)))))], [], []⟩)
noncomputable def kinfolkref08_Fold_L1_step : ByteArray → Option ((ByteArray) ⊕ (ByteArray))
  | s =>
  bif (decide ((0 : Int) < (s.size : Int))) then
    bif decide ((0 : Int) ≤ (isub .i64 (s.size : Int) 1)) && decide (((isub .i64 (s.size : Int) 1) : Int) < (s.size : Int)) then
    bif (decide ((((s.data.getD ((isub .i64 (s.size : Int) 1)).toNat 0).toNat : Int) : Int) = 32)) then
      bif decide ((0 : Int) ≤ 0) && decide ((0 : Int) ≤ (isub .i64 (s.size : Int) 1)) && decide (((isub .i64 (s.size : Int) 1) : Int) ≤ (s.size : Int)) then
      some (.inl (s.extract 0 ((isub .i64 (s.size : Int) 1)).toNat))
      else none
    else
      some (.inr s)
    else none
  else
    some (.inr s)
theorem kinfolkref08_Fold_L1_ok (s : ByteArray) (z_ : (ByteArray) ⊕ (ByteArray)) (h : kinfolkref08_Fold_L1_step s = some z_) : RoundOk Tryd.prog cfg 32 0 (loopAt Tryd.prog 32 1) (kinfolkref08_Fold_L1_st) (kinfolkref08_Fold_L1_ex) s z_ := by
  rcases cond_of h with ⟨h1, h⟩ | ⟨h1, h⟩
  · obtain ⟨h2, h⟩ := need_of h
    rcases cond_of h with ⟨h3, h⟩ | ⟨h3, h⟩
    · obtain ⟨h4, h⟩ := need_of h
      have h := some_of h
      subst h
      have t_ := tT h1 <| tO h2 <| tT h3 <| tO h4 <| tN
      exact ⟨t_.ev, kinfolkref08_Fold_L1_st (s.extract 0 ((isub .i64 (s.size : Int) 1)).toNat), .k0 t_.pf (by kernel_rfl), .same (by kernel_rfl)⟩
    · have h := some_of h
      subst h
      have t_ := tT h1 <| tO h2 <| tF h3 <| tN
      exact ⟨t_.ev, ⟨[(24, (.av (.one (.pv (.bool false))))), (0, (.av (.one (.pv (.str s))))), (24, (.av (.one (.pv (.bool (decide ((((s.data.getD ((isub .i64 (s.size : Int) 1)).toNat 0).toNat : Int) : Int) = 32)))))))], [], []⟩, .k0 t_.pf (by kernel_rfl), ⟨⟨⟨_, rfl, .eq rfl⟩, trivial⟩, trivial, trivial⟩⟩
  · have h := some_of h
    subst h
    have t_ := tF h1 <| tF (rfl : false = false) <| tN
    exact ⟨t_.ev, ⟨[(24, (.av (.one (.pv (.bool false))))), (0, (.av (.one (.pv (.str s))))), (24, (.av (.one (.pv (.bool false)))))], [], []⟩, .k0 t_.pf (by kernel_rfl), ⟨⟨⟨_, rfl, .eq rfl⟩, trivial⟩, trivial, trivial⟩⟩
theorem kinfolkref08_Fold_L1_runs (s_ : ByteArray) (r_ : ByteArray) (h : runL (kinfolkref08_Fold_L1_step) s_ = some r_) : LRuns Tryd.prog (lEnv Tryd.prog cfg 32 0).nt 0 (.loop (loopAt Tryd.prog 32 1)) (kinfolkref08_Fold_L1_st s_) (kinfolkref08_Fold_L1_ex r_).1 (kinfolkref08_Fold_L1_ex r_).2 :=
  loop_run h (kinfolkref08_Fold_L1_ok) (by intro r_; rcases r_ with r1 <;> simp [kinfolkref08_Fold_L1_ex])
/-! ### kinfolkref08_Fold_L2 -/
def kinfolkref08_Fold_L2_st (s : ByteArray) : Int → St
  | i => ⟨[(0, (.av (.one (.pv (.str s))))), (3, (.av (.one (.pv (.int .i64 i)))))], [], []⟩
def kinfolkref08_Fold_L2_ex (s : ByteArray) : (ByteArray) ⊕ (Unit) → Ex × St
  | .inl r1 => (.ret, ⟨[(2, (.av (.one (.pv (.str r1)))))], [], []⟩)
  | .inr _ => ((.exit 4), ⟨[(0, (.av (.one (.pv (.str s)))))], [], []⟩)
noncomputable def kinfolkref08_Fold_L2_step (rec_kinfolkref08_Fold : ByteArray → Option (ByteArray)) (s : ByteArray) : Int → Option ((Int) ⊕ ((ByteArray) ⊕ (Unit)))
  | i =>
  bif (decide (((iadd .i64 i 1) : Int) < (s.size : Int))) then
    bif decide ((0 : Int) ≤ i) && decide ((i : Int) < (s.size : Int)) then
    bif (decide ((((s.data.getD (i).toNat 0).toNat : Int) : Int) = 32)) then
      bif decide ((0 : Int) ≤ (iadd .i64 i 1)) && decide (((iadd .i64 i 1) : Int) < (s.size : Int)) then
      bif (decide ((((s.data.getD ((iadd .i64 i 1)).toNat 0).toNat : Int) : Int) = 32)) then
        bif decide ((0 : Int) ≤ 0) && decide ((0 : Int) ≤ i) && decide ((i : Int) ≤ (s.size : Int)) then
        bif decide ((0 : Int) ≤ (iadd .i64 i 1)) && decide (((iadd .i64 i 1) : Int) ≤ (s.size : Int)) && decide (((s.size : Int) : Int) ≤ (s.size : Int)) then
        bif decide ((s.extract 0 (i).toNat).size + (s.extract ((iadd .i64 i 1)).toNat ((s.size : Int)).toNat).size ≤ 140737488355328) then
        (rec_kinfolkref08_Fold ((s.extract 0 (i).toNat) ++ (s.extract ((iadd .i64 i 1)).toNat ((s.size : Int)).toNat))).bind fun s2 =>
        some (.inr (.inl s2))
        else none
        else none
        else none
      else
        some (.inl (iadd .i64 i 1))
      else none
    else
      some (.inl (iadd .i64 i 1))
    else none
  else
    some (.inr (.inr ()))
theorem kinfolkref08_Fold_L2_ok (rec_kinfolkref08_Fold : ByteArray → Option (ByteArray)) (hrec_kinfolkref08_Fold : ∀ s r_, rec_kinfolkref08_Fold s = some r_ → Runs Tryd.prog 32 [(.one (.pv (.str s)))] [] [] (kinfolkref08_Fold_out s r_)) (s : ByteArray) (i : Int) (z_ : (Int) ⊕ ((ByteArray) ⊕ (Unit))) (h : kinfolkref08_Fold_L2_step rec_kinfolkref08_Fold s i = some z_) : RoundOk Tryd.prog cfg 32 0 (loopAt Tryd.prog 32 2) (kinfolkref08_Fold_L2_st s) (kinfolkref08_Fold_L2_ex s) i z_ := by
  rcases cond_of h with ⟨h1, h⟩ | ⟨h1, h⟩
  · obtain ⟨h2, h⟩ := need_of h
    rcases cond_of h with ⟨h3, h⟩ | ⟨h3, h⟩
    · obtain ⟨h4, h⟩ := need_of h
      rcases cond_of h with ⟨h5, h⟩ | ⟨h5, h⟩
      · obtain ⟨h6, h⟩ := need_of h
        obtain ⟨h7, h⟩ := need_of h
        obtain ⟨h8, h⟩ := need_of h
        obtain ⟨s2, h9, h⟩ := bind_of h
        have h := some_of h
        subst h
        have t_ := tT h1 <| tO h2 <| tT h3 <| tO h4 <| tT h5 <| tO h6 <| tO h7 <| tO h8 <| tR (hrec_kinfolkref08_Fold ((s.extract 0 (i).toNat) ++ (s.extract ((iadd .i64 i 1)).toNat ((s.size : Int)).toNat)) _ h9) <| tN
        exact ⟨t_.ev, (kinfolkref08_Fold_L2_ex s (.inl s2)).2, .k0 t_.pf (by kernel_rfl), .same (by kernel_rfl)⟩
      · have h := some_of h
        subst h
        have t_ := tT h1 <| tO h2 <| tT h3 <| tO h4 <| tF h5 <| tN
        exact ⟨t_.ev, kinfolkref08_Fold_L2_st s (iadd .i64 i 1), .k0 t_.pf (by kernel_rfl), .same (by kernel_rfl)⟩
    · have h := some_of h
      subst h
      have t_ := tT h1 <| tO h2 <| tF h3 <| tF (rfl : false = false) <| tN
      exact ⟨t_.ev, kinfolkref08_Fold_L2_st s (iadd .i64 i 1), .k0 t_.pf (by kernel_rfl), .same (by kernel_rfl)⟩
  · have h := some_of h
    subst h
    have t_ := tF h1 <| tN
    exact ⟨t_.ev, ⟨[(34, (.av (.one (.pv (.bool false))))), (0, (.av (.one (.pv (.str s))))), (3, (.av (.one (.pv (.int .i64 i))))), (34, (.av (.one (.pv (.bool (decide (((iadd .i64 i 1) : Int) < (s.size : Int))))))))], [], []⟩, .k0 t_.pf (by kernel_rfl), ⟨⟨⟨_, rfl, .eq rfl⟩, trivial⟩, trivial, trivial⟩⟩
theorem kinfolkref08_Fold_L2_runs (rec_kinfolkref08_Fold : ByteArray → Option (ByteArray)) (hrec_kinfolkref08_Fold : ∀ s r_, rec_kinfolkref08_Fold s = some r_ → Runs Tryd.prog 32 [(.one (.pv (.str s)))] [] [] (kinfolkref08_Fold_out s r_)) (s : ByteArray) (s_ : Int) (r_ : (ByteArray) ⊕ (Unit)) (h : runL (kinfolkref08_Fold_L2_step rec_kinfolkref08_Fold s) s_ = some r_) : LRuns Tryd.prog (lEnv Tryd.prog cfg 32 0).nt 0 (.loop (loopAt Tryd.prog 32 2)) (kinfolkref08_Fold_L2_st s s_) (kinfolkref08_Fold_L2_ex s r_).1 (kinfolkref08_Fold_L2_ex s r_).2 :=
  loop_run h (kinfolkref08_Fold_L2_ok rec_kinfolkref08_Fold hrec_kinfolkref08_Fold s) (by intro r_; rcases r_ with r1 | _ <;> simp [kinfolkref08_Fold_L2_ex])
/-! ### kinfolkref08_Fold -/
noncomputable def kinfolkref08_Fold_b (rec_kinfolkref08_Fold : ByteArray → Option (ByteArray)) (s : ByteArray) : Option (ByteArray) :=
  (runL (kinfolkref08_Fold_L0_step) s).bind fun s2 =>
  (runL (kinfolkref08_Fold_L1_step) s2).bind fun s3 =>
  (runL (kinfolkref08_Fold_L2_step rec_kinfolkref08_Fold s3) 0).bind fun z_ => match z_ with
  | .inl s4 =>
    some s4
  | .inr _ =>
    some s3
theorem kinfolkref08_Fold_b_runs (rec_kinfolkref08_Fold : ByteArray → Option (ByteArray)) (hrec_kinfolkref08_Fold : ∀ s r_, rec_kinfolkref08_Fold s = some r_ → Runs Tryd.prog 32 [(.one (.pv (.str s)))] [] [] (kinfolkref08_Fold_out s r_)) (s : ByteArray) (r_ : ByteArray) (h : kinfolkref08_Fold_b rec_kinfolkref08_Fold s = some r_) : Runs Tryd.prog 32 [(.one (.pv (.str s)))] [] [] (kinfolkref08_Fold_out s r_) := by
  unfold kinfolkref08_Fold_b at h
  obtain ⟨s2, h1, h⟩ := bind_of h
  obtain ⟨s3, h2, h⟩ := bind_of h
  obtain ⟨z_, h3, h⟩ := bind_of h
  rcases z_ with s4 | _
  · have h := some_of h
    subst h
    have t_ := tL (kinfolkref08_Fold_L0_runs _ _ h1) <| tL (kinfolkref08_Fold_L1_runs _ _ h2) <| tL (kinfolkref08_Fold_L2_runs rec_kinfolkref08_Fold hrec_kinfolkref08_Fold s3 _ _ h3) <| tN
    exact runs_of (C := cfg) (objs := []) (sc := t_.ev) (.k0 t_.pf (by kernel_rfl))
  · have h := some_of h
    subst h
    have t_ := tL (kinfolkref08_Fold_L0_runs _ _ h1) <| tL (kinfolkref08_Fold_L1_runs _ _ h2) <| tL (kinfolkref08_Fold_L2_runs rec_kinfolkref08_Fold hrec_kinfolkref08_Fold s3 _ _ h3) <| tN
    exact runs_of (C := cfg) (objs := []) (sc := t_.ev) (.k0 t_.pf (by kernel_rfl))
noncomputable def kinfolkref08_Fold : Nat → ByteArray → Option (ByteArray)
  | 0, _ => none
  | N + 1, s => kinfolkref08_Fold_b (kinfolkref08_Fold N) s
theorem kinfolkref08_Fold_runs : ∀ (N : Nat) (s : ByteArray) (r_ : ByteArray), kinfolkref08_Fold N s = some r_ → Runs Tryd.prog 32 [(.one (.pv (.str s)))] [] [] (kinfolkref08_Fold_out s r_)
  | 0, _, _, h => by cases h
  | N + 1, s, r_, h => kinfolkref08_Fold_b_runs (kinfolkref08_Fold N) (kinfolkref08_Fold_runs N) s r_ h
/-! ### kinfolkref08_Phone_out -/
def kinfolkref08_Phone_out (s : ByteArray) : Bool → Res
  | r1 => ([(.one (.pv (.bool r1)))], [], [])
/-! ### kinfolkref08_Phone_L0 -/
def kinfolkref08_Phone_L0_st (s : ByteArray) : Int × Int → St
  | (digits, i) => ⟨[(0, (.av (.one (.pv (.str s))))), (3, (.av (.one (.pv (.int .i64 digits))))), (4, (.av (.one (.pv (.int .i64 i)))))], [], []⟩
def kinfolkref08_Phone_L0_ex (s : ByteArray) : (Unit) ⊕ (Int) → Ex × St
  | .inl _ => (.ret, ⟨[(2, (.av (.one (.pv (.bool false)))))], [], []⟩)
  | .inr r1 => ((.exit 0), ⟨[(0, (.av (.one (.pv (.str s))))), (3, (.av (.one (.pv (.int .i64 r1)))))], [], []⟩)
noncomputable def kinfolkref08_Phone_L0_step (s : ByteArray) : Int × Int → Option ((Int × Int) ⊕ ((Unit) ⊕ (Int)))
  | (digits, i) =>
  bif (decide ((i : Int) < (s.size : Int))) then
    bif decide ((0 : Int) ≤ i) && decide ((i : Int) < (s.size : Int)) then
    bif (decide ((48 : Int) ≤ ((s.data.getD (i).toNat 0).toNat : Int))) then
      bif (decide ((((s.data.getD (i).toNat 0).toNat : Int) : Int) ≤ 57)) then
        some (.inl ((iadd .i64 digits 1), (iadd .i64 i 1)))
      else
        bif (decide ((((s.data.getD (i).toNat 0).toNat : Int) : Int) = 32)) then
          some (.inl (digits, (iadd .i64 i 1)))
        else
          bif (decide ((((s.data.getD (i).toNat 0).toNat : Int) : Int) = 45)) then
            some (.inl (digits, (iadd .i64 i 1)))
          else
            bif (decide ((((s.data.getD (i).toNat 0).toNat : Int) : Int) = 43)) then
              bif (decide ((0 : Int) < i)) then
                some (.inr (.inl ()))
              else
                some (.inl (digits, (iadd .i64 i 1)))
            else
              some (.inr (.inl ()))
    else
      bif (decide ((((s.data.getD (i).toNat 0).toNat : Int) : Int) = 32)) then
        some (.inl (digits, (iadd .i64 i 1)))
      else
        bif (decide ((((s.data.getD (i).toNat 0).toNat : Int) : Int) = 45)) then
          some (.inl (digits, (iadd .i64 i 1)))
        else
          bif (decide ((((s.data.getD (i).toNat 0).toNat : Int) : Int) = 43)) then
            bif (decide ((0 : Int) < i)) then
              some (.inr (.inl ()))
            else
              some (.inl (digits, (iadd .i64 i 1)))
          else
            some (.inr (.inl ()))
    else none
  else
    some (.inr (.inr digits))
theorem kinfolkref08_Phone_L0_ok (s : ByteArray) (s_ : Int × Int) (z_ : (Int × Int) ⊕ ((Unit) ⊕ (Int))) (h : kinfolkref08_Phone_L0_step s s_ = some z_) : RoundOk Tryd.prog cfg 33 0 (loopAt Tryd.prog 33 0) (kinfolkref08_Phone_L0_st s) (kinfolkref08_Phone_L0_ex s) s_ z_ := by
  rcases s_ with ⟨digits, i⟩
  rcases cond_of h with ⟨h1, h⟩ | ⟨h1, h⟩
  · obtain ⟨h2, h⟩ := need_of h
    rcases cond_of h with ⟨h3, h⟩ | ⟨h3, h⟩
    · rcases cond_of h with ⟨h4, h⟩ | ⟨h4, h⟩
      · have h := some_of h
        subst h
        have t_ := tT h1 <| tO h2 <| tT h3 <| tO h2 <| tT h4 <| tN
        exact ⟨t_.ev, kinfolkref08_Phone_L0_st s ((iadd .i64 digits 1), (iadd .i64 i 1)), .k0 t_.pf (by kernel_rfl), .same (by kernel_rfl)⟩
      · rcases cond_of h with ⟨h5, h⟩ | ⟨h5, h⟩
        · have h := some_of h
          subst h
          have t_ := tT h1 <| tO h2 <| tT h3 <| tO h2 <| tF h4 <| tO h2 <| tF (not_of2 h5) <| tF (rfl : false = false) <| tF (rfl : false = false) <| tN
          exact ⟨t_.ev, kinfolkref08_Phone_L0_st s (digits, (iadd .i64 i 1)), .k0 t_.pf (by kernel_rfl), .same (by kernel_rfl)⟩
        · rcases cond_of h with ⟨h6, h⟩ | ⟨h6, h⟩
          · have h := some_of h
            subst h
            have t_ := tT h1 <| tO h2 <| tT h3 <| tO h2 <| tF h4 <| tO h2 <| tT (not_of h5) <| tO h2 <| tF (not_of2 h6) <| tF (rfl : false = false) <| tN
            exact ⟨t_.ev, kinfolkref08_Phone_L0_st s (digits, (iadd .i64 i 1)), .k0 t_.pf (by kernel_rfl), .same (by kernel_rfl)⟩
          · rcases cond_of h with ⟨h7, h⟩ | ⟨h7, h⟩
            · rcases cond_of h with ⟨h8, h⟩ | ⟨h8, h⟩
              · have h := some_of h
                subst h
                have t_ := tT h1 <| tO h2 <| tT h3 <| tO h2 <| tF h4 <| tO h2 <| tT (not_of h5) <| tO h2 <| tT (not_of h6) <| tO h2 <| tF (not_of2 h7) <| tT h8 <| tN
                exact ⟨t_.ev, (kinfolkref08_Phone_L0_ex s (.inl ())).2, .k0 t_.pf (by kernel_rfl), .same (by kernel_rfl)⟩
              · have h := some_of h
                subst h
                have t_ := tT h1 <| tO h2 <| tT h3 <| tO h2 <| tF h4 <| tO h2 <| tT (not_of h5) <| tO h2 <| tT (not_of h6) <| tO h2 <| tF (not_of2 h7) <| tF h8 <| tN
                exact ⟨t_.ev, kinfolkref08_Phone_L0_st s (digits, (iadd .i64 i 1)), .k0 t_.pf (by kernel_rfl), .same (by kernel_rfl)⟩
            · have h := some_of h
              subst h
              have t_ := tT h1 <| tO h2 <| tT h3 <| tO h2 <| tF h4 <| tO h2 <| tT (not_of h5) <| tO h2 <| tT (not_of h6) <| tO h2 <| tT (not_of h7) <| tT (rfl : true = true) <| tN
              exact ⟨t_.ev, (kinfolkref08_Phone_L0_ex s (.inl ())).2, .k0 t_.pf (by kernel_rfl), .same (by kernel_rfl)⟩
    · rcases cond_of h with ⟨h4, h⟩ | ⟨h4, h⟩
      · have h := some_of h
        subst h
        have t_ := tT h1 <| tO h2 <| tF h3 <| tF (rfl : false = false) <| tO h2 <| tF (not_of2 h4) <| tF (rfl : false = false) <| tF (rfl : false = false) <| tN
        exact ⟨t_.ev, kinfolkref08_Phone_L0_st s (digits, (iadd .i64 i 1)), .k0 t_.pf (by kernel_rfl), .same (by kernel_rfl)⟩
      · rcases cond_of h with ⟨h5, h⟩ | ⟨h5, h⟩
        · have h := some_of h
          subst h
          have t_ := tT h1 <| tO h2 <| tF h3 <| tF (rfl : false = false) <| tO h2 <| tT (not_of h4) <| tO h2 <| tF (not_of2 h5) <| tF (rfl : false = false) <| tN
          exact ⟨t_.ev, kinfolkref08_Phone_L0_st s (digits, (iadd .i64 i 1)), .k0 t_.pf (by kernel_rfl), .same (by kernel_rfl)⟩
        · rcases cond_of h with ⟨h6, h⟩ | ⟨h6, h⟩
          · rcases cond_of h with ⟨h7, h⟩ | ⟨h7, h⟩
            · have h := some_of h
              subst h
              have t_ := tT h1 <| tO h2 <| tF h3 <| tF (rfl : false = false) <| tO h2 <| tT (not_of h4) <| tO h2 <| tT (not_of h5) <| tO h2 <| tF (not_of2 h6) <| tT h7 <| tN
              exact ⟨t_.ev, (kinfolkref08_Phone_L0_ex s (.inl ())).2, .k0 t_.pf (by kernel_rfl), .same (by kernel_rfl)⟩
            · have h := some_of h
              subst h
              have t_ := tT h1 <| tO h2 <| tF h3 <| tF (rfl : false = false) <| tO h2 <| tT (not_of h4) <| tO h2 <| tT (not_of h5) <| tO h2 <| tF (not_of2 h6) <| tF h7 <| tN
              exact ⟨t_.ev, kinfolkref08_Phone_L0_st s (digits, (iadd .i64 i 1)), .k0 t_.pf (by kernel_rfl), .same (by kernel_rfl)⟩
          · have h := some_of h
            subst h
            have t_ := tT h1 <| tO h2 <| tF h3 <| tF (rfl : false = false) <| tO h2 <| tT (not_of h4) <| tO h2 <| tT (not_of h5) <| tO h2 <| tT (not_of h6) <| tT (rfl : true = true) <| tN
            exact ⟨t_.ev, (kinfolkref08_Phone_L0_ex s (.inl ())).2, .k0 t_.pf (by kernel_rfl), .same (by kernel_rfl)⟩
  · have h := some_of h
    subst h
    have t_ := tF h1 <| tN
    exact ⟨t_.ev, ⟨[(8, (.av (.one (.pv (.bool false))))), (0, (.av (.one (.pv (.str s))))), (3, (.av (.one (.pv (.int .i64 digits))))), (4, (.av (.one (.pv (.int .i64 i))))), (8, (.av (.one (.pv (.bool (decide ((i : Int) < (s.size : Int))))))))], [], []⟩, .k0 t_.pf (by kernel_rfl), ⟨⟨⟨_, rfl, .eq rfl⟩, ⟨_, rfl, .eq rfl⟩, trivial⟩, trivial, trivial⟩⟩
theorem kinfolkref08_Phone_L0_runs (s : ByteArray) (s_ : Int × Int) (r_ : (Unit) ⊕ (Int)) (h : runL (kinfolkref08_Phone_L0_step s) s_ = some r_) : LRuns Tryd.prog (lEnv Tryd.prog cfg 33 0).nt 0 (.loop (loopAt Tryd.prog 33 0)) (kinfolkref08_Phone_L0_st s s_) (kinfolkref08_Phone_L0_ex s r_).1 (kinfolkref08_Phone_L0_ex s r_).2 :=
  loop_run h (kinfolkref08_Phone_L0_ok s) (by intro r_; rcases r_ with _ | r1 <;> simp [kinfolkref08_Phone_L0_ex])
/-! ### kinfolkref08_Phone -/
noncomputable def kinfolkref08_Phone (s : ByteArray) : Option (Bool) :=
  (runL (kinfolkref08_Phone_L0_step s) (0, 0)).bind fun z_ => match z_ with
  | .inl _ =>
    some false
  | .inr n =>
    bif (decide ((0 : Int) < n)) then
      some (decide (((s.size : Int) : Int) ≤ 20))
    else
      some false
theorem kinfolkref08_Phone_runs (s : ByteArray) (r_ : Bool) (h : kinfolkref08_Phone s = some r_) : Runs Tryd.prog 33 [(.one (.pv (.str s)))] [] [] (kinfolkref08_Phone_out s r_) := by
  unfold kinfolkref08_Phone at h
  obtain ⟨z_, h1, h⟩ := bind_of h
  rcases z_ with _ | n
  · have h := some_of h
    subst h
    have t_ := tL (kinfolkref08_Phone_L0_runs s _ _ h1) <| tN
    exact runs_of (C := cfg) (objs := []) (sc := t_.ev) (.k0 t_.pf (by kernel_rfl))
  · rcases cond_of h with ⟨h2, h⟩ | ⟨h2, h⟩
    · have h := some_of h
      subst h
      have t_ := tL (kinfolkref08_Phone_L0_runs s _ _ h1) <| tT h2 <| tN
      exact runs_of (C := cfg) (objs := []) (sc := t_.ev) (.k0 t_.pf (by kernel_rfl))
    · have h := some_of h
      subst h
      have t_ := tL (kinfolkref08_Phone_L0_runs s _ _ h1) <| tF h2 <| tN
      exact runs_of (C := cfg) (objs := []) (sc := t_.ev) (.k0 t_.pf (by kernel_rfl))
/-! ### kinfolkref08_Mail_out -/
def kinfolkref08_Mail_out (s : ByteArray) : Bool → Res
  | r1 => ([(.one (.pv (.bool r1)))], [], [])
/-! ### kinfolkref08_Mail_L0 -/
def kinfolkref08_Mail_L0_st (s : ByteArray) : Int × Int × Int → St
  | (at_, count, i) => ⟨[(0, (.av (.one (.pv (.str s))))), (3, (.av (.one (.pv (.int .i64 at_))))), (4, (.av (.one (.pv (.int .i64 count))))), (5, (.av (.one (.pv (.int .i64 i)))))], [], []⟩
def kinfolkref08_Mail_L0_ex (s : ByteArray) : (Unit) ⊕ (Int × Int) → Ex × St
  | .inl _ => (.ret, ⟨[(2, (.av (.one (.pv (.bool false)))))], [], []⟩)
  | .inr (r1, r2) => ((.exit 0), ⟨[(0, (.av (.one (.pv (.str s))))), (3, (.av (.one (.pv (.int .i64 r1))))), (4, (.av (.one (.pv (.int .i64 r2)))))], [], []⟩)
noncomputable def kinfolkref08_Mail_L0_step (s : ByteArray) : Int × Int × Int → Option ((Int × Int × Int) ⊕ ((Unit) ⊕ (Int × Int)))
  | (at_, count, i) =>
  bif (decide ((i : Int) < (s.size : Int))) then
    bif decide ((0 : Int) ≤ i) && decide ((i : Int) < (s.size : Int)) then
    bif (decide ((((s.data.getD (i).toNat 0).toNat : Int) : Int) < 33)) then
      some (.inr (.inl ()))
    else
      bif (decide ((126 : Int) < ((s.data.getD (i).toNat 0).toNat : Int))) then
        some (.inr (.inl ()))
      else
        bif (decide ((((s.data.getD (i).toNat 0).toNat : Int) : Int) = 64)) then
          some (.inl (i, (iadd .i64 count 1), (iadd .i64 i 1)))
        else
          some (.inl (at_, count, (iadd .i64 i 1)))
    else none
  else
    some (.inr (.inr (at_, count)))
theorem kinfolkref08_Mail_L0_ok (s : ByteArray) (s_ : Int × Int × Int) (z_ : (Int × Int × Int) ⊕ ((Unit) ⊕ (Int × Int))) (h : kinfolkref08_Mail_L0_step s s_ = some z_) : RoundOk Tryd.prog cfg 34 0 (loopAt Tryd.prog 34 0) (kinfolkref08_Mail_L0_st s) (kinfolkref08_Mail_L0_ex s) s_ z_ := by
  rcases s_ with ⟨at_, count, i⟩
  rcases cond_of h with ⟨h1, h⟩ | ⟨h1, h⟩
  · obtain ⟨h2, h⟩ := need_of h
    rcases cond_of h with ⟨h3, h⟩ | ⟨h3, h⟩
    · have h := some_of h
      subst h
      have t_ := tT h1 <| tO h2 <| tT h3 <| tT (rfl : true = true) <| tN
      exact ⟨t_.ev, (kinfolkref08_Mail_L0_ex s (.inl ())).2, .k0 t_.pf (by kernel_rfl), .same (by kernel_rfl)⟩
    · rcases cond_of h with ⟨h4, h⟩ | ⟨h4, h⟩
      · have h := some_of h
        subst h
        have t_ := tT h1 <| tO h2 <| tF h3 <| tO h2 <| tT h4 <| tN
        exact ⟨t_.ev, (kinfolkref08_Mail_L0_ex s (.inl ())).2, .k0 t_.pf (by kernel_rfl), .same (by kernel_rfl)⟩
      · rcases cond_of h with ⟨h5, h⟩ | ⟨h5, h⟩
        · have h := some_of h
          subst h
          have t_ := tT h1 <| tO h2 <| tF h3 <| tO h2 <| tF h4 <| tO h2 <| tT h5 <| tN
          exact ⟨t_.ev, kinfolkref08_Mail_L0_st s (i, (iadd .i64 count 1), (iadd .i64 i 1)), .k0 t_.pf (by kernel_rfl), .same (by kernel_rfl)⟩
        · have h := some_of h
          subst h
          have t_ := tT h1 <| tO h2 <| tF h3 <| tO h2 <| tF h4 <| tO h2 <| tF h5 <| tN
          exact ⟨t_.ev, kinfolkref08_Mail_L0_st s (at_, count, (iadd .i64 i 1)), .k0 t_.pf (by kernel_rfl), .same (by kernel_rfl)⟩
  · have h := some_of h
    subst h
    have t_ := tF h1 <| tN
    exact ⟨t_.ev, ⟨[(11, (.av (.one (.pv (.bool false))))), (0, (.av (.one (.pv (.str s))))), (3, (.av (.one (.pv (.int .i64 at_))))), (4, (.av (.one (.pv (.int .i64 count))))), (5, (.av (.one (.pv (.int .i64 i))))), (11, (.av (.one (.pv (.bool (decide ((i : Int) < (s.size : Int))))))))], [], []⟩, .k0 t_.pf (by kernel_rfl), ⟨⟨⟨_, rfl, .eq rfl⟩, ⟨_, rfl, .eq rfl⟩, ⟨_, rfl, .eq rfl⟩, trivial⟩, trivial, trivial⟩⟩
theorem kinfolkref08_Mail_L0_runs (s : ByteArray) (s_ : Int × Int × Int) (r_ : (Unit) ⊕ (Int × Int)) (h : runL (kinfolkref08_Mail_L0_step s) s_ = some r_) : LRuns Tryd.prog (lEnv Tryd.prog cfg 34 0).nt 0 (.loop (loopAt Tryd.prog 34 0)) (kinfolkref08_Mail_L0_st s s_) (kinfolkref08_Mail_L0_ex s r_).1 (kinfolkref08_Mail_L0_ex s r_).2 :=
  loop_run h (kinfolkref08_Mail_L0_ok s) (by intro r_; rcases r_ with _ | ⟨r1, r2⟩ <;> simp [kinfolkref08_Mail_L0_ex])
/-! ### kinfolkref08_Mail_L1 -/
def kinfolkref08_Mail_L1_st (where_ : ByteArray) : Int → St
  | i => ⟨[(6, (.av (.one (.pv (.str where_))))), (7, (.av (.one (.pv (.int .i64 i)))))], [], []⟩
def kinfolkref08_Mail_L1_ex (where_ : ByteArray) : (Unit) ⊕ (Unit) → Ex × St
  | .inl _ => (.ret, ⟨[(2, (.av (.one (.pv (.bool true)))))], [], []⟩)
  | .inr _ => ((.exit 2), ⟨[], [], []⟩)
noncomputable def kinfolkref08_Mail_L1_step (where_ : ByteArray) : Int → Option ((Int) ⊕ ((Unit) ⊕ (Unit)))
  | i =>
  bif (decide ((i : Int) < (where_.size : Int))) then
    bif decide ((0 : Int) ≤ i) && decide ((i : Int) < (where_.size : Int)) then
    bif (decide ((((where_.data.getD (i).toNat 0).toNat : Int) : Int) = 46)) then
      some (.inr (.inl ()))
    else
      some (.inl (iadd .i64 i 1))
    else none
  else
    some (.inr (.inr ()))
theorem kinfolkref08_Mail_L1_ok (where_ : ByteArray) (i : Int) (z_ : (Int) ⊕ ((Unit) ⊕ (Unit))) (h : kinfolkref08_Mail_L1_step where_ i = some z_) : RoundOk Tryd.prog cfg 34 0 (loopAt Tryd.prog 34 1) (kinfolkref08_Mail_L1_st where_) (kinfolkref08_Mail_L1_ex where_) i z_ := by
  rcases cond_of h with ⟨h1, h⟩ | ⟨h1, h⟩
  · obtain ⟨h2, h⟩ := need_of h
    rcases cond_of h with ⟨h3, h⟩ | ⟨h3, h⟩
    · have h := some_of h
      subst h
      have t_ := tT h1 <| tO h2 <| tT h3 <| tN
      exact ⟨t_.ev, (kinfolkref08_Mail_L1_ex where_ (.inl ())).2, .k0 t_.pf (by kernel_rfl), .same (by kernel_rfl)⟩
    · have h := some_of h
      subst h
      have t_ := tT h1 <| tO h2 <| tF h3 <| tN
      exact ⟨t_.ev, kinfolkref08_Mail_L1_st where_ (iadd .i64 i 1), .k0 t_.pf (by kernel_rfl), .same (by kernel_rfl)⟩
  · have h := some_of h
    subst h
    have t_ := tF h1 <| tN
    exact ⟨t_.ev, ⟨[(60, (.av (.one (.pv (.bool false))))), (6, (.av (.one (.pv (.str where_))))), (7, (.av (.one (.pv (.int .i64 i))))), (60, (.av (.one (.pv (.bool (decide ((i : Int) < (where_.size : Int))))))))], [], []⟩, .k0 t_.pf (by kernel_rfl), ⟨trivial, trivial, trivial⟩⟩
theorem kinfolkref08_Mail_L1_runs (where_ : ByteArray) (s_ : Int) (r_ : (Unit) ⊕ (Unit)) (h : runL (kinfolkref08_Mail_L1_step where_) s_ = some r_) : LRuns Tryd.prog (lEnv Tryd.prog cfg 34 0).nt 0 (.loop (loopAt Tryd.prog 34 1)) (kinfolkref08_Mail_L1_st where_ s_) (kinfolkref08_Mail_L1_ex where_ r_).1 (kinfolkref08_Mail_L1_ex where_ r_).2 :=
  loop_run h (kinfolkref08_Mail_L1_ok where_) (by intro r_; rcases r_ with _ | _ <;> simp [kinfolkref08_Mail_L1_ex])
/-! ### kinfolkref08_Mail -/
noncomputable def kinfolkref08_Mail (s : ByteArray) : Option (Bool) :=
  (runL (kinfolkref08_Mail_L0_step s) (0, 0, 0)).bind fun z_ => match z_ with
  | .inl _ =>
    some false
  | .inr (n, n2) =>
    bif (decide ((n2 : Int) = 1)) then
      bif (decide ((n : Int) = 0)) then
        some false
      else
        bif decide ((0 : Int) ≤ (iadd .i64 n 1)) && decide (((iadd .i64 n 1) : Int) ≤ (s.size : Int)) && decide (((s.size : Int) : Int) ≤ (s.size : Int)) then
        bif (decide ((((s.extract ((iadd .i64 n 1)).toNat ((s.size : Int)).toNat).size : Int) : Int) = 0)) then
          some false
        else
          bif decide ((0 : Int) ≤ 0) && decide ((0 : Int) < ((s.extract ((iadd .i64 n 1)).toNat ((s.size : Int)).toNat).size : Int)) then
          bif (decide (((((s.extract ((iadd .i64 n 1)).toNat ((s.size : Int)).toNat).data.getD 0 0).toNat : Int) : Int) = 46)) then
            some false
          else
            bif decide ((0 : Int) ≤ (isub .i64 ((s.extract ((iadd .i64 n 1)).toNat ((s.size : Int)).toNat).size : Int) 1)) && decide (((isub .i64 ((s.extract ((iadd .i64 n 1)).toNat ((s.size : Int)).toNat).size : Int) 1) : Int) < ((s.extract ((iadd .i64 n 1)).toNat ((s.size : Int)).toNat).size : Int)) then
            bif (decide (((((s.extract ((iadd .i64 n 1)).toNat ((s.size : Int)).toNat).data.getD ((isub .i64 ((s.extract ((iadd .i64 n 1)).toNat ((s.size : Int)).toNat).size : Int) 1)).toNat 0).toNat : Int) : Int) = 46)) then
              some false
            else
              (runL (kinfolkref08_Mail_L1_step (s.extract ((iadd .i64 n 1)).toNat ((s.size : Int)).toNat)) 0).bind fun z_ => match z_ with
              | .inl _ =>
                some true
              | .inr _ =>
                some false
            else none
          else none
        else none
    else
      some false
theorem kinfolkref08_Mail_runs (s : ByteArray) (r_ : Bool) (h : kinfolkref08_Mail s = some r_) : Runs Tryd.prog 34 [(.one (.pv (.str s)))] [] [] (kinfolkref08_Mail_out s r_) := by
  unfold kinfolkref08_Mail at h
  obtain ⟨z_, h1, h⟩ := bind_of h
  rcases z_ with _ | ⟨n, n2⟩
  · have h := some_of h
    subst h
    have t_ := tL (kinfolkref08_Mail_L0_runs s _ _ h1) <| tN
    exact runs_of (C := cfg) (objs := []) (sc := t_.ev) (.k0 t_.pf (by kernel_rfl))
  · rcases cond_of h with ⟨h2, h⟩ | ⟨h2, h⟩
    · rcases cond_of h with ⟨h3, h⟩ | ⟨h3, h⟩
      · have h := some_of h
        subst h
        have t_ := tL (kinfolkref08_Mail_L0_runs s _ _ h1) <| tF (not_of2 h2) <| tT h3 <| tN
        exact runs_of (C := cfg) (objs := []) (sc := t_.ev) (.k0 t_.pf (by kernel_rfl))
      · obtain ⟨h4, h⟩ := need_of h
        rcases cond_of h with ⟨h5, h⟩ | ⟨h5, h⟩
        · have h := some_of h
          subst h
          have t_ := tL (kinfolkref08_Mail_L0_runs s _ _ h1) <| tF (not_of2 h2) <| tF h3 <| tO h4 <| tT h5 <| tT (rfl : true = true) <| tT (rfl : true = true) <| tN
          exact runs_of (C := cfg) (objs := []) (sc := t_.ev) (.k0 t_.pf (by kernel_rfl))
        · obtain ⟨h6, h⟩ := need_of h
          rcases cond_of h with ⟨h7, h⟩ | ⟨h7, h⟩
          · have h := some_of h
            subst h
            have t_ := tL (kinfolkref08_Mail_L0_runs s _ _ h1) <| tF (not_of2 h2) <| tF h3 <| tO h4 <| tF h5 <| tO h6 <| tT h7 <| tT (rfl : true = true) <| tN
            exact runs_of (C := cfg) (objs := []) (sc := t_.ev) (.k0 t_.pf (by kernel_rfl))
          · obtain ⟨h8, h⟩ := need_of h
            rcases cond_of h with ⟨h9, h⟩ | ⟨h9, h⟩
            · have h := some_of h
              subst h
              have t_ := tL (kinfolkref08_Mail_L0_runs s _ _ h1) <| tF (not_of2 h2) <| tF h3 <| tO h4 <| tF h5 <| tO h6 <| tF h7 <| tO h8 <| tT h9 <| tN
              exact runs_of (C := cfg) (objs := []) (sc := t_.ev) (.k0 t_.pf (by kernel_rfl))
            · obtain ⟨z_, h10, h⟩ := bind_of h
              rcases z_ with _ | _
              · have h := some_of h
                subst h
                have t_ := tL (kinfolkref08_Mail_L0_runs s _ _ h1) <| tF (not_of2 h2) <| tF h3 <| tO h4 <| tF h5 <| tO h6 <| tF h7 <| tO h8 <| tF h9 <| tL (kinfolkref08_Mail_L1_runs (s.extract ((iadd .i64 n 1)).toNat ((s.size : Int)).toNat) _ _ h10) <| tN
                exact runs_of (C := cfg) (objs := []) (sc := t_.ev) (.k0 t_.pf (by kernel_rfl))
              · have h := some_of h
                subst h
                have t_ := tL (kinfolkref08_Mail_L0_runs s _ _ h1) <| tF (not_of2 h2) <| tF h3 <| tO h4 <| tF h5 <| tO h6 <| tF h7 <| tO h8 <| tF h9 <| tL (kinfolkref08_Mail_L1_runs (s.extract ((iadd .i64 n 1)).toNat ((s.size : Int)).toNat) _ _ h10) <| tN
                exact runs_of (C := cfg) (objs := []) (sc := t_.ev) (.k0 t_.pf (by kernel_rfl))
    · have h := some_of h
      subst h
      have t_ := tL (kinfolkref08_Mail_L0_runs s _ _ h1) <| tT (not_of h2) <| tT (rfl : true = true) <| tN
      exact runs_of (C := cfg) (objs := []) (sc := t_.ev) (.k0 t_.pf (by kernel_rfl))
/-! ### kinfolkref09_Right -/
noncomputable def kinfolkref09_Right (N : Nat) (f : Int) (f2 : ByteArray) (f3 : ByteArray) : Option (Int) :=
  bif (decide ((f : Int) < 1)) then
    some 1
  else
    bif (decide ((6 : Int) < f)) then
      some 1
    else
      (kinfolkref08_Check f2 12).bind fun n =>
      bif (decide ((n : Int) = 0)) then
        (kinfolkref08_Check f3 40).bind fun n2 =>
        bif (decide ((n2 : Int) = 0)) then
          bif (decide (f3 = (⟨#[]⟩ : ByteArray))) then
            some 7
          else
            (kinfolkref08_Fold N f3).bind fun s =>
            bif decide (s = f3) then
              bif (decide ((f : Int) = 2)) then
                (kinfolkref08_Phone f3).bind fun b =>
                bif b then
                  bif (decide ((f : Int) = 3)) then
                    (kinfolkref08_Mail f3).bind fun b2 =>
                    bif b2 then
                      some 0
                    else
                      some 7
                  else
                    some 0
                else
                  some 7
              else
                bif (decide ((f : Int) = 3)) then
                  (kinfolkref08_Mail f3).bind fun b =>
                  bif b then
                    some 0
                  else
                    some 7
                else
                  some 0
            else
              some 7
        else
          some n2
      else
        some n
theorem kinfolkref09_Right_runs (N : Nat) (f : Int) (f2 : ByteArray) (f3 : ByteArray) (r_ : Int) (h : kinfolkref09_Right N f f2 f3 = some r_) : Runs Tryd.prog 16 [(.agg [(.pv (.int .i64 f)), (.pv (.str f2)), (.pv (.str f3))])] [] [] (kinfolkref09_Right_out f f2 f3 r_) := by
  unfold kinfolkref09_Right at h
  rcases cond_of h with ⟨h1, h⟩ | ⟨h1, h⟩
  · have h := some_of h
    subst h
    have t_ := tT h1 <| tT (rfl : true = true) <| tN
    exact runs_of (C := cfg) (objs := []) (sc := t_.ev) (.k0 t_.pf (by kernel_rfl))
  · rcases cond_of h with ⟨h2, h⟩ | ⟨h2, h⟩
    · have h := some_of h
      subst h
      have t_ := tF h1 <| tT h2 <| tN
      exact runs_of (C := cfg) (objs := []) (sc := t_.ev) (.k0 t_.pf (by kernel_rfl))
    · obtain ⟨n, h3, h⟩ := bind_of h
      rcases cond_of h with ⟨h4, h⟩ | ⟨h4, h⟩
      · obtain ⟨n2, h5, h⟩ := bind_of h
        rcases cond_of h with ⟨h6, h⟩ | ⟨h6, h⟩
        · rcases cond_of h with ⟨h7, h⟩ | ⟨h7, h⟩
          · have h := some_of h
            subst h
            have t_ := tF h1 <| tF h2 <| tR (kinfolkref08_Check_runs f2 12 _ h3) <| tF (not_of2 h4) <| tR (kinfolkref08_Check_runs f3 40 _ h5) <| tF (not_of2 h6) <| tT h7 <| tT (rfl : true = true) <| tT (rfl : true = true) <| tT (rfl : true = true) <| tN
            exact runs_of (C := cfg) (objs := []) (sc := t_.ev) (.k1 t_.pf (by kernel_rfl) (by kernel_rfl))
          · obtain ⟨s, h8, h⟩ := bind_of h
            rcases cond_of h with ⟨h9, h⟩ | ⟨h9, h⟩
            · rcases cond_of h with ⟨h10, h⟩ | ⟨h10, h⟩
              · obtain ⟨b, h11, h⟩ := bind_of h
                rcases cond_of h with ⟨h12, h⟩ | ⟨h12, h⟩
                · have p12_ := fun {sc_ : List Ev} {Q_ : Prop} (t_ : Tell sc_ Q_) => tF h1 <| tF h2 <| tR (kinfolkref08_Check_runs f2 12 _ h3) <| tF (not_of2 h4) <| tR (kinfolkref08_Check_runs f3 40 _ h5) <| tF (not_of2 h6) <| tF h7 <| tR (kinfolkref08_Fold_runs N f3 _ h8) <| tR (kinfolkref08_Fold_runs N f3 _ h8) <| tF (not_of2 h9) <| tT h10 <| tR (kinfolkref08_Phone_runs f3 _ h11) <| tF (not_of2 h12) <| t_
                  rcases cond_of h with ⟨h13, h⟩ | ⟨h13, h⟩
                  · obtain ⟨b2, h14, h⟩ := bind_of h
                    rcases cond_of h with ⟨h15, h⟩ | ⟨h15, h⟩
                    · have h := some_of h
                      subst h
                      have t_ := p12_ <| tT h13 <| tR (kinfolkref08_Mail_runs f3 _ h14) <| tF (not_of2 h15) <| tN
                      exact runs_of (C := cfg) (objs := []) (sc := t_.ev) (.k1 t_.pf (by kernel_rfl) (by kernel_rfl))
                    · have h := some_of h
                      subst h
                      have t_ := p12_ <| tT h13 <| tR (kinfolkref08_Mail_runs f3 _ h14) <| tT (not_of h15) <| tN
                      exact runs_of (C := cfg) (objs := []) (sc := t_.ev) (.k1 t_.pf (by kernel_rfl) (by kernel_rfl))
                  · have h := some_of h
                    subst h
                    have t_ := p12_ <| tF h13 <| tF (rfl : false = false) <| tN
                    exact runs_of (C := cfg) (objs := []) (sc := t_.ev) (.k1 t_.pf (by kernel_rfl) (by kernel_rfl))
                · have h := some_of h
                  subst h
                  have t_ := tF h1 <| tF h2 <| tR (kinfolkref08_Check_runs f2 12 _ h3) <| tF (not_of2 h4) <| tR (kinfolkref08_Check_runs f3 40 _ h5) <| tF (not_of2 h6) <| tF h7 <| tR (kinfolkref08_Fold_runs N f3 _ h8) <| tR (kinfolkref08_Fold_runs N f3 _ h8) <| tF (not_of2 h9) <| tT h10 <| tR (kinfolkref08_Phone_runs f3 _ h11) <| tT (not_of h12) <| tT (rfl : true = true) <| tN
                  exact runs_of (C := cfg) (objs := []) (sc := t_.ev) (.k1 t_.pf (by kernel_rfl) (by kernel_rfl))
              · rcases cond_of h with ⟨h11, h⟩ | ⟨h11, h⟩
                · obtain ⟨b, h12, h⟩ := bind_of h
                  have p12_ := fun {sc_ : List Ev} {Q_ : Prop} (t_ : Tell sc_ Q_) => tF h1 <| tF h2 <| tR (kinfolkref08_Check_runs f2 12 _ h3) <| tF (not_of2 h4) <| tR (kinfolkref08_Check_runs f3 40 _ h5) <| tF (not_of2 h6) <| tF h7 <| tR (kinfolkref08_Fold_runs N f3 _ h8) <| tR (kinfolkref08_Fold_runs N f3 _ h8) <| tF (not_of2 h9) <| tF h10 <| tF (rfl : false = false) <| tT h11 <| tR (kinfolkref08_Mail_runs f3 _ h12) <| t_
                  rcases cond_of h with ⟨h13, h⟩ | ⟨h13, h⟩
                  · have h := some_of h
                    subst h
                    have t_ := p12_ <| tF (not_of2 h13) <| tN
                    exact runs_of (C := cfg) (objs := []) (sc := t_.ev) (.k1 t_.pf (by kernel_rfl) (by kernel_rfl))
                  · have h := some_of h
                    subst h
                    have t_ := p12_ <| tT (not_of h13) <| tN
                    exact runs_of (C := cfg) (objs := []) (sc := t_.ev) (.k1 t_.pf (by kernel_rfl) (by kernel_rfl))
                · have h := some_of h
                  subst h
                  have t_ := tF h1 <| tF h2 <| tR (kinfolkref08_Check_runs f2 12 _ h3) <| tF (not_of2 h4) <| tR (kinfolkref08_Check_runs f3 40 _ h5) <| tF (not_of2 h6) <| tF h7 <| tR (kinfolkref08_Fold_runs N f3 _ h8) <| tR (kinfolkref08_Fold_runs N f3 _ h8) <| tF (not_of2 h9) <| tF h10 <| tF (rfl : false = false) <| tF h11 <| tF (rfl : false = false) <| tN
                  exact runs_of (C := cfg) (objs := []) (sc := t_.ev) (.k1 t_.pf (by kernel_rfl) (by kernel_rfl))
            · have h := some_of h
              subst h
              have t_ := tF h1 <| tF h2 <| tR (kinfolkref08_Check_runs f2 12 _ h3) <| tF (not_of2 h4) <| tR (kinfolkref08_Check_runs f3 40 _ h5) <| tF (not_of2 h6) <| tF h7 <| tR (kinfolkref08_Fold_runs N f3 _ h8) <| tR (kinfolkref08_Fold_runs N f3 _ h8) <| tT (not_of h9) <| tT (rfl : true = true) <| tT (rfl : true = true) <| tN
              exact runs_of (C := cfg) (objs := []) (sc := t_.ev) (.k1 t_.pf (by kernel_rfl) (by kernel_rfl))
        · have h := some_of h
          subst h
          have t_ := tF h1 <| tF h2 <| tR (kinfolkref08_Check_runs f2 12 _ h3) <| tF (not_of2 h4) <| tR (kinfolkref08_Check_runs f3 40 _ h5) <| tT (not_of h6) <| tN
          exact runs_of (C := cfg) (objs := []) (sc := t_.ev) (.k0 t_.pf (by kernel_rfl))
      · have h := some_of h
        subst h
        have t_ := tF h1 <| tF h2 <| tR (kinfolkref08_Check_runs f2 12 _ h3) <| tT (not_of h4) <| tN
        exact runs_of (C := cfg) (objs := []) (sc := t_.ev) (.k0 t_.pf (by kernel_rfl))
/-! ### kinfolkref09_Put_out -/
def kinfolkref09_Put_out (l : List E_kinfolkref09_Field) (f : Int) (f2 : ByteArray) (f3 : ByteArray) : List E_kinfolkref09_Field → Res
  | r1 => ([(.one (.pv (.recs 3 (List.map E_kinfolkref09_Field.pv r1) false)))], [], [])
/-! ### kinfolkref09_Has_out -/
def kinfolkref09_Has_out (l : List E_kinfolkref09_Field) (f : Int) (f2 : ByteArray) (f3 : ByteArray) : Bool → Res
  | r1 => ([(.one (.pv (.bool r1)))], [], [])
/-! ### kinfolkref09_Has_L0 -/
def kinfolkref09_Has_L0_st (r : List E_kinfolkref09_Field) (n : Int) (n2 : Int) (s : ByteArray) (s2 : ByteArray) : Int → St
  | n3 => ⟨[(3, (.av (.one (.ref 0 0)))), (7, (.av (.one (.pv (.recs 3 (List.map E_kinfolkref09_Field.pv r) false))))), (8, (.av (.one (.pv (.int .i64 n))))), (9, (.av (.one (.pv (.int .i64 n3)))))], [(0, [(.pv (.int .i64 n2)), (.pv (.str s)), (.pv (.str s2))])], []⟩
def kinfolkref09_Has_L0_ex (r : List E_kinfolkref09_Field) (n : Int) (n2 : Int) (s : ByteArray) (s2 : ByteArray) : (Unit) ⊕ (Unit) → Ex × St
  | .inl _ => (.ret, ⟨[(4, (.av (.one (.pv (.bool true)))))], [], []⟩)
  | .inr _ => ((.exit 0), ⟨[], [(0, [(.pv (.int .i64 n2)), (.pv (.str s)), (.pv (.str s2))])], []⟩)
noncomputable def kinfolkref09_Has_L0_step (r : List E_kinfolkref09_Field) (n : Int) (n2 : Int) (s : ByteArray) (s2 : ByteArray) : Int → Option ((Int) ⊕ ((Unit) ⊕ (Unit)))
  | n3 =>
  bif (decide ((n3 : Int) < n)) then
    bif decide ((0 : Int) ≤ n3) && decide ((n3 : Int) < (((List.map E_kinfolkref09_Field.pv r)).length : Int)) then
    (r[(n3).toNat]?).bind fun e_ => match e_ with
    | .mk n4 s3 s4 =>
    bif ((decide ((n4 : Int) = n2)) && ((decide ((s3 : ByteArray) = s)) && ((decide ((s4 : ByteArray) = s2)) && true))) then
      some (.inr (.inl ()))
    else
      some (.inl (iadd .i64 n3 1))
    else none
  else
    some (.inr (.inr ()))
theorem kinfolkref09_Has_L0_ok (r : List E_kinfolkref09_Field) (n : Int) (n2 : Int) (s : ByteArray) (s2 : ByteArray) (n3 : Int) (z_ : (Int) ⊕ ((Unit) ⊕ (Unit))) (h : kinfolkref09_Has_L0_step r n n2 s s2 n3 = some z_) : RoundOk Tryd.prog cfg 41 0 (loopAt Tryd.prog 41 0) (kinfolkref09_Has_L0_st r n n2 s s2) (kinfolkref09_Has_L0_ex r n n2 s s2) n3 z_ := by
  rcases cond_of h with ⟨h1, h⟩ | ⟨h1, h⟩
  · obtain ⟨h2, h⟩ := need_of h
    obtain ⟨⟨n4, s3, s4⟩, h3, h⟩ := bind_of h
    rcases cond_of h with ⟨h4, h⟩ | ⟨h4, h⟩
    · have h := some_of h
      subst h
      have t_ := tT h1 <| tO h2 <| tE (.el [(.int .i64 n4), (.str s3), (.str s4)]) <| tO (el_of (f := E_kinfolkref09_Field.pv) h3) <| tT h4 <| tN
      exact ⟨t_.ev, (kinfolkref09_Has_L0_ex r n n2 s s2 (.inl ())).2, .k0 t_.pf (by kernel_rfl), .same (by kernel_rfl)⟩
    · have h := some_of h
      subst h
      have t_ := tT h1 <| tO h2 <| tE (.el [(.int .i64 n4), (.str s3), (.str s4)]) <| tO (el_of (f := E_kinfolkref09_Field.pv) h3) <| tF h4 <| tN
      exact ⟨t_.ev, kinfolkref09_Has_L0_st r n n2 s s2 (iadd .i64 n3 1), .k0 t_.pf (by kernel_rfl), .same (by kernel_rfl)⟩
  · have h := some_of h
    subst h
    have t_ := tF h1 <| tN
    exact ⟨t_.ev, ⟨[(10, (.av (.one (.pv (.bool false))))), (3, (.av (.one (.ref 0 0)))), (7, (.av (.one (.pv (.recs 3 (List.map E_kinfolkref09_Field.pv r) false))))), (8, (.av (.one (.pv (.int .i64 n))))), (9, (.av (.one (.pv (.int .i64 n3))))), (10, (.av (.one (.pv (.bool (decide ((n3 : Int) < n)))))))], [(0, [(.pv (.int .i64 n2)), (.pv (.str s)), (.pv (.str s2))])], []⟩, .k0 t_.pf (by kernel_rfl), ⟨trivial, ⟨⟨rfl, ⟨.eq rfl, .eq rfl, .eq rfl, trivial⟩⟩, trivial⟩, trivial⟩⟩
theorem kinfolkref09_Has_L0_runs (r : List E_kinfolkref09_Field) (n : Int) (n2 : Int) (s : ByteArray) (s2 : ByteArray) (s_ : Int) (r_ : (Unit) ⊕ (Unit)) (h : runL (kinfolkref09_Has_L0_step r n n2 s s2) s_ = some r_) : LRuns Tryd.prog (lEnv Tryd.prog cfg 41 0).nt 0 (.loop (loopAt Tryd.prog 41 0)) (kinfolkref09_Has_L0_st r n n2 s s2 s_) (kinfolkref09_Has_L0_ex r n n2 s s2 r_).1 (kinfolkref09_Has_L0_ex r n n2 s s2 r_).2 :=
  loop_run h (kinfolkref09_Has_L0_ok r n n2 s s2) (by intro r_; rcases r_ with _ | _ <;> simp [kinfolkref09_Has_L0_ex])
/-! ### kinfolkref09_Has -/
noncomputable def kinfolkref09_Has (l : List E_kinfolkref09_Field) (f : Int) (f2 : ByteArray) (f3 : ByteArray) : Option (Bool) :=
  (runL (kinfolkref09_Has_L0_step l (((List.map E_kinfolkref09_Field.pv l)).length : Int) f f2 f3) 0).bind fun z_ => match z_ with
  | .inl _ =>
    some true
  | .inr _ =>
    some false
theorem kinfolkref09_Has_runs (l : List E_kinfolkref09_Field) (f : Int) (f2 : ByteArray) (f3 : ByteArray) (r_ : Bool) (h : kinfolkref09_Has l f f2 f3 = some r_) : Runs Tryd.prog 41 [(.one (.pv (.recs 3 (List.map E_kinfolkref09_Field.pv l) false))), (.agg [(.pv (.int .i64 f)), (.pv (.str f2)), (.pv (.str f3))])] [] [] (kinfolkref09_Has_out l f f2 f3 r_) := by
  unfold kinfolkref09_Has at h
  obtain ⟨z_, h1, h⟩ := bind_of h
  rcases z_ with _ | _
  · have h := some_of h
    subst h
    have t_ := tL (kinfolkref09_Has_L0_runs l (((List.map E_kinfolkref09_Field.pv l)).length : Int) f f2 f3 _ _ h1) <| tN
    exact runs_of (C := cfg) (objs := []) (sc := t_.ev) (.k0 t_.pf (by kernel_rfl))
  · have h := some_of h
    subst h
    have t_ := tL (kinfolkref09_Has_L0_runs l (((List.map E_kinfolkref09_Field.pv l)).length : Int) f f2 f3 _ _ h1) <| tN
    exact runs_of (C := cfg) (objs := []) (sc := t_.ev) (.k0 t_.pf (by kernel_rfl))
/-! ### kinfolkref09_Less_out -/
def kinfolkref09_Less_out (a : Int) (a2 : ByteArray) (a3 : ByteArray) (b : Int) (b2 : ByteArray) (b3 : ByteArray) : Bool → Res
  | r1 => ([(.one (.pv (.bool r1)))], [], [])
/-! ### kinfolkref09_before_out -/
def kinfolkref09_before_out (a : ByteArray) (b : ByteArray) : Bool → Res
  | r1 => ([(.one (.pv (.bool r1)))], [], [])
/-! ### kinfolkref09_before_L0 -/
def kinfolkref09_before_L0_st (a : ByteArray) (b : ByteArray) : Int → St
  | i => ⟨[(0, (.av (.one (.pv (.str a))))), (1, (.av (.one (.pv (.str b))))), (5, (.av (.one (.pv (.int .i64 i)))))], [], []⟩
def kinfolkref09_before_L0_ex (a : ByteArray) (b : ByteArray) : (Bool) ⊕ (Unit) → Ex × St
  | .inl r1 => (.ret, ⟨[(4, (.av (.one (.pv (.bool r1)))))], [], []⟩)
  | .inr _ => ((.exit 0), ⟨[(0, (.av (.one (.pv (.str a))))), (1, (.av (.one (.pv (.str b)))))], [], []⟩)
noncomputable def kinfolkref09_before_L0_step (a : ByteArray) (b : ByteArray) : Int → Option ((Int) ⊕ ((Bool) ⊕ (Unit)))
  | i =>
  bif (decide ((i : Int) < (a.size : Int))) then
    bif (decide ((i : Int) < (b.size : Int))) then
      bif decide ((0 : Int) ≤ i) && decide ((i : Int) < (a.size : Int)) then
      bif decide ((0 : Int) ≤ i) && decide ((i : Int) < (b.size : Int)) then
      bif (decide ((((a.data.getD (i).toNat 0).toNat : Int) : Int) = ((b.data.getD (i).toNat 0).toNat : Int))) then
        some (.inl (iadd .i64 i 1))
      else
        some (.inr (.inl (decide ((((a.data.getD (i).toNat 0).toNat : Int) : Int) < ((b.data.getD (i).toNat 0).toNat : Int)))))
      else none
      else none
    else
      some (.inr (.inr ()))
  else
    some (.inr (.inr ()))
theorem kinfolkref09_before_L0_ok (a : ByteArray) (b : ByteArray) (i : Int) (z_ : (Int) ⊕ ((Bool) ⊕ (Unit))) (h : kinfolkref09_before_L0_step a b i = some z_) : RoundOk Tryd.prog cfg 38 0 (loopAt Tryd.prog 38 0) (kinfolkref09_before_L0_st a b) (kinfolkref09_before_L0_ex a b) i z_ := by
  rcases cond_of h with ⟨h1, h⟩ | ⟨h1, h⟩
  · rcases cond_of h with ⟨h2, h⟩ | ⟨h2, h⟩
    · obtain ⟨h3, h⟩ := need_of h
      obtain ⟨h4, h⟩ := need_of h
      rcases cond_of h with ⟨h5, h⟩ | ⟨h5, h⟩
      · have h := some_of h
        subst h
        have t_ := tT h1 <| tT h2 <| tO h3 <| tO h4 <| tF (not_of2 h5) <| tN
        exact ⟨t_.ev, kinfolkref09_before_L0_st a b (iadd .i64 i 1), .k0 t_.pf (by kernel_rfl), .same (by kernel_rfl)⟩
      · have h := some_of h
        subst h
        have t_ := tT h1 <| tT h2 <| tO h3 <| tO h4 <| tT (not_of h5) <| tO h3 <| tO h4 <| tN
        exact ⟨t_.ev, (kinfolkref09_before_L0_ex a b (.inl (decide ((((a.data.getD (i).toNat 0).toNat : Int) : Int) < ((b.data.getD (i).toNat 0).toNat : Int))))).2, .k0 t_.pf (by kernel_rfl), .same (by kernel_rfl)⟩
    · have h := some_of h
      subst h
      have t_ := tT h1 <| tF h2 <| tN
      exact ⟨t_.ev, ⟨[(15, (.av (.one (.pv (.bool false))))), (0, (.av (.one (.pv (.str a))))), (1, (.av (.one (.pv (.str b))))), (5, (.av (.one (.pv (.int .i64 i))))), (15, (.av (.one (.pv (.bool (decide ((i : Int) < (b.size : Int))))))))], [], []⟩, .k0 t_.pf (by kernel_rfl), ⟨⟨⟨_, rfl, .eq rfl⟩, ⟨_, rfl, .eq rfl⟩, trivial⟩, trivial, trivial⟩⟩
  · have h := some_of h
    subst h
    have t_ := tF h1 <| tF (rfl : false = false) <| tN
    exact ⟨t_.ev, ⟨[(15, (.av (.one (.pv (.bool false))))), (0, (.av (.one (.pv (.str a))))), (1, (.av (.one (.pv (.str b))))), (5, (.av (.one (.pv (.int .i64 i))))), (15, (.av (.one (.pv (.bool false)))))], [], []⟩, .k0 t_.pf (by kernel_rfl), ⟨⟨⟨_, rfl, .eq rfl⟩, ⟨_, rfl, .eq rfl⟩, trivial⟩, trivial, trivial⟩⟩
theorem kinfolkref09_before_L0_runs (a : ByteArray) (b : ByteArray) (s_ : Int) (r_ : (Bool) ⊕ (Unit)) (h : runL (kinfolkref09_before_L0_step a b) s_ = some r_) : LRuns Tryd.prog (lEnv Tryd.prog cfg 38 0).nt 0 (.loop (loopAt Tryd.prog 38 0)) (kinfolkref09_before_L0_st a b s_) (kinfolkref09_before_L0_ex a b r_).1 (kinfolkref09_before_L0_ex a b r_).2 :=
  loop_run h (kinfolkref09_before_L0_ok a b) (by intro r_; rcases r_ with r1 | _ <;> simp [kinfolkref09_before_L0_ex])
/-! ### kinfolkref09_before -/
noncomputable def kinfolkref09_before (a : ByteArray) (b : ByteArray) : Option (Bool) :=
  (runL (kinfolkref09_before_L0_step a b) 0).bind fun z_ => match z_ with
  | .inl b2 =>
    some b2
  | .inr _ =>
    some (decide (((a.size : Int) : Int) < (b.size : Int)))
theorem kinfolkref09_before_runs (a : ByteArray) (b : ByteArray) (r_ : Bool) (h : kinfolkref09_before a b = some r_) : Runs Tryd.prog 38 [(.one (.pv (.str a))), (.one (.pv (.str b)))] [] [] (kinfolkref09_before_out a b r_) := by
  unfold kinfolkref09_before at h
  obtain ⟨z_, h1, h⟩ := bind_of h
  rcases z_ with b2 | _
  · have h := some_of h
    subst h
    have t_ := tL (kinfolkref09_before_L0_runs a b _ _ h1) <| tN
    exact runs_of (C := cfg) (objs := []) (sc := t_.ev) (.k0 t_.pf (by kernel_rfl))
  · have h := some_of h
    subst h
    have t_ := tL (kinfolkref09_before_L0_runs a b _ _ h1) <| tN
    exact runs_of (C := cfg) (objs := []) (sc := t_.ev) (.k0 t_.pf (by kernel_rfl))
/-! ### kinfolkref09_Less -/
noncomputable def kinfolkref09_Less (a : Int) (a2 : ByteArray) (a3 : ByteArray) (b : Int) (b2 : ByteArray) (b3 : ByteArray) : Option (Bool) :=
  bif (decide ((a : Int) = b)) then
    bif decide (a2 = b2) then
      (kinfolkref09_before a3 b3).bind fun b4 =>
      some b4
    else
      (kinfolkref09_before a2 b2).bind fun b4 =>
      some b4
  else
    some (decide ((a : Int) < b))
theorem kinfolkref09_Less_runs (a : Int) (a2 : ByteArray) (a3 : ByteArray) (b : Int) (b2 : ByteArray) (b3 : ByteArray) (r_ : Bool) (h : kinfolkref09_Less a a2 a3 b b2 b3 = some r_) : Runs Tryd.prog 23 [(.agg [(.pv (.int .i64 a)), (.pv (.str a2)), (.pv (.str a3))]), (.agg [(.pv (.int .i64 b)), (.pv (.str b2)), (.pv (.str b3))])] [] [] (kinfolkref09_Less_out a a2 a3 b b2 b3 r_) := by
  unfold kinfolkref09_Less at h
  rcases cond_of h with ⟨h1, h⟩ | ⟨h1, h⟩
  · rcases cond_of h with ⟨h2, h⟩ | ⟨h2, h⟩
    · obtain ⟨b4, h3, h⟩ := bind_of h
      have h := some_of h
      subst h
      have t_ := tF (not_of2 h1) <| tF (not_of2 h2) <| tR (kinfolkref09_before_runs a3 b3 _ h3) <| tN
      exact runs_of (C := cfg) (objs := []) (sc := t_.ev) (.k0 t_.pf (by kernel_rfl))
    · obtain ⟨b4, h3, h⟩ := bind_of h
      have h := some_of h
      subst h
      have t_ := tF (not_of2 h1) <| tT (not_of h2) <| tR (kinfolkref09_before_runs a2 b2 _ h3) <| tN
      exact runs_of (C := cfg) (objs := []) (sc := t_.ev) (.k0 t_.pf (by kernel_rfl))
  · have h := some_of h
    subst h
    have t_ := tT (not_of h1) <| tN
    exact runs_of (C := cfg) (objs := []) (sc := t_.ev) (.k0 t_.pf (by kernel_rfl))
/-! ### kinfolkref09_Put_L0_2 -/
def kinfolkref09_Put_L0_2_st (r : List E_kinfolkref09_Field) (n : Int) (n2 : Int) (s : ByteArray) (s2 : ByteArray) : Bool × Int × List E_kinfolkref09_Field → St
  | (placed, n3, r2) => ⟨[(3, (.av (.one (.ref 0 0)))), (5, (.av (.one (.own 0 0 ((List.map E_kinfolkref09_Field.pv r2)).length false)))), (6, (.av (.one (.pv (.bool placed))))), (13, (.av (.one (.pv (.recs 3 (List.map E_kinfolkref09_Field.pv r) false))))), (14, (.av (.one (.pv (.int .i64 n))))), (15, (.av (.one (.pv (.int .i64 n3)))))], [(0, [(.pv (.int .i64 n2)), (.pv (.str s)), (.pv (.str s2))])], [(0, (.live (.recs 3 (List.map E_kinfolkref09_Field.pv r2))))]⟩
def kinfolkref09_Put_L0_2_ex (r : List E_kinfolkref09_Field) (n : Int) (n2 : Int) (s : ByteArray) (s2 : ByteArray) : Bool × List E_kinfolkref09_Field → Ex × St
  | (r1, r2) => ((.exit 0), ⟨[(3, (.av (.one (.ref 0 0)))), (5, (.av (.one (.own 0 0 ((List.map E_kinfolkref09_Field.pv r2)).length false)))), (6, (.av (.one (.pv (.bool r1)))))], [(0, [(.pv (.int .i64 n2)), (.pv (.str s)), (.pv (.str s2))])], [(0, (.live (.recs 3 (List.map E_kinfolkref09_Field.pv r2))))]⟩)
noncomputable def kinfolkref09_Put_L0_2_step (r : List E_kinfolkref09_Field) (n : Int) (n2 : Int) (s : ByteArray) (s2 : ByteArray) : Bool × Int × List E_kinfolkref09_Field → Option ((Bool × Int × List E_kinfolkref09_Field) ⊕ (Bool × List E_kinfolkref09_Field))
  | (placed, n3, r2) =>
  bif (decide ((n3 : Int) < n)) then
    bif decide ((0 : Int) ≤ n3) && decide ((n3 : Int) < (((List.map E_kinfolkref09_Field.pv r)).length : Int)) then
    (r[(n3).toNat]?).bind fun e_ => match e_ with
    | .mk n4 s3 s4 =>
    bif placed then
      bif fits (((List.map E_kinfolkref09_Field.pv r2) ++ ([[(.int .i64 n4), (.str s3), (.str s4)]] : List (List PV)))).length then
      some (.inl (placed, (iadd .i64 n3 1), (r2 ++ [(E_kinfolkref09_Field.mk n4 s3 s4)])))
      else none
    else
      (kinfolkref09_Less n2 s s2 n4 s3 s4).bind fun b =>
      bif b then
        bif fits (((List.map E_kinfolkref09_Field.pv r2) ++ ([[(.int .i64 n2), (.str s), (.str s2)]] : List (List PV)))).length then
        bif fits ((((List.map E_kinfolkref09_Field.pv r2) ++ ([[(.int .i64 n2), (.str s), (.str s2)]] : List (List PV))) ++ ([[(.int .i64 n4), (.str s3), (.str s4)]] : List (List PV)))).length then
        some (.inl (true, (iadd .i64 n3 1), ((r2 ++ [(E_kinfolkref09_Field.mk n2 s s2)]) ++ [(E_kinfolkref09_Field.mk n4 s3 s4)])))
        else none
        else none
      else
        bif fits (((List.map E_kinfolkref09_Field.pv r2) ++ ([[(.int .i64 n4), (.str s3), (.str s4)]] : List (List PV)))).length then
        some (.inl (placed, (iadd .i64 n3 1), (r2 ++ [(E_kinfolkref09_Field.mk n4 s3 s4)])))
        else none
    else none
  else
    some (.inr (placed, r2))
theorem kinfolkref09_Put_L0_2_ok (r : List E_kinfolkref09_Field) (n : Int) (n2 : Int) (s : ByteArray) (s2 : ByteArray) (s_ : Bool × Int × List E_kinfolkref09_Field) (z_ : (Bool × Int × List E_kinfolkref09_Field) ⊕ (Bool × List E_kinfolkref09_Field)) (h : kinfolkref09_Put_L0_2_step r n n2 s s2 s_ = some z_) : RoundOk Tryd.prog cfg 25 0 (loopAt Tryd.prog 25 0) (kinfolkref09_Put_L0_2_st r n n2 s s2) (kinfolkref09_Put_L0_2_ex r n n2 s s2) s_ z_ := by
  rcases s_ with ⟨placed, n3, r2⟩
  rcases cond_of h with ⟨h1, h⟩ | ⟨h1, h⟩
  · obtain ⟨h2, h⟩ := need_of h
    obtain ⟨⟨n4, s3, s4⟩, h3, h⟩ := bind_of h
    rcases cond_of h with ⟨h4, h⟩ | ⟨h4, h⟩
    · obtain ⟨h5, h⟩ := need_of h
      have h := some_of h
      subst h
      have t_ := tT h1 <| tO h2 <| tE (.el [(.int .i64 n4), (.str s3), (.str s4)]) <| tO (el_of (f := E_kinfolkref09_Field.pv) h3) <| tF (not_of2 h4) <| tF (rfl : false = false) <| tO (show (Nat.beq ((List.map E_kinfolkref09_Field.pv r2)).length ((List.map E_kinfolkref09_Field.pv r2)).length) = true from Nat.beq_refl _) <| tO h5 <| tN
      exact ⟨t_.ev, ⟨[(3, (.av (.one (.ref 0 0)))), (5, (.av (.one (.own 0 0 (((List.map E_kinfolkref09_Field.pv r2) ++ ([[(.int .i64 n4), (.str s3), (.str s4)]] : List (List PV)))).length false)))), (6, (.av (.one (.pv (.bool placed))))), (13, (.av (.one (.pv (.recs 3 (List.map E_kinfolkref09_Field.pv r) false))))), (14, (.av (.one (.pv (.int .i64 n))))), (15, (.av (.one (.pv (.int .i64 (iadd .i64 n3 1))))))], [(0, [(.pv (.int .i64 n2)), (.pv (.str s)), (.pv (.str s2))])], [(0, (.live (.recs 3 ((List.map E_kinfolkref09_Field.pv r2) ++ ([[(.int .i64 n4), (.str s3), (.str s4)]] : List (List PV))))))]⟩, .k0 t_.pf (by kernel_rfl), ⟨⟨⟨_, rfl, .eq rfl⟩, ⟨_, rfl, .own (by first | rfl | (simp only [List.take_length]; done) | (simp only [List.take_length, List.length_append, List.drop_zero, List.map_append, List.map_take, List.map_drop, List.map_replicate, List.map_cons, List.map_nil, List.append_nil, List.nil_append, E_card_Field.pv, E_L_card_Field.pv, E_kinfolkref09_Field.pv, E_card_Field.upd, E_L_card_Field.upd, E_kinfolkref09_Field.upd]; done) | (simp; done))⟩, ⟨_, rfl, .eq rfl⟩, ⟨_, rfl, .eq rfl⟩, ⟨_, rfl, .eq rfl⟩, ⟨_, rfl, .eq rfl⟩, trivial⟩, ⟨⟨rfl, ⟨.eq rfl, .eq rfl, .eq rfl, trivial⟩⟩, trivial⟩, ⟨⟨rfl, .recs (.app (.eq rfl) (.cons (.cons (.eq rfl) (.cons (.eq rfl) (.cons (.eq rfl) (.nil)))) (.nil)))⟩, trivial⟩⟩⟩
    · obtain ⟨b, h5, h⟩ := bind_of h
      rcases cond_of h with ⟨h6, h⟩ | ⟨h6, h⟩
      · obtain ⟨h7, h⟩ := need_of h
        obtain ⟨h8, h⟩ := need_of h
        have h := some_of h
        subst h
        have t_ := tT h1 <| tO h2 <| tE (.el [(.int .i64 n4), (.str s3), (.str s4)]) <| tO (el_of (f := E_kinfolkref09_Field.pv) h3) <| tT (not_of h4) <| tR (kinfolkref09_Less_runs n2 s s2 n4 s3 s4 _ h5) <| tT h6 <| tO (show (Nat.beq ((List.map E_kinfolkref09_Field.pv r2)).length ((List.map E_kinfolkref09_Field.pv r2)).length) = true from Nat.beq_refl _) <| tO h7 <| tO (show (Nat.beq (((List.map E_kinfolkref09_Field.pv r2) ++ ([[(.int .i64 n2), (.str s), (.str s2)]] : List (List PV)))).length (((List.map E_kinfolkref09_Field.pv r2) ++ ([[(.int .i64 n2), (.str s), (.str s2)]] : List (List PV)))).length) = true from Nat.beq_refl _) <| tO h8 <| tN
        exact ⟨t_.ev, ⟨[(3, (.av (.one (.ref 0 0)))), (5, (.av (.one (.own 0 0 ((((List.map E_kinfolkref09_Field.pv r2) ++ ([[(.int .i64 n2), (.str s), (.str s2)]] : List (List PV))) ++ ([[(.int .i64 n4), (.str s3), (.str s4)]] : List (List PV)))).length false)))), (6, (.av (.one (.pv (.bool true))))), (13, (.av (.one (.pv (.recs 3 (List.map E_kinfolkref09_Field.pv r) false))))), (14, (.av (.one (.pv (.int .i64 n))))), (15, (.av (.one (.pv (.int .i64 (iadd .i64 n3 1))))))], [(0, [(.pv (.int .i64 n2)), (.pv (.str s)), (.pv (.str s2))])], [(0, (.live (.recs 3 (((List.map E_kinfolkref09_Field.pv r2) ++ ([[(.int .i64 n2), (.str s), (.str s2)]] : List (List PV))) ++ ([[(.int .i64 n4), (.str s3), (.str s4)]] : List (List PV))))))]⟩, .k0 t_.pf (by kernel_rfl), ⟨⟨⟨_, rfl, .eq rfl⟩, ⟨_, rfl, .own (by first | rfl | (simp only [List.take_length]; done) | (simp only [List.take_length, List.length_append, List.drop_zero, List.map_append, List.map_take, List.map_drop, List.map_replicate, List.map_cons, List.map_nil, List.append_nil, List.nil_append, E_card_Field.pv, E_L_card_Field.pv, E_kinfolkref09_Field.pv, E_card_Field.upd, E_L_card_Field.upd, E_kinfolkref09_Field.upd]; done) | (simp; done))⟩, ⟨_, rfl, .eq rfl⟩, ⟨_, rfl, .eq rfl⟩, ⟨_, rfl, .eq rfl⟩, ⟨_, rfl, .eq rfl⟩, trivial⟩, ⟨⟨rfl, ⟨.eq rfl, .eq rfl, .eq rfl, trivial⟩⟩, trivial⟩, ⟨⟨rfl, .recs (.app (.app (.eq rfl) (.cons (.cons (.eq rfl) (.cons (.eq rfl) (.cons (.eq rfl) (.nil)))) (.nil))) (.cons (.cons (.eq rfl) (.cons (.eq rfl) (.cons (.eq rfl) (.nil)))) (.nil)))⟩, trivial⟩⟩⟩
      · obtain ⟨h7, h⟩ := need_of h
        have h := some_of h
        subst h
        have t_ := tT h1 <| tO h2 <| tE (.el [(.int .i64 n4), (.str s3), (.str s4)]) <| tO (el_of (f := E_kinfolkref09_Field.pv) h3) <| tT (not_of h4) <| tR (kinfolkref09_Less_runs n2 s s2 n4 s3 s4 _ h5) <| tF h6 <| tO (show (Nat.beq ((List.map E_kinfolkref09_Field.pv r2)).length ((List.map E_kinfolkref09_Field.pv r2)).length) = true from Nat.beq_refl _) <| tO h7 <| tN
        exact ⟨t_.ev, ⟨[(3, (.av (.one (.ref 0 0)))), (5, (.av (.one (.own 0 0 (((List.map E_kinfolkref09_Field.pv r2) ++ ([[(.int .i64 n4), (.str s3), (.str s4)]] : List (List PV)))).length false)))), (6, (.av (.one (.pv (.bool placed))))), (13, (.av (.one (.pv (.recs 3 (List.map E_kinfolkref09_Field.pv r) false))))), (14, (.av (.one (.pv (.int .i64 n))))), (15, (.av (.one (.pv (.int .i64 (iadd .i64 n3 1))))))], [(0, [(.pv (.int .i64 n2)), (.pv (.str s)), (.pv (.str s2))])], [(0, (.live (.recs 3 ((List.map E_kinfolkref09_Field.pv r2) ++ ([[(.int .i64 n4), (.str s3), (.str s4)]] : List (List PV))))))]⟩, .k0 t_.pf (by kernel_rfl), ⟨⟨⟨_, rfl, .eq rfl⟩, ⟨_, rfl, .own (by first | rfl | (simp only [List.take_length]; done) | (simp only [List.take_length, List.length_append, List.drop_zero, List.map_append, List.map_take, List.map_drop, List.map_replicate, List.map_cons, List.map_nil, List.append_nil, List.nil_append, E_card_Field.pv, E_L_card_Field.pv, E_kinfolkref09_Field.pv, E_card_Field.upd, E_L_card_Field.upd, E_kinfolkref09_Field.upd]; done) | (simp; done))⟩, ⟨_, rfl, .eq rfl⟩, ⟨_, rfl, .eq rfl⟩, ⟨_, rfl, .eq rfl⟩, ⟨_, rfl, .eq rfl⟩, trivial⟩, ⟨⟨rfl, ⟨.eq rfl, .eq rfl, .eq rfl, trivial⟩⟩, trivial⟩, ⟨⟨rfl, .recs (.app (.eq rfl) (.cons (.cons (.eq rfl) (.cons (.eq rfl) (.cons (.eq rfl) (.nil)))) (.nil)))⟩, trivial⟩⟩⟩
  · have h := some_of h
    subst h
    have t_ := tF h1 <| tN
    exact ⟨t_.ev, ⟨[(16, (.av (.one (.pv (.bool false))))), (3, (.av (.one (.ref 0 0)))), (5, (.av (.one (.own 0 0 ((List.map E_kinfolkref09_Field.pv r2)).length false)))), (6, (.av (.one (.pv (.bool placed))))), (13, (.av (.one (.pv (.recs 3 (List.map E_kinfolkref09_Field.pv r) false))))), (14, (.av (.one (.pv (.int .i64 n))))), (15, (.av (.one (.pv (.int .i64 n3))))), (16, (.av (.one (.pv (.bool (decide ((n3 : Int) < n)))))))], [(0, [(.pv (.int .i64 n2)), (.pv (.str s)), (.pv (.str s2))])], [(0, (.live (.recs 3 (List.map E_kinfolkref09_Field.pv r2))))]⟩, .k0 t_.pf (by kernel_rfl), ⟨⟨⟨_, rfl, .eq rfl⟩, ⟨_, rfl, .eq rfl⟩, ⟨_, rfl, .eq rfl⟩, trivial⟩, ⟨⟨rfl, ⟨.eq rfl, .eq rfl, .eq rfl, trivial⟩⟩, trivial⟩, ⟨⟨rfl, .eq rfl⟩, trivial⟩⟩⟩
theorem kinfolkref09_Put_L0_2_runs (r : List E_kinfolkref09_Field) (n : Int) (n2 : Int) (s : ByteArray) (s2 : ByteArray) (s_ : Bool × Int × List E_kinfolkref09_Field) (r_ : Bool × List E_kinfolkref09_Field) (h : runL (kinfolkref09_Put_L0_2_step r n n2 s s2) s_ = some r_) : LRuns Tryd.prog (lEnv Tryd.prog cfg 25 0).nt 0 (.loop (loopAt Tryd.prog 25 0)) (kinfolkref09_Put_L0_2_st r n n2 s s2 s_) (kinfolkref09_Put_L0_2_ex r n n2 s s2 r_).1 (kinfolkref09_Put_L0_2_ex r n n2 s s2 r_).2 :=
  loop_run h (kinfolkref09_Put_L0_2_ok r n n2 s s2) (by intro r_; rcases r_ with ⟨r1, r2⟩ <;> simp [kinfolkref09_Put_L0_2_ex])
/-! ### kinfolkref09_Put -/
noncomputable def kinfolkref09_Put (l : List E_kinfolkref09_Field) (f : Int) (f2 : ByteArray) (f3 : ByteArray) : Option (List E_kinfolkref09_Field) :=
  (kinfolkref09_Has l f f2 f3).bind fun b =>
  bif b then
    some l
  else
    (runL (kinfolkref09_Put_L0_2_step l (((List.map E_kinfolkref09_Field.pv l)).length : Int) f f2 f3) (false, 0, [])).bind fun (b2, r) =>
    bif b2 then
      some (List.take ((List.map E_kinfolkref09_Field.pv r)).length r)
    else
      bif fits (((List.map E_kinfolkref09_Field.pv r) ++ ([[(.int .i64 f), (.str f2), (.str f3)]] : List (List PV)))).length then
      some (List.take (((List.map E_kinfolkref09_Field.pv r) ++ ([[(.int .i64 f), (.str f2), (.str f3)]] : List (List PV)))).length (r ++ [(E_kinfolkref09_Field.mk f f2 f3)]))
      else none
theorem kinfolkref09_Put_runs (l : List E_kinfolkref09_Field) (f : Int) (f2 : ByteArray) (f3 : ByteArray) (r_ : List E_kinfolkref09_Field) (h : kinfolkref09_Put l f f2 f3 = some r_) : Runs Tryd.prog 25 [(.one (.pv (.recs 3 (List.map E_kinfolkref09_Field.pv l) false))), (.agg [(.pv (.int .i64 f)), (.pv (.str f2)), (.pv (.str f3))])] [] [] (kinfolkref09_Put_out l f f2 f3 r_) := by
  unfold kinfolkref09_Put at h
  obtain ⟨b, h1, h⟩ := bind_of h
  rcases cond_of h with ⟨h2, h⟩ | ⟨h2, h⟩
  · have h := some_of h
    subst h
    have t_ := tR (kinfolkref09_Has_runs l f f2 f3 _ h1) <| tT h2 <| tN
    exact runs_of (C := cfg) (objs := []) (sc := t_.ev) (.k0 t_.pf (by kernel_rfl))
  · obtain ⟨⟨b2, r⟩, h3, h⟩ := bind_of h
    have q_3 := (LRuns.coe (s0 := ⟨[(3, (.av (.one (.ref 0 0)))), (5, (.av (.one (.own 0 0 0 false)))), (6, (.av (.one (.pv (.bool false))))), (13, (.av (.one (.pv (.recs 3 (List.map E_kinfolkref09_Field.pv l) false))))), (14, (.av (.one (.pv (.int .i64 (((List.map E_kinfolkref09_Field.pv l)).length : Int)))))), (15, (.av (.one (.pv (.int .i64 0)))))], [(0, [(.pv (.int .i64 f)), (.pv (.str f2)), (.pv (.str f3))])], [(0, (.live (.recs 3 [])))]⟩) (kinfolkref09_Put_L0_2_runs l (((List.map E_kinfolkref09_Field.pv l)).length : Int) f f2 f3 _ _ h3) ⟨⟨⟨_, rfl, .eq rfl⟩, ⟨_, rfl, .own (by first | rfl | (simp only [List.take_length]; done) | (simp only [List.take_length, List.length_append, List.drop_zero, List.map_append, List.map_take, List.map_drop, List.map_replicate, List.map_cons, List.map_nil, List.append_nil, List.nil_append, E_card_Field.pv, E_L_card_Field.pv, E_kinfolkref09_Field.pv, E_card_Field.upd, E_L_card_Field.upd, E_kinfolkref09_Field.upd]; done) | (simp; done))⟩, ⟨_, rfl, .eq rfl⟩, ⟨_, rfl, .eq rfl⟩, ⟨_, rfl, .eq rfl⟩, ⟨_, rfl, .eq rfl⟩, trivial⟩, ⟨⟨rfl, ⟨.eq rfl, .eq rfl, .eq rfl, trivial⟩⟩, trivial⟩, ⟨⟨rfl, .recs (.nil)⟩, trivial⟩⟩)
    rcases cond_of h with ⟨h4, h⟩ | ⟨h4, h⟩
    · have h := some_of h
      subst h
      have t_ := tR (kinfolkref09_Has_runs l f f2 f3 _ h1) <| tF h2 <| tL q_3 <| tF (not_of2 h4) <| tN
      have e_ : Runs Tryd.prog 25 [(.one (.pv (.recs 3 (List.map E_kinfolkref09_Field.pv l) false))), (.agg [(.pv (.int .i64 f)), (.pv (.str f2)), (.pv (.str f3))])] [] [] ([(.one (.own 0 0 ((List.map E_kinfolkref09_Field.pv r)).length false))], [], [(.recs 3 (List.map E_kinfolkref09_Field.pv r))]) := runs_of (C := cfg) (objs := []) (sc := t_.ev) (.k0 t_.pf (by kernel_rfl))
      have e_ := e_.shut (res' := ([(.one (.pv (.recs 3 (List.take ((List.map E_kinfolkref09_Field.pv r)).length (List.map E_kinfolkref09_Field.pv r)) false)))], [], [])) [0] (by kernel_rfl)
      exact e_.out ⟨.pv (.recsT (.eq (by first | rfl | (simp only [List.take_length]; done) | (simp only [List.take_length, List.length_append, List.drop_zero, List.map_append, List.map_take, List.map_drop, List.map_replicate, List.map_cons, List.map_nil, List.append_nil, List.nil_append, E_card_Field.pv, E_L_card_Field.pv, E_kinfolkref09_Field.pv, E_card_Field.upd, E_L_card_Field.upd, E_kinfolkref09_Field.upd]; done) | (simp; done)))), trivial⟩ trivial trivial rfl
    · obtain ⟨h5, h⟩ := need_of h
      have h := some_of h
      subst h
      have t_ := tR (kinfolkref09_Has_runs l f f2 f3 _ h1) <| tF h2 <| tL q_3 <| tT (not_of h4) <| tO (show (Nat.beq ((List.map E_kinfolkref09_Field.pv r)).length ((List.map E_kinfolkref09_Field.pv r)).length) = true from Nat.beq_refl _) <| tO h5 <| tN
      have e_ : Runs Tryd.prog 25 [(.one (.pv (.recs 3 (List.map E_kinfolkref09_Field.pv l) false))), (.agg [(.pv (.int .i64 f)), (.pv (.str f2)), (.pv (.str f3))])] [] [] ([(.one (.own 0 0 (((List.map E_kinfolkref09_Field.pv r) ++ ([[(.int .i64 f), (.str f2), (.str f3)]] : List (List PV)))).length false))], [], [(.recs 3 ((List.map E_kinfolkref09_Field.pv r) ++ ([[(.int .i64 f), (.str f2), (.str f3)]] : List (List PV))))]) := runs_of (C := cfg) (objs := []) (sc := t_.ev) (.k0 t_.pf (by kernel_rfl))
      have e_ := e_.shut (res' := ([(.one (.pv (.recs 3 (List.take (((List.map E_kinfolkref09_Field.pv r) ++ ([[(.int .i64 f), (.str f2), (.str f3)]] : List (List PV)))).length ((List.map E_kinfolkref09_Field.pv r) ++ ([[(.int .i64 f), (.str f2), (.str f3)]] : List (List PV)))) false)))], [], [])) [0] (by kernel_rfl)
      exact e_.out ⟨.pv (.recsT (.eq (by first | rfl | (simp only [List.take_length]; done) | (simp only [List.take_length, List.length_append, List.drop_zero, List.map_append, List.map_take, List.map_drop, List.map_replicate, List.map_cons, List.map_nil, List.append_nil, List.nil_append, E_card_Field.pv, E_L_card_Field.pv, E_kinfolkref09_Field.pv, E_card_Field.upd, E_L_card_Field.upd, E_kinfolkref09_Field.upd]; done) | (simp; done)))), trivial⟩ trivial trivial rfl
/-! ### kinfolkref09_Make_L0 -/
def kinfolkref09_Make_L0_st (r : List E_kinfolkref09_Field) (n : Int) : (Unit) ⊕ (List E_kinfolkref09_Field × Int) → St
  | .inl _ => ⟨[(4, (.av (.one (.pv .nils)))), (8, (.av (.one (.pv (.recs 3 (List.map E_kinfolkref09_Field.pv r) false))))), (9, (.av (.one (.pv (.int .i64 n))))), (10, (.av (.one (.pv (.int .i64 0)))))], [], []⟩
  | .inr (r2, n2) => ⟨[(4, (.av (.one (.pv (.recs 3 (List.map E_kinfolkref09_Field.pv r2) false))))), (8, (.av (.one (.pv (.recs 3 (List.map E_kinfolkref09_Field.pv r) false))))), (9, (.av (.one (.pv (.int .i64 n))))), (10, (.av (.one (.pv (.int .i64 n2)))))], [], []⟩
def kinfolkref09_Make_L0_ex (r : List E_kinfolkref09_Field) (n : Int) : (Int) ⊕ ((Unit) ⊕ (List E_kinfolkref09_Field)) → Ex × St
  | .inl r1 => (.ret, ⟨[(2, (.av (.one (.pv .nils)))), (3, (.av (.one (.pv (.int .i64 r1)))))], [], []⟩)
  | .inr (.inl _) => ((.exit 0), ⟨[(4, (.av (.one (.pv .nils))))], [], []⟩)
  | .inr (.inr r1) => ((.exit 0), ⟨[(4, (.av (.one (.pv (.recs 3 (List.map E_kinfolkref09_Field.pv r1) false)))))], [], []⟩)
noncomputable def kinfolkref09_Make_L0_step (N : Nat) (r : List E_kinfolkref09_Field) (n : Int) : (Unit) ⊕ (List E_kinfolkref09_Field × Int) → Option (((Unit) ⊕ (List E_kinfolkref09_Field × Int)) ⊕ ((Int) ⊕ ((Unit) ⊕ (List E_kinfolkref09_Field))))
  | .inl _ =>
    bif (decide ((0 : Int) < n)) then
      bif decide ((0 : Int) ≤ 0) && decide ((0 : Int) < (((List.map E_kinfolkref09_Field.pv r)).length : Int)) then
      (r[0]?).bind fun e_ => match e_ with
      | .mk n2 s s2 =>
      (kinfolkref09_Right N n2 s s2).bind fun n3 =>
      bif (decide ((n3 : Int) = 0)) then
        (kinfolkref09_Put [] n2 s s2).bind fun r2 =>
        some (.inl (.inr (r2, 1)))
      else
        some (.inr (.inl n3))
      else none
    else
      some (.inr (.inr (.inl ())))
  | .inr (r2, n2) =>
    bif (decide ((n2 : Int) < n)) then
      bif decide ((0 : Int) ≤ n2) && decide ((n2 : Int) < (((List.map E_kinfolkref09_Field.pv r)).length : Int)) then
      (r[(n2).toNat]?).bind fun e_ => match e_ with
      | .mk n3 s s2 =>
      (kinfolkref09_Right N n3 s s2).bind fun n4 =>
      bif (decide ((n4 : Int) = 0)) then
        (kinfolkref09_Put r2 n3 s s2).bind fun r3 =>
        some (.inl (.inr (r3, (iadd .i64 n2 1))))
      else
        some (.inr (.inl n4))
      else none
    else
      some (.inr (.inr (.inr r2)))
theorem kinfolkref09_Make_L0_ok (N : Nat) (r : List E_kinfolkref09_Field) (n : Int) (s_ : (Unit) ⊕ (List E_kinfolkref09_Field × Int)) (z_ : ((Unit) ⊕ (List E_kinfolkref09_Field × Int)) ⊕ ((Int) ⊕ ((Unit) ⊕ (List E_kinfolkref09_Field)))) (h : kinfolkref09_Make_L0_step N r n s_ = some z_) : RoundOk Tryd.prog cfg 9 0 (loopAt Tryd.prog 9 0) (kinfolkref09_Make_L0_st r n) (kinfolkref09_Make_L0_ex r n) s_ z_ := by
  rcases s_ with _ | ⟨r2, n2⟩
  · rcases cond_of h with ⟨h1, h⟩ | ⟨h1, h⟩
    · obtain ⟨h2, h⟩ := need_of h
      obtain ⟨⟨n2, s, s2⟩, h3, h⟩ := bind_of h
      obtain ⟨n3, h4, h⟩ := bind_of h
      rcases cond_of h with ⟨h5, h⟩ | ⟨h5, h⟩
      · obtain ⟨r2, h6, h⟩ := bind_of h
        have h := some_of h
        subst h
        have t_ := tT h1 <| tO h2 <| tE (.el [(.int .i64 n2), (.str s), (.str s2)]) <| tO (el_of (f := E_kinfolkref09_Field.pv) h3) <| tR (kinfolkref09_Right_runs N n2 s s2 _ h4) <| tF (not_of2 h5) <| tR (Runs.coe (as' := [(.one (.pv .nils)), (.agg [(.pv (.int .i64 n2)), (.pv (.str s)), (.pv (.str s2))])]) (objs' := []) (rows' := []) (kinfolkref09_Put_runs [] n2 s s2 _ h6) ⟨.pv (.nilsR), ⟨.eq rfl, .eq rfl, .eq rfl, trivial⟩, trivial⟩ trivial trivial) <| tN
        exact ⟨t_.ev, kinfolkref09_Make_L0_st r n (.inr (r2, 1)), .k0 t_.pf (by kernel_rfl), .same (by kernel_rfl)⟩
      · have h := some_of h
        subst h
        have t_ := tT h1 <| tO h2 <| tE (.el [(.int .i64 n2), (.str s), (.str s2)]) <| tO (el_of (f := E_kinfolkref09_Field.pv) h3) <| tR (kinfolkref09_Right_runs N n2 s s2 _ h4) <| tT (not_of h5) <| tN
        exact ⟨t_.ev, (kinfolkref09_Make_L0_ex r n (.inl n3)).2, .k0 t_.pf (by kernel_rfl), .same (by kernel_rfl)⟩
    · have h := some_of h
      subst h
      have t_ := tF h1 <| tN
      exact ⟨t_.ev, ⟨[(11, (.av (.one (.pv (.bool false))))), (4, (.av (.one (.pv .nils)))), (8, (.av (.one (.pv (.recs 3 (List.map E_kinfolkref09_Field.pv r) false))))), (9, (.av (.one (.pv (.int .i64 n))))), (10, (.av (.one (.pv (.int .i64 0))))), (11, (.av (.one (.pv (.bool (decide ((0 : Int) < n)))))))], [], []⟩, .k0 t_.pf (by kernel_rfl), ⟨⟨⟨_, rfl, .eq rfl⟩, trivial⟩, trivial, trivial⟩⟩
  · rcases cond_of h with ⟨h1, h⟩ | ⟨h1, h⟩
    · obtain ⟨h2, h⟩ := need_of h
      obtain ⟨⟨n3, s, s2⟩, h3, h⟩ := bind_of h
      obtain ⟨n4, h4, h⟩ := bind_of h
      rcases cond_of h with ⟨h5, h⟩ | ⟨h5, h⟩
      · obtain ⟨r3, h6, h⟩ := bind_of h
        have h := some_of h
        subst h
        have t_ := tT h1 <| tO h2 <| tE (.el [(.int .i64 n3), (.str s), (.str s2)]) <| tO (el_of (f := E_kinfolkref09_Field.pv) h3) <| tR (kinfolkref09_Right_runs N n3 s s2 _ h4) <| tF (not_of2 h5) <| tR (kinfolkref09_Put_runs r2 n3 s s2 _ h6) <| tN
        exact ⟨t_.ev, kinfolkref09_Make_L0_st r n (.inr (r3, (iadd .i64 n2 1))), .k0 t_.pf (by kernel_rfl), .same (by kernel_rfl)⟩
      · have h := some_of h
        subst h
        have t_ := tT h1 <| tO h2 <| tE (.el [(.int .i64 n3), (.str s), (.str s2)]) <| tO (el_of (f := E_kinfolkref09_Field.pv) h3) <| tR (kinfolkref09_Right_runs N n3 s s2 _ h4) <| tT (not_of h5) <| tN
        exact ⟨t_.ev, (kinfolkref09_Make_L0_ex r n (.inl n4)).2, .k0 t_.pf (by kernel_rfl), .same (by kernel_rfl)⟩
    · have h := some_of h
      subst h
      have t_ := tF h1 <| tN
      exact ⟨t_.ev, ⟨[(11, (.av (.one (.pv (.bool false))))), (4, (.av (.one (.pv (.recs 3 (List.map E_kinfolkref09_Field.pv r2) false))))), (8, (.av (.one (.pv (.recs 3 (List.map E_kinfolkref09_Field.pv r) false))))), (9, (.av (.one (.pv (.int .i64 n))))), (10, (.av (.one (.pv (.int .i64 n2))))), (11, (.av (.one (.pv (.bool (decide ((n2 : Int) < n)))))))], [], []⟩, .k0 t_.pf (by kernel_rfl), ⟨⟨⟨_, rfl, .eq rfl⟩, trivial⟩, trivial, trivial⟩⟩
theorem kinfolkref09_Make_L0_runs (N : Nat) (r : List E_kinfolkref09_Field) (n : Int) (s_ : (Unit) ⊕ (List E_kinfolkref09_Field × Int)) (r_ : (Int) ⊕ ((Unit) ⊕ (List E_kinfolkref09_Field))) (h : runL (kinfolkref09_Make_L0_step N r n) s_ = some r_) : LRuns Tryd.prog (lEnv Tryd.prog cfg 9 0).nt 0 (.loop (loopAt Tryd.prog 9 0)) (kinfolkref09_Make_L0_st r n s_) (kinfolkref09_Make_L0_ex r n r_).1 (kinfolkref09_Make_L0_ex r n r_).2 :=
  loop_run h (kinfolkref09_Make_L0_ok N r n) (by intro r_; rcases r_ with r1 | (_ | r1) <;> simp [kinfolkref09_Make_L0_ex])
/-! ### kinfolkref09_Make -/
noncomputable def kinfolkref09_Make (N : Nat) (l : List E_kinfolkref09_Field) : Option (List E_kinfolkref09_Field × Int) :=
  (runL (kinfolkref09_Make_L0_step N l (((List.map E_kinfolkref09_Field.pv l)).length : Int)) (.inl ())).bind fun z_ => match z_ with
  | .inl n =>
    some ([], n)
  | .inr (.inl _) =>
    some ([], 0)
  | .inr (.inr r) =>
    bif (decide ((8 : Int) < (((List.map E_kinfolkref09_Field.pv r)).length : Int))) then
      some ([], 8)
    else
      some (r, 0)
theorem kinfolkref09_Make_runs (N : Nat) (l : List E_kinfolkref09_Field) (r_ : List E_kinfolkref09_Field × Int) (h : kinfolkref09_Make N l = some r_) : Runs Tryd.prog 9 [(.one (.pv (.recs 3 (List.map E_kinfolkref09_Field.pv l) false)))] [] [] (kinfolkref09_Make_out l r_) := by
  unfold kinfolkref09_Make at h
  obtain ⟨z_, h1, h⟩ := bind_of h
  rcases z_ with n | (_ | r)
  · have h := some_of h
    subst h
    have t_ := tL (kinfolkref09_Make_L0_runs N l (((List.map E_kinfolkref09_Field.pv l)).length : Int) _ _ h1) <| tN
    have e_ : Runs Tryd.prog 9 [(.one (.pv (.recs 3 (List.map E_kinfolkref09_Field.pv l) false)))] [] [] ([(.one (.pv .nils)), (.one (.pv (.int .i64 n)))], [], []) := runs_of (C := cfg) (objs := []) (sc := t_.ev) (.k0 t_.pf (by kernel_rfl))
    exact e_.out ⟨.pv (.nilsR), .eq rfl, trivial⟩ trivial trivial rfl
  · have h := some_of h
    subst h
    have t_ := tL (kinfolkref09_Make_L0_runs N l (((List.map E_kinfolkref09_Field.pv l)).length : Int) _ _ h1) <| tF (rfl : false = false) <| tN
    have e_ : Runs Tryd.prog 9 [(.one (.pv (.recs 3 (List.map E_kinfolkref09_Field.pv l) false)))] [] [] ([(.one (.pv .nils)), (.one (.pv (.int .i64 0)))], [], []) := runs_of (C := cfg) (objs := []) (sc := t_.ev) (.k0 t_.pf (by kernel_rfl))
    exact e_.out ⟨.pv (.nilsR), .eq rfl, trivial⟩ trivial trivial rfl
  · have q_1 := (kinfolkref09_Make_L0_runs N l (((List.map E_kinfolkref09_Field.pv l)).length : Int) _ _ h1)
    rcases cond_of h with ⟨h2, h⟩ | ⟨h2, h⟩
    · have h := some_of h
      subst h
      have t_ := tL q_1 <| tT h2 <| tN
      have e_ : Runs Tryd.prog 9 [(.one (.pv (.recs 3 (List.map E_kinfolkref09_Field.pv l) false)))] [] [] ([(.one (.pv .nils)), (.one (.pv (.int .i64 8)))], [], []) := runs_of (C := cfg) (objs := []) (sc := t_.ev) (.k0 t_.pf (by kernel_rfl))
      exact e_.out ⟨.pv (.nilsR), .eq rfl, trivial⟩ trivial trivial rfl
    · have h := some_of h
      subst h
      have t_ := tL q_1 <| tF h2 <| tN
      exact runs_of (C := cfg) (objs := []) (sc := t_.ev) (.k0 t_.pf (by kernel_rfl))
/-! ### kinfolkref09_Same_out -/
def kinfolkref09_Same_out (a : List E_kinfolkref09_Field) (b : List E_kinfolkref09_Field) : Bool → Res
  | r1 => ([(.one (.pv (.bool r1)))], [], [])
/-! ### kinfolkref09_Same_L0 -/
def kinfolkref09_Same_L0_st (a : List E_kinfolkref09_Field) (b : List E_kinfolkref09_Field) (n : Int) : Int → St
  | n2 => ⟨[(0, (.av (.one (.pv (.recs 3 (List.map E_kinfolkref09_Field.pv a) false))))), (1, (.av (.one (.pv (.recs 3 (List.map E_kinfolkref09_Field.pv b) false))))), (12, (.av (.one (.pv (.int .i64 n))))), (13, (.av (.one (.pv (.int .i64 n2)))))], [], []⟩
def kinfolkref09_Same_L0_ex (a : List E_kinfolkref09_Field) (b : List E_kinfolkref09_Field) (n : Int) : (Unit) ⊕ (Unit) → Ex × St
  | .inl _ => (.ret, ⟨[(4, (.av (.one (.pv (.bool false)))))], [], []⟩)
  | .inr _ => ((.exit 0), ⟨[], [], []⟩)
noncomputable def kinfolkref09_Same_L0_step (a : List E_kinfolkref09_Field) (b : List E_kinfolkref09_Field) (n : Int) : Int → Option ((Int) ⊕ ((Unit) ⊕ (Unit)))
  | n2 =>
  bif (decide ((n2 : Int) < n)) then
    bif decide ((0 : Int) ≤ n2) && decide ((n2 : Int) < (((List.map E_kinfolkref09_Field.pv a)).length : Int)) then
    (a[(n2).toNat]?).bind fun e_ => match e_ with
    | .mk n3 s s2 =>
    bif decide ((0 : Int) ≤ n2) && decide ((n2 : Int) < (((List.map E_kinfolkref09_Field.pv b)).length : Int)) then
    (b[(n2).toNat]?).bind fun e_ => match e_ with
    | .mk n4 s3 s4 =>
    bif ((decide ((n3 : Int) = n4)) && ((decide ((s : ByteArray) = s3)) && ((decide ((s2 : ByteArray) = s4)) && true))) then
      some (.inl (iadd .i64 n2 1))
    else
      some (.inr (.inl ()))
    else none
    else none
  else
    some (.inr (.inr ()))
theorem kinfolkref09_Same_L0_ok (a : List E_kinfolkref09_Field) (b : List E_kinfolkref09_Field) (n : Int) (n2 : Int) (z_ : (Int) ⊕ ((Unit) ⊕ (Unit))) (h : kinfolkref09_Same_L0_step a b n n2 = some z_) : RoundOk Tryd.prog cfg 11 0 (loopAt Tryd.prog 11 0) (kinfolkref09_Same_L0_st a b n) (kinfolkref09_Same_L0_ex a b n) n2 z_ := by
  rcases cond_of h with ⟨h1, h⟩ | ⟨h1, h⟩
  · obtain ⟨h2, h⟩ := need_of h
    obtain ⟨⟨n3, s, s2⟩, h3, h⟩ := bind_of h
    obtain ⟨h4, h⟩ := need_of h
    obtain ⟨⟨n4, s3, s4⟩, h5, h⟩ := bind_of h
    rcases cond_of h with ⟨h6, h⟩ | ⟨h6, h⟩
    · have h := some_of h
      subst h
      have t_ := tT h1 <| tO h2 <| tE (.el [(.int .i64 n3), (.str s), (.str s2)]) <| tO (el_of (f := E_kinfolkref09_Field.pv) h3) <| tO h4 <| tE (.el [(.int .i64 n4), (.str s3), (.str s4)]) <| tO (el_of (f := E_kinfolkref09_Field.pv) h5) <| tF (not_of2 h6) <| tN
      exact ⟨t_.ev, kinfolkref09_Same_L0_st a b n (iadd .i64 n2 1), .k0 t_.pf (by kernel_rfl), .same (by kernel_rfl)⟩
    · have h := some_of h
      subst h
      have t_ := tT h1 <| tO h2 <| tE (.el [(.int .i64 n3), (.str s), (.str s2)]) <| tO (el_of (f := E_kinfolkref09_Field.pv) h3) <| tO h4 <| tE (.el [(.int .i64 n4), (.str s3), (.str s4)]) <| tO (el_of (f := E_kinfolkref09_Field.pv) h5) <| tT (not_of h6) <| tN
      exact ⟨t_.ev, (kinfolkref09_Same_L0_ex a b n (.inl ())).2, .k0 t_.pf (by kernel_rfl), .same (by kernel_rfl)⟩
  · have h := some_of h
    subst h
    have t_ := tF h1 <| tN
    exact ⟨t_.ev, ⟨[(14, (.av (.one (.pv (.bool false))))), (0, (.av (.one (.pv (.recs 3 (List.map E_kinfolkref09_Field.pv a) false))))), (1, (.av (.one (.pv (.recs 3 (List.map E_kinfolkref09_Field.pv b) false))))), (12, (.av (.one (.pv (.int .i64 n))))), (13, (.av (.one (.pv (.int .i64 n2))))), (14, (.av (.one (.pv (.bool (decide ((n2 : Int) < n)))))))], [], []⟩, .k0 t_.pf (by kernel_rfl), ⟨trivial, trivial, trivial⟩⟩
theorem kinfolkref09_Same_L0_runs (a : List E_kinfolkref09_Field) (b : List E_kinfolkref09_Field) (n : Int) (s_ : Int) (r_ : (Unit) ⊕ (Unit)) (h : runL (kinfolkref09_Same_L0_step a b n) s_ = some r_) : LRuns Tryd.prog (lEnv Tryd.prog cfg 11 0).nt 0 (.loop (loopAt Tryd.prog 11 0)) (kinfolkref09_Same_L0_st a b n s_) (kinfolkref09_Same_L0_ex a b n r_).1 (kinfolkref09_Same_L0_ex a b n r_).2 :=
  loop_run h (kinfolkref09_Same_L0_ok a b n) (by intro r_; rcases r_ with _ | _ <;> simp [kinfolkref09_Same_L0_ex])
/-! ### kinfolkref09_Same -/
noncomputable def kinfolkref09_Same (a : List E_kinfolkref09_Field) (b : List E_kinfolkref09_Field) : Option (Bool) :=
  bif (decide (((((List.map E_kinfolkref09_Field.pv a)).length : Int) : Int) = (((List.map E_kinfolkref09_Field.pv b)).length : Int))) then
    (runL (kinfolkref09_Same_L0_step a b (((List.map E_kinfolkref09_Field.pv a)).length : Int)) 0).bind fun z_ => match z_ with
    | .inl _ =>
      some false
    | .inr _ =>
      some true
  else
    some false
theorem kinfolkref09_Same_runs (a : List E_kinfolkref09_Field) (b : List E_kinfolkref09_Field) (r_ : Bool) (h : kinfolkref09_Same a b = some r_) : Runs Tryd.prog 11 [(.one (.pv (.recs 3 (List.map E_kinfolkref09_Field.pv a) false))), (.one (.pv (.recs 3 (List.map E_kinfolkref09_Field.pv b) false)))] [] [] (kinfolkref09_Same_out a b r_) := by
  unfold kinfolkref09_Same at h
  rcases cond_of h with ⟨h1, h⟩ | ⟨h1, h⟩
  · obtain ⟨z_, h2, h⟩ := bind_of h
    rcases z_ with _ | _
    · have h := some_of h
      subst h
      have t_ := tF (not_of2 h1) <| tL (kinfolkref09_Same_L0_runs a b (((List.map E_kinfolkref09_Field.pv a)).length : Int) _ _ h2) <| tN
      exact runs_of (C := cfg) (objs := []) (sc := t_.ev) (.k0 t_.pf (by kernel_rfl))
    · have h := some_of h
      subst h
      have t_ := tF (not_of2 h1) <| tL (kinfolkref09_Same_L0_runs a b (((List.map E_kinfolkref09_Field.pv a)).length : Int) _ _ h2) <| tN
      exact runs_of (C := cfg) (objs := []) (sc := t_.ev) (.k0 t_.pf (by kernel_rfl))
  · have h := some_of h
    subst h
    have t_ := tT (not_of h1) <| tN
    exact runs_of (C := cfg) (objs := []) (sc := t_.ev) (.k0 t_.pf (by kernel_rfl))
/-! ### slices_Equal_card_Field_out -/
def slices_Equal_card_Field_out (s1 : List E_card_Field) (s2 : List E_card_Field) : Bool → Res
  | r1 => ([(.one (.pv (.bool r1)))], [], [])
/-! ### slices_Equal_card_Field_L0 -/
def slices_Equal_card_Field_L0_st (s1 : List E_card_Field) (s2 : List E_card_Field) (n : Int) : Int → St
  | n2 => ⟨[(0, (.av (.one (.pv (.recs 3 (List.map E_card_Field.pv s1) false))))), (1, (.av (.one (.pv (.recs 3 (List.map E_card_Field.pv s2) false))))), (12, (.av (.one (.pv (.int .i64 n))))), (13, (.av (.one (.pv (.int .i64 n2)))))], [], []⟩
def slices_Equal_card_Field_L0_ex (s1 : List E_card_Field) (s2 : List E_card_Field) (n : Int) : (Unit) ⊕ (Unit) → Ex × St
  | .inl _ => (.ret, ⟨[(4, (.av (.one (.pv (.bool false)))))], [], []⟩)
  | .inr _ => ((.exit 0), ⟨[], [], []⟩)
noncomputable def slices_Equal_card_Field_L0_step (s1 : List E_card_Field) (s2 : List E_card_Field) (n : Int) : Int → Option ((Int) ⊕ ((Unit) ⊕ (Unit)))
  | n2 =>
  bif (decide ((n2 : Int) < n)) then
    bif decide ((0 : Int) ≤ n2) && decide ((n2 : Int) < (((List.map E_card_Field.pv s1)).length : Int)) then
    (s1[(n2).toNat]?).bind fun e_ => match e_ with
    | .mk n3 s s3 =>
    bif decide ((0 : Int) ≤ n2) && decide ((n2 : Int) < (((List.map E_card_Field.pv s2)).length : Int)) then
    (s2[(n2).toNat]?).bind fun e_ => match e_ with
    | .mk n4 s4 s5 =>
    bif ((decide ((n3 : Int) = n4)) && ((decide ((s : ByteArray) = s4)) && ((decide ((s3 : ByteArray) = s5)) && true))) then
      some (.inl (iadd .i64 n2 1))
    else
      some (.inr (.inl ()))
    else none
    else none
  else
    some (.inr (.inr ()))
theorem slices_Equal_card_Field_L0_ok (s1 : List E_card_Field) (s2 : List E_card_Field) (n : Int) (n2 : Int) (z_ : (Int) ⊕ ((Unit) ⊕ (Unit))) (h : slices_Equal_card_Field_L0_step s1 s2 n n2 = some z_) : RoundOk Tryd.prog cfg 14 0 (loopAt Tryd.prog 14 0) (slices_Equal_card_Field_L0_st s1 s2 n) (slices_Equal_card_Field_L0_ex s1 s2 n) n2 z_ := by
  rcases cond_of h with ⟨h1, h⟩ | ⟨h1, h⟩
  · obtain ⟨h2, h⟩ := need_of h
    obtain ⟨⟨n3, s, s3⟩, h3, h⟩ := bind_of h
    obtain ⟨h4, h⟩ := need_of h
    obtain ⟨⟨n4, s4, s5⟩, h5, h⟩ := bind_of h
    rcases cond_of h with ⟨h6, h⟩ | ⟨h6, h⟩
    · have h := some_of h
      subst h
      have t_ := tT h1 <| tO h2 <| tE (.el [(.int .i64 n3), (.str s), (.str s3)]) <| tO (el_of (f := E_card_Field.pv) h3) <| tO h4 <| tE (.el [(.int .i64 n4), (.str s4), (.str s5)]) <| tO (el_of (f := E_card_Field.pv) h5) <| tF (not_of2 h6) <| tN
      exact ⟨t_.ev, slices_Equal_card_Field_L0_st s1 s2 n (iadd .i64 n2 1), .k0 t_.pf (by kernel_rfl), .same (by kernel_rfl)⟩
    · have h := some_of h
      subst h
      have t_ := tT h1 <| tO h2 <| tE (.el [(.int .i64 n3), (.str s), (.str s3)]) <| tO (el_of (f := E_card_Field.pv) h3) <| tO h4 <| tE (.el [(.int .i64 n4), (.str s4), (.str s5)]) <| tO (el_of (f := E_card_Field.pv) h5) <| tT (not_of h6) <| tN
      exact ⟨t_.ev, (slices_Equal_card_Field_L0_ex s1 s2 n (.inl ())).2, .k0 t_.pf (by kernel_rfl), .same (by kernel_rfl)⟩
  · have h := some_of h
    subst h
    have t_ := tF h1 <| tN
    exact ⟨t_.ev, ⟨[(14, (.av (.one (.pv (.bool false))))), (0, (.av (.one (.pv (.recs 3 (List.map E_card_Field.pv s1) false))))), (1, (.av (.one (.pv (.recs 3 (List.map E_card_Field.pv s2) false))))), (12, (.av (.one (.pv (.int .i64 n))))), (13, (.av (.one (.pv (.int .i64 n2))))), (14, (.av (.one (.pv (.bool (decide ((n2 : Int) < n)))))))], [], []⟩, .k0 t_.pf (by kernel_rfl), ⟨trivial, trivial, trivial⟩⟩
theorem slices_Equal_card_Field_L0_runs (s1 : List E_card_Field) (s2 : List E_card_Field) (n : Int) (s_ : Int) (r_ : (Unit) ⊕ (Unit)) (h : runL (slices_Equal_card_Field_L0_step s1 s2 n) s_ = some r_) : LRuns Tryd.prog (lEnv Tryd.prog cfg 14 0).nt 0 (.loop (loopAt Tryd.prog 14 0)) (slices_Equal_card_Field_L0_st s1 s2 n s_) (slices_Equal_card_Field_L0_ex s1 s2 n r_).1 (slices_Equal_card_Field_L0_ex s1 s2 n r_).2 :=
  loop_run h (slices_Equal_card_Field_L0_ok s1 s2 n) (by intro r_; rcases r_ with _ | _ <;> simp [slices_Equal_card_Field_L0_ex])
/-! ### slices_Equal_card_Field -/
noncomputable def slices_Equal_card_Field (s1 : List E_card_Field) (s2 : List E_card_Field) : Option (Bool) :=
  bif (decide (((((List.map E_card_Field.pv s1)).length : Int) : Int) = (((List.map E_card_Field.pv s2)).length : Int))) then
    (runL (slices_Equal_card_Field_L0_step s1 s2 (((List.map E_card_Field.pv s1)).length : Int)) 0).bind fun z_ => match z_ with
    | .inl _ =>
      some false
    | .inr _ =>
      some true
  else
    some false
theorem slices_Equal_card_Field_runs (s1 : List E_card_Field) (s2 : List E_card_Field) (r_ : Bool) (h : slices_Equal_card_Field s1 s2 = some r_) : Runs Tryd.prog 14 [(.one (.pv (.recs 3 (List.map E_card_Field.pv s1) false))), (.one (.pv (.recs 3 (List.map E_card_Field.pv s2) false)))] [] [] (slices_Equal_card_Field_out s1 s2 r_) := by
  unfold slices_Equal_card_Field at h
  rcases cond_of h with ⟨h1, h⟩ | ⟨h1, h⟩
  · obtain ⟨z_, h2, h⟩ := bind_of h
    rcases z_ with _ | _
    · have h := some_of h
      subst h
      have t_ := tF (not_of2 h1) <| tL (slices_Equal_card_Field_L0_runs s1 s2 (((List.map E_card_Field.pv s1)).length : Int) _ _ h2) <| tN
      exact runs_of (C := cfg) (objs := []) (sc := t_.ev) (.k0 t_.pf (by kernel_rfl))
    · have h := some_of h
      subst h
      have t_ := tF (not_of2 h1) <| tL (slices_Equal_card_Field_L0_runs s1 s2 (((List.map E_card_Field.pv s1)).length : Int) _ _ h2) <| tN
      exact runs_of (C := cfg) (objs := []) (sc := t_.ev) (.k0 t_.pf (by kernel_rfl))
  · have h := some_of h
    subst h
    have t_ := tT (not_of h1) <| tN
    exact runs_of (C := cfg) (objs := []) (sc := t_.ev) (.k0 t_.pf (by kernel_rfl))
/-! ### kinfolklaw09_CardMakes_L0 -/
def kinfolklaw09_CardMakes_L0_st (r : List E_card_Field) (n : Int) : Int → St
  | n2 => ⟨[(51, (.av (.one (.pv (.recs 3 (List.map E_card_Field.pv r) false))))), (52, (.av (.one (.pv (.int .i64 n))))), (53, (.av (.one (.pv (.int .i64 n2)))))], [], []⟩
def kinfolklaw09_CardMakes_L0_ex (r : List E_card_Field) (n : Int) : (Unit) ⊕ (Unit) → Ex × St
  | .inl _ => (.ret, ⟨[(2, (.av (.one (.pv (.bool false)))))], [], []⟩)
  | .inr _ => ((.exit 0), ⟨[], [], []⟩)
noncomputable def kinfolklaw09_CardMakes_L0_step (N : Nat) (r : List E_card_Field) (n : Int) : Int → Option ((Int) ⊕ ((Unit) ⊕ (Unit)))
  | n2 =>
  bif (decide ((n2 : Int) < n)) then
    bif decide ((0 : Int) ≤ n2) && decide ((n2 : Int) < (((List.map E_card_Field.pv r)).length : Int)) then
    (r[(n2).toNat]?).bind fun e_ => match e_ with
    | .mk n3 s s2 =>
    (card_Field_Right n3 s s2).bind fun n4 =>
    (kinfolkref09_Right N n3 s s2).bind fun n5 =>
    bif (decide ((n4 : Int) = n5)) then
      some (.inl (iadd .i64 n2 1))
    else
      some (.inr (.inl ()))
    else none
  else
    some (.inr (.inr ()))
theorem kinfolklaw09_CardMakes_L0_ok (N : Nat) (r : List E_card_Field) (n : Int) (n2 : Int) (z_ : (Int) ⊕ ((Unit) ⊕ (Unit))) (h : kinfolklaw09_CardMakes_L0_step N r n n2 = some z_) : RoundOk Tryd.prog cfg 3 0 (loopAt Tryd.prog 3 0) (kinfolklaw09_CardMakes_L0_st r n) (kinfolklaw09_CardMakes_L0_ex r n) n2 z_ := by
  rcases cond_of h with ⟨h1, h⟩ | ⟨h1, h⟩
  · obtain ⟨h2, h⟩ := need_of h
    obtain ⟨⟨n3, s, s2⟩, h3, h⟩ := bind_of h
    obtain ⟨n4, h4, h⟩ := bind_of h
    obtain ⟨n5, h5, h⟩ := bind_of h
    rcases cond_of h with ⟨h6, h⟩ | ⟨h6, h⟩
    · have h := some_of h
      subst h
      have t_ := tT h1 <| tO h2 <| tE (.el [(.int .i64 n3), (.str s), (.str s2)]) <| tO (el_of (f := E_card_Field.pv) h3) <| tR (card_Field_Right_runs n3 s s2 _ h4) <| tR (card_Field_Right_runs n3 s s2 _ h4) <| tR (kinfolkref09_Right_runs N n3 s s2 _ h5) <| tF (not_of2 h6) <| tN
      exact ⟨t_.ev, kinfolklaw09_CardMakes_L0_st r n (iadd .i64 n2 1), .k1 t_.pf (by kernel_rfl) (by kernel_rfl), .same (by kernel_rfl)⟩
    · have h := some_of h
      subst h
      have t_ := tT h1 <| tO h2 <| tE (.el [(.int .i64 n3), (.str s), (.str s2)]) <| tO (el_of (f := E_card_Field.pv) h3) <| tR (card_Field_Right_runs n3 s s2 _ h4) <| tR (card_Field_Right_runs n3 s s2 _ h4) <| tR (kinfolkref09_Right_runs N n3 s s2 _ h5) <| tT (not_of h6) <| tN
      exact ⟨t_.ev, (kinfolklaw09_CardMakes_L0_ex r n (.inl ())).2, .k1 t_.pf (by kernel_rfl) (by kernel_rfl), .same (by kernel_rfl)⟩
  · have h := some_of h
    subst h
    have t_ := tF h1 <| tN
    exact ⟨t_.ev, ⟨[(54, (.av (.one (.pv (.bool false))))), (51, (.av (.one (.pv (.recs 3 (List.map E_card_Field.pv r) false))))), (52, (.av (.one (.pv (.int .i64 n))))), (53, (.av (.one (.pv (.int .i64 n2))))), (54, (.av (.one (.pv (.bool (decide ((n2 : Int) < n)))))))], [], []⟩, .k0 t_.pf (by kernel_rfl), ⟨trivial, trivial, trivial⟩⟩
theorem kinfolklaw09_CardMakes_L0_runs (N : Nat) (r : List E_card_Field) (n : Int) (s_ : Int) (r_ : (Unit) ⊕ (Unit)) (h : runL (kinfolklaw09_CardMakes_L0_step N r n) s_ = some r_) : LRuns Tryd.prog (lEnv Tryd.prog cfg 3 0).nt 0 (.loop (loopAt Tryd.prog 3 0)) (kinfolklaw09_CardMakes_L0_st r n s_) (kinfolklaw09_CardMakes_L0_ex r n r_).1 (kinfolklaw09_CardMakes_L0_ex r n r_).2 :=
  loop_run h (kinfolklaw09_CardMakes_L0_ok N r n) (by intro r_; rcases r_ with _ | _ <;> simp [kinfolklaw09_CardMakes_L0_ex])

end Go.Proofs.YteiikkpajcggfaaDoor
