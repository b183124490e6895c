/- What functions compute, and that they do. -/
import Derived.Test.YtjjakdmcnkldoaaDoorCA3
set_option linter.unusedVariables false
set_option linter.unusedSimpArgs false
set_option maxRecDepth 100000
namespace Go.Proofs.YtjjakdmcnkldoaaDoor
open Go.Ev

/-! ### kinfolkref07_GetID_C58 -/
def kinfolkref07_GetID_C58_ex (depth : Int) (kind : Int) (x : T_kinfolkref01_ID) (y : T_kinfolkref01_ID) (b : Bool) (l : List Bool) (n : Int) : (T_kinfolkref01_ID × List Bool × Int) ⊕ (T_kinfolkref01_ID × Int × List Bool × Int) → Ex × St
  | .inl (r1, r2, r3) => (.normal, ⟨[(6, (.av (.one (.pv (.int .u64 kind))))), (8, (.av (.one (.pv (T_kinfolkref01_ID.pv x))))), (9, (.av (.one (.pv (T_kinfolkref01_ID.pv r1)))))], [(0, [(.pv (.bools r2 false)), (.pv (.int .i64 r3))])], []⟩)
  | .inr (r1, r2, r3, r4) => (.ret, ⟨[(4, (.av (.one (.pv (T_kinfolkref01_ID.pv r1))))), (5, (.av (.one (.pv (.int .i64 r2)))))], [(0, [(.pv (.bools r3 false)), (.pv (.int .i64 r4))])], []⟩)
noncomputable def kinfolkref07_GetID_C58 (rec_kinfolkref07_GetID_4 : Int → List Bool → Int → Option (T_kinfolkref01_ID × Int × List Bool × Int)) (depth : Int) (kind : Int) (x : T_kinfolkref01_ID) (y : T_kinfolkref01_ID) (b : Bool) (l : List Bool) (n : Int) : Option ((T_kinfolkref01_ID × List Bool × Int) ⊕ (T_kinfolkref01_ID × Int × List Bool × Int)) :=
  bif b then
    (rec_kinfolkref07_GetID_4 (iadd .i64 depth 1) l n).bind fun (t, n2, l_, n3) =>
    bif (decide ((n2 : Int) = 0)) then
      some (.inl (t, l_, n3))
    else
      (kinfolkref01_Zero).bind fun t2 =>
      some (.inr (t2, n2, l_, n3))
  else
    some (.inl (y, l, n))
theorem kinfolkref07_GetID_C58_runs (rec_kinfolkref07_GetID_4 : Int → List Bool → Int → Option (T_kinfolkref01_ID × Int × List Bool × Int)) (hrec_kinfolkref07_GetID_4 : ∀ depth l n r_, rec_kinfolkref07_GetID_4 depth l n = some r_ → Runs Tryd.prog 74 [(.one (.ref 0 0)), (.one (.pv (.int .i64 depth)))] [[(.pv (.bools l false)), (.pv (.int .i64 n))]] [] (kinfolkref07_GetID_4_out depth l n r_)) (depth : Int) (kind : Int) (x : T_kinfolkref01_ID) (y : T_kinfolkref01_ID) (b : Bool) (l : List Bool) (n : Int) (r_ : (T_kinfolkref01_ID × List Bool × Int) ⊕ (T_kinfolkref01_ID × Int × List Bool × Int)) (h : kinfolkref07_GetID_C58 rec_kinfolkref07_GetID_4 depth kind x y b l n = some r_) : LRuns Tryd.prog (lEnv Tryd.prog cfg 74 1).nt 1 (.cond (.tmp 58) (condAt Tryd.prog 74 58).1 (condAt Tryd.prog 74 58).2) ⟨[(0, (.av (.one (.ref 0 0)))), (1, (.av (.one (.pv (.int .i64 depth))))), (6, (.av (.one (.pv (.int .u64 kind))))), (8, (.av (.one (.pv (T_kinfolkref01_ID.pv x))))), (9, (.av (.one (.pv (T_kinfolkref01_ID.pv y))))), (58, (.av (.one (.pv (.bool b)))))], [(0, [(.pv (.bools l false)), (.pv (.int .i64 n))])], []⟩ (kinfolkref07_GetID_C58_ex depth kind x y b l n r_).1 (kinfolkref07_GetID_C58_ex depth kind x y b l n r_).2 := by
  unfold kinfolkref07_GetID_C58 at h
  rcases cond_of h with ⟨h1, h⟩ | ⟨h1, h⟩
  · obtain ⟨⟨t, n2, l_, n3⟩, h2, h⟩ := bind_of h
    have q_2 := (hrec_kinfolkref07_GetID_4 (iadd .i64 depth 1) l n _ h2)
    rcases cond_of h with ⟨h3, h⟩ | ⟨h3, h⟩
    · have h := some_of h
      subst h
      have t_ := tT h1 <| tR q_2 <| tF (not_of2 h3) <| tN
      exact piece_ok (C := cfg) (sc := t_.ev) (.k0 t_.pf (by kernel_rfl))
    · obtain ⟨t2, h4, h⟩ := bind_of h
      have h := some_of h
      subst h
      have t_ := tT h1 <| tR q_2 <| tT (not_of h3) <| tR (kinfolkref01_Zero_runs _ h4) <| tN
      exact piece_ok (C := cfg) (sc := t_.ev) (.k0 t_.pf (by kernel_rfl))
  · have h := some_of h
    subst h
    have t_ := tF h1 <| tN
    exact piece_ok (C := cfg) (sc := t_.ev) (.k0 t_.pf (by kernel_rfl))
/-! ### kinfolkref07_GetID_4 -/
noncomputable def kinfolkref07_GetID_4_b (rec_kinfolkref07_GetID_4 : Int → List Bool → Int → Option (T_kinfolkref01_ID × Int × List Bool × Int)) (depth : Int) (l : List Bool) (n : Int) : Option (T_kinfolkref01_ID × Int × List Bool × Int) :=
  (kinfolkref05_Get_2 2 l n).bind fun (n2, l_, n3) =>
  bif (decide ((n3 : Int) = 0)) then
    (kinfolkref07_GetID_C21 depth n2 (decide ((n2 : Int) = 0)) l_ n3).bind fun z_ => match z_ with
    | .inl (t, l_2, n4) =>
      some (t, 0, l_2, n4)
    | .inr (l_2, n4) =>
      bif (decide ((n4 : Int) = 0)) then
        bif (decide ((depth : Int) = 16)) then
          (kinfolkref01_Zero).bind fun t =>
          some (t, 3, l_2, n4)
        else
          (kinfolkref01_Zero).bind fun t =>
          (kinfolkref07_GetID_C45_2 rec_kinfolkref07_GetID_4 depth n2 t t (!(decide ((n2 : Int) = 1))) l_2 n4).bind fun z_ => match z_ with
          | .inl (t2, l_3, n5) =>
            (kinfolkref07_GetID_C58 rec_kinfolkref07_GetID_4 depth n2 t2 t (!(decide ((n2 : Int) = 2))) l_3 n5).bind fun z_ => match z_ with
            | .inl (t3, l_4, n6) =>
              match t2 with
              | .nil =>
                none
              | .mk n7 t4 t5 =>
                bif (decide ((n7 : Int) = 0)) then
                  bif (decide ((n2 : Int) = 1)) then
                    match t3 with
                    | .nil =>
                      none
                    | .mk n8 t6 t7 =>
                      bif (decide ((n8 : Int) = 0)) then
                        bif (decide ((n2 : Int) = 2)) then
                          bif (decide ((n7 : Int) = 1)) then
                            bif (decide ((n8 : Int) = 1)) then
                              some (t, 6, l_4, n6)
                            else
                              some ((T_kinfolkref01_ID.mk 2 t2 t3), 0, l_4, n6)
                          else
                            some ((T_kinfolkref01_ID.mk 2 t2 t3), 0, l_4, n6)
                        else
                          some (t, 6, l_4, n6)
                      else
                        bif (decide ((n7 : Int) = 1)) then
                          bif (decide ((n8 : Int) = 1)) then
                            some (t, 6, l_4, n6)
                          else
                            some ((T_kinfolkref01_ID.mk 2 t2 t3), 0, l_4, n6)
                        else
                          some ((T_kinfolkref01_ID.mk 2 t2 t3), 0, l_4, n6)
                  else
                    some (t, 6, l_4, n6)
                else
                  match t3 with
                  | .nil =>
                    none
                  | .mk n8 t6 t7 =>
                    bif (decide ((n8 : Int) = 0)) then
                      bif (decide ((n2 : Int) = 2)) then
                        bif (decide ((n7 : Int) = 1)) then
                          bif (decide ((n8 : Int) = 1)) then
                            some (t, 6, l_4, n6)
                          else
                            some ((T_kinfolkref01_ID.mk 2 t2 t3), 0, l_4, n6)
                        else
                          some ((T_kinfolkref01_ID.mk 2 t2 t3), 0, l_4, n6)
                      else
                        some (t, 6, l_4, n6)
                    else
                      bif (decide ((n7 : Int) = 1)) then
                        bif (decide ((n8 : Int) = 1)) then
                          some (t, 6, l_4, n6)
                        else
                          some ((T_kinfolkref01_ID.mk 2 t2 t3), 0, l_4, n6)
                      else
                        some ((T_kinfolkref01_ID.mk 2 t2 t3), 0, l_4, n6)
            | .inr (t3, n6, l_4, n7) =>
              some (t3, n6, l_4, n7)
          | .inr (t2, n5, l_3, n6) =>
            some (t2, n5, l_3, n6)
      else
        (kinfolkref01_Zero).bind fun t =>
        some (t, 6, l_2, n4)
  else
    (kinfolkref01_Zero).bind fun t =>
    some (t, 6, l_, n3)
theorem kinfolkref07_GetID_4_b_runs (rec_kinfolkref07_GetID_4 : Int → List Bool → Int → Option (T_kinfolkref01_ID × Int × List Bool × Int)) (hrec_kinfolkref07_GetID_4 : ∀ depth l n r_, rec_kinfolkref07_GetID_4 depth l n = some r_ → Runs Tryd.prog 74 [(.one (.ref 0 0)), (.one (.pv (.int .i64 depth)))] [[(.pv (.bools l false)), (.pv (.int .i64 n))]] [] (kinfolkref07_GetID_4_out depth l n r_)) (depth : Int) (l : List Bool) (n : Int) (r_ : T_kinfolkref01_ID × Int × List Bool × Int) (h : kinfolkref07_GetID_4_b rec_kinfolkref07_GetID_4 depth l n = some r_) : Runs Tryd.prog 74 [(.one (.ref 0 0)), (.one (.pv (.int .i64 depth)))] [[(.pv (.bools l false)), (.pv (.int .i64 n))]] [] (kinfolkref07_GetID_4_out depth l n r_) := by
  unfold kinfolkref07_GetID_4_b at h
  obtain ⟨⟨n2, l_, n3⟩, h1, h⟩ := bind_of h
  rcases cond_of h with ⟨h2, h⟩ | ⟨h2, h⟩
  · obtain ⟨z_, h3, h⟩ := bind_of h
    rcases z_ with ⟨t, l_2, n4⟩ | ⟨l_2, n4⟩
    · have h := some_of h
      subst h
      have t_ := tR (kinfolkref05_Get_2_runs 2 l n _ h1) <| tT h2 <| tL (kinfolkref07_GetID_C21_runs depth n2 (decide ((n2 : Int) = 0)) l_ n3 _ h3) <| tN
      exact runs_of (C := cfg) (objs := [[(.pv (.bools l false)), (.pv (.int .i64 n))]]) (sc := t_.ev) (.k0 t_.pf (by kernel_rfl))
    · have q_3 := (kinfolkref07_GetID_C21_runs depth n2 (decide ((n2 : Int) = 0)) l_ n3 _ h3)
      rcases cond_of h with ⟨h4, h⟩ | ⟨h4, h⟩
      · rcases cond_of h with ⟨h5, h⟩ | ⟨h5, h⟩
        · obtain ⟨t, h6, h⟩ := bind_of h
          have h := some_of h
          subst h
          have t_ := tR (kinfolkref05_Get_2_runs 2 l n _ h1) <| tT h2 <| tL q_3 <| tF (not_of2 h4) <| tT h5 <| tR (kinfolkref01_Zero_runs _ h6) <| tN
          exact runs_of (C := cfg) (objs := [[(.pv (.bools l false)), (.pv (.int .i64 n))]]) (sc := t_.ev) (.k0 t_.pf (by kernel_rfl))
        · obtain ⟨t, h6, h⟩ := bind_of h
          obtain ⟨z_, h7, h⟩ := bind_of h
          rcases z_ with ⟨t2, l_3, n5⟩ | ⟨t2, n5, l_3, n6⟩
          · have q_7 := (kinfolkref07_GetID_C45_2_runs rec_kinfolkref07_GetID_4 hrec_kinfolkref07_GetID_4 depth n2 t t (!(decide ((n2 : Int) = 1))) l_2 n4 _ h7)
            obtain ⟨z_, h8, h⟩ := bind_of h
            rcases z_ with ⟨t3, l_4, n6⟩ | ⟨t3, n6, l_4, n7⟩
            · have q_8 := (kinfolkref07_GetID_C58_runs rec_kinfolkref07_GetID_4 hrec_kinfolkref07_GetID_4 depth n2 t2 t (!(decide ((n2 : Int) = 2))) l_3 n5 _ h8)
              cases t2 with
              | nil =>
                cases h
              | mk n7 t4 t5 =>
                rcases cond_of h with ⟨h9, h⟩ | ⟨h9, h⟩
                · rcases cond_of h with ⟨h10, h⟩ | ⟨h10, h⟩
                  · cases t3 with
                    | nil =>
                      cases h
                    | mk n8 t6 t7 =>
                      rcases cond_of h with ⟨h11, h⟩ | ⟨h11, h⟩
                      · rcases cond_of h with ⟨h12, h⟩ | ⟨h12, h⟩
                        · rcases cond_of h with ⟨h13, h⟩ | ⟨h13, h⟩
                          · rcases cond_of h with ⟨h14, h⟩ | ⟨h14, h⟩
                            · have h := some_of h
                              subst h
                              have t_ := tR (kinfolkref05_Get_2_runs 2 l n _ h1) <| tT h2 <| tL q_3 <| tF (not_of2 h4) <| tF h5 <| tR (kinfolkref01_Zero_runs _ h6) <| tR (kinfolkref01_Zero_runs _ h6) <| tL q_7 <| tL q_8 <| tT h9 <| tF (not_of2 h10) <| tT h11 <| tF (not_of2 h12) <| tT h13 <| tT h14 <| tR (kinfolkref01_Zero_runs _ h6) <| tN
                              exact runs_of (C := cfg) (objs := [[(.pv (.bools l false)), (.pv (.int .i64 n))]]) (sc := t_.ev) (.k0 t_.pf (by kernel_rfl))
                            · have h := some_of h
                              subst h
                              have t_ := tR (kinfolkref05_Get_2_runs 2 l n _ h1) <| tT h2 <| tL q_3 <| tF (not_of2 h4) <| tF h5 <| tR (kinfolkref01_Zero_runs _ h6) <| tR (kinfolkref01_Zero_runs _ h6) <| tL q_7 <| tL q_8 <| tT h9 <| tF (not_of2 h10) <| tT h11 <| tF (not_of2 h12) <| tT h13 <| tF h14 <| tN
                              have e_ : Runs Tryd.prog 74 [(.one (.ref 0 0)), (.one (.pv (.int .i64 depth)))] [[(.pv (.bools l false)), (.pv (.int .i64 n))]] [] ([(.one (.pv (.imm [(.int .i64 2), (T_kinfolkref01_ID.pv (T_kinfolkref01_ID.mk n7 t4 t5)), (T_kinfolkref01_ID.pv (T_kinfolkref01_ID.mk n8 t6 t7))] 0))), (.one (.pv (.int .i64 0)))], [[(.pv (.bools l_4 false)), (.pv (.int .i64 n6))]], []) := runs_of (C := cfg) (objs := [[(.pv (.bools l false)), (.pv (.int .i64 n))]]) (sc := t_.ev) (.k0 t_.pf (by kernel_rfl))
                              exact e_.out ⟨.eq rfl, .eq rfl, trivial⟩ ⟨⟨.eq rfl, .eq rfl, trivial⟩, trivial⟩ trivial rfl
                          · have h := some_of h
                            subst h
                            have t_ := tR (kinfolkref05_Get_2_runs 2 l n _ h1) <| tT h2 <| tL q_3 <| tF (not_of2 h4) <| tF h5 <| tR (kinfolkref01_Zero_runs _ h6) <| tR (kinfolkref01_Zero_runs _ h6) <| tL q_7 <| tL q_8 <| tT h9 <| tF (not_of2 h10) <| tT h11 <| tF (not_of2 h12) <| tF h13 <| tF (rfl : false = false) <| tN
                            have e_ : Runs Tryd.prog 74 [(.one (.ref 0 0)), (.one (.pv (.int .i64 depth)))] [[(.pv (.bools l false)), (.pv (.int .i64 n))]] [] ([(.one (.pv (.imm [(.int .i64 2), (T_kinfolkref01_ID.pv (T_kinfolkref01_ID.mk n7 t4 t5)), (T_kinfolkref01_ID.pv (T_kinfolkref01_ID.mk n8 t6 t7))] 0))), (.one (.pv (.int .i64 0)))], [[(.pv (.bools l_4 false)), (.pv (.int .i64 n6))]], []) := runs_of (C := cfg) (objs := [[(.pv (.bools l false)), (.pv (.int .i64 n))]]) (sc := t_.ev) (.k0 t_.pf (by kernel_rfl))
                            exact e_.out ⟨.eq rfl, .eq rfl, trivial⟩ ⟨⟨.eq rfl, .eq rfl, trivial⟩, trivial⟩ trivial rfl
                        · have h := some_of h
                          subst h
                          have t_ := tR (kinfolkref05_Get_2_runs 2 l n _ h1) <| tT h2 <| tL q_3 <| tF (not_of2 h4) <| tF h5 <| tR (kinfolkref01_Zero_runs _ h6) <| tR (kinfolkref01_Zero_runs _ h6) <| tL q_7 <| tL q_8 <| tT h9 <| tF (not_of2 h10) <| tT h11 <| tT (not_of h12) <| tT (rfl : true = true) <| tR (kinfolkref01_Zero_runs _ h6) <| tN
                          exact runs_of (C := cfg) (objs := [[(.pv (.bools l false)), (.pv (.int .i64 n))]]) (sc := t_.ev) (.k0 t_.pf (by kernel_rfl))
                      · rcases cond_of h with ⟨h12, h⟩ | ⟨h12, h⟩
                        · rcases cond_of h with ⟨h13, h⟩ | ⟨h13, h⟩
                          · have h := some_of h
                            subst h
                            have t_ := tR (kinfolkref05_Get_2_runs 2 l n _ h1) <| tT h2 <| tL q_3 <| tF (not_of2 h4) <| tF h5 <| tR (kinfolkref01_Zero_runs _ h6) <| tR (kinfolkref01_Zero_runs _ h6) <| tL q_7 <| tL q_8 <| tT h9 <| tF (not_of2 h10) <| tF h11 <| tF (rfl : false = false) <| tT h12 <| tT h13 <| tR (kinfolkref01_Zero_runs _ h6) <| tN
                            exact runs_of (C := cfg) (objs := [[(.pv (.bools l false)), (.pv (.int .i64 n))]]) (sc := t_.ev) (.k0 t_.pf (by kernel_rfl))
                          · have h := some_of h
                            subst h
                            have t_ := tR (kinfolkref05_Get_2_runs 2 l n _ h1) <| tT h2 <| tL q_3 <| tF (not_of2 h4) <| tF h5 <| tR (kinfolkref01_Zero_runs _ h6) <| tR (kinfolkref01_Zero_runs _ h6) <| tL q_7 <| tL q_8 <| tT h9 <| tF (not_of2 h10) <| tF h11 <| tF (rfl : false = false) <| tT h12 <| tF h13 <| tN
                            have e_ : Runs Tryd.prog 74 [(.one (.ref 0 0)), (.one (.pv (.int .i64 depth)))] [[(.pv (.bools l false)), (.pv (.int .i64 n))]] [] ([(.one (.pv (.imm [(.int .i64 2), (T_kinfolkref01_ID.pv (T_kinfolkref01_ID.mk n7 t4 t5)), (T_kinfolkref01_ID.pv (T_kinfolkref01_ID.mk n8 t6 t7))] 0))), (.one (.pv (.int .i64 0)))], [[(.pv (.bools l_4 false)), (.pv (.int .i64 n6))]], []) := runs_of (C := cfg) (objs := [[(.pv (.bools l false)), (.pv (.int .i64 n))]]) (sc := t_.ev) (.k0 t_.pf (by kernel_rfl))
                            exact e_.out ⟨.eq rfl, .eq rfl, trivial⟩ ⟨⟨.eq rfl, .eq rfl, trivial⟩, trivial⟩ trivial rfl
                        · have h := some_of h
                          subst h
                          have t_ := tR (kinfolkref05_Get_2_runs 2 l n _ h1) <| tT h2 <| tL q_3 <| tF (not_of2 h4) <| tF h5 <| tR (kinfolkref01_Zero_runs _ h6) <| tR (kinfolkref01_Zero_runs _ h6) <| tL q_7 <| tL q_8 <| tT h9 <| tF (not_of2 h10) <| tF h11 <| tF (rfl : false = false) <| tF h12 <| tF (rfl : false = false) <| tN
                          have e_ : Runs Tryd.prog 74 [(.one (.ref 0 0)), (.one (.pv (.int .i64 depth)))] [[(.pv (.bools l false)), (.pv (.int .i64 n))]] [] ([(.one (.pv (.imm [(.int .i64 2), (T_kinfolkref01_ID.pv (T_kinfolkref01_ID.mk n7 t4 t5)), (T_kinfolkref01_ID.pv (T_kinfolkref01_ID.mk n8 t6 t7))] 0))), (.one (.pv (.int .i64 0)))], [[(.pv (.bools l_4 false)), (.pv (.int .i64 n6))]], []) := runs_of (C := cfg) (objs := [[(.pv (.bools l false)), (.pv (.int .i64 n))]]) (sc := t_.ev) (.k0 t_.pf (by kernel_rfl))
                          exact e_.out ⟨.eq rfl, .eq rfl, trivial⟩ ⟨⟨.eq rfl, .eq rfl, trivial⟩, trivial⟩ trivial rfl
                  · have h := some_of h
                    subst h
                    have t_ := tR (kinfolkref05_Get_2_runs 2 l n _ h1) <| tT h2 <| tL q_3 <| tF (not_of2 h4) <| tF h5 <| tR (kinfolkref01_Zero_runs _ h6) <| tR (kinfolkref01_Zero_runs _ h6) <| tL q_7 <| tL q_8 <| tT h9 <| tT (not_of h10) <| tT (rfl : true = true) <| tT (rfl : true = true) <| tR (kinfolkref01_Zero_runs _ h6) <| tN
                    exact runs_of (C := cfg) (objs := [[(.pv (.bools l false)), (.pv (.int .i64 n))]]) (sc := t_.ev) (.k0 t_.pf (by kernel_rfl))
                · cases t3 with
                  | nil =>
                    cases h
                  | mk n8 t6 t7 =>
                    rcases cond_of h with ⟨h10, h⟩ | ⟨h10, h⟩
                    · rcases cond_of h with ⟨h11, h⟩ | ⟨h11, h⟩
                      · rcases cond_of h with ⟨h12, h⟩ | ⟨h12, h⟩
                        · rcases cond_of h with ⟨h13, h⟩ | ⟨h13, h⟩
                          · have h := some_of h
                            subst h
                            have t_ := tR (kinfolkref05_Get_2_runs 2 l n _ h1) <| tT h2 <| tL q_3 <| tF (not_of2 h4) <| tF h5 <| tR (kinfolkref01_Zero_runs _ h6) <| tR (kinfolkref01_Zero_runs _ h6) <| tL q_7 <| tL q_8 <| tF h9 <| tF (rfl : false = false) <| tT h10 <| tF (not_of2 h11) <| tT h12 <| tT h13 <| tR (kinfolkref01_Zero_runs _ h6) <| tN
                            exact runs_of (C := cfg) (objs := [[(.pv (.bools l false)), (.pv (.int .i64 n))]]) (sc := t_.ev) (.k0 t_.pf (by kernel_rfl))
                          · have h := some_of h
                            subst h
                            have t_ := tR (kinfolkref05_Get_2_runs 2 l n _ h1) <| tT h2 <| tL q_3 <| tF (not_of2 h4) <| tF h5 <| tR (kinfolkref01_Zero_runs _ h6) <| tR (kinfolkref01_Zero_runs _ h6) <| tL q_7 <| tL q_8 <| tF h9 <| tF (rfl : false = false) <| tT h10 <| tF (not_of2 h11) <| tT h12 <| tF h13 <| tN
                            have e_ : Runs Tryd.prog 74 [(.one (.ref 0 0)), (.one (.pv (.int .i64 depth)))] [[(.pv (.bools l false)), (.pv (.int .i64 n))]] [] ([(.one (.pv (.imm [(.int .i64 2), (T_kinfolkref01_ID.pv (T_kinfolkref01_ID.mk n7 t4 t5)), (T_kinfolkref01_ID.pv (T_kinfolkref01_ID.mk n8 t6 t7))] 0))), (.one (.pv (.int .i64 0)))], [[(.pv (.bools l_4 false)), (.pv (.int .i64 n6))]], []) := runs_of (C := cfg) (objs := [[(.pv (.bools l false)), (.pv (.int .i64 n))]]) (sc := t_.ev) (.k0 t_.pf (by kernel_rfl))
                            exact e_.out ⟨.eq rfl, .eq rfl, trivial⟩ ⟨⟨.eq rfl, .eq rfl, trivial⟩, trivial⟩ trivial rfl
                        · have h := some_of h
                          subst h
                          have t_ := tR (kinfolkref05_Get_2_runs 2 l n _ h1) <| tT h2 <| tL q_3 <| tF (not_of2 h4) <| tF h5 <| tR (kinfolkref01_Zero_runs _ h6) <| tR (kinfolkref01_Zero_runs _ h6) <| tL q_7 <| tL q_8 <| tF h9 <| tF (rfl : false = false) <| tT h10 <| tF (not_of2 h11) <| tF h12 <| tF (rfl : false = false) <| tN
                          have e_ : Runs Tryd.prog 74 [(.one (.ref 0 0)), (.one (.pv (.int .i64 depth)))] [[(.pv (.bools l false)), (.pv (.int .i64 n))]] [] ([(.one (.pv (.imm [(.int .i64 2), (T_kinfolkref01_ID.pv (T_kinfolkref01_ID.mk n7 t4 t5)), (T_kinfolkref01_ID.pv (T_kinfolkref01_ID.mk n8 t6 t7))] 0))), (.one (.pv (.int .i64 0)))], [[(.pv (.bools l_4 false)), (.pv (.int .i64 n6))]], []) := runs_of (C := cfg) (objs := [[(.pv (.bools l false)), (.pv (.int .i64 n))]]) (sc := t_.ev) (.k0 t_.pf (by kernel_rfl))
                          exact e_.out ⟨.eq rfl, .eq rfl, trivial⟩ ⟨⟨.eq rfl, .eq rfl, trivial⟩, trivial⟩ trivial rfl
                      · have h := some_of h
                        subst h
                        have t_ := tR (kinfolkref05_Get_2_runs 2 l n _ h1) <| tT h2 <| tL q_3 <| tF (not_of2 h4) <| tF h5 <| tR (kinfolkref01_Zero_runs _ h6) <| tR (kinfolkref01_Zero_runs _ h6) <| tL q_7 <| tL q_8 <| tF h9 <| tF (rfl : false = false) <| tT h10 <| tT (not_of h11) <| tT (rfl : true = true) <| tR (kinfolkref01_Zero_runs _ h6) <| tN
                        exact runs_of (C := cfg) (objs := [[(.pv (.bools l false)), (.pv (.int .i64 n))]]) (sc := t_.ev) (.k0 t_.pf (by kernel_rfl))
                    · rcases cond_of h with ⟨h11, h⟩ | ⟨h11, h⟩
                      · rcases cond_of h with ⟨h12, h⟩ | ⟨h12, h⟩
                        · have h := some_of h
                          subst h
                          have t_ := tR (kinfolkref05_Get_2_runs 2 l n _ h1) <| tT h2 <| tL q_3 <| tF (not_of2 h4) <| tF h5 <| tR (kinfolkref01_Zero_runs _ h6) <| tR (kinfolkref01_Zero_runs _ h6) <| tL q_7 <| tL q_8 <| tF h9 <| tF (rfl : false = false) <| tF h10 <| tF (rfl : false = false) <| tT h11 <| tT h12 <| tR (kinfolkref01_Zero_runs _ h6) <| tN
                          exact runs_of (C := cfg) (objs := [[(.pv (.bools l false)), (.pv (.int .i64 n))]]) (sc := t_.ev) (.k0 t_.pf (by kernel_rfl))
                        · have h := some_of h
                          subst h
                          have t_ := tR (kinfolkref05_Get_2_runs 2 l n _ h1) <| tT h2 <| tL q_3 <| tF (not_of2 h4) <| tF h5 <| tR (kinfolkref01_Zero_runs _ h6) <| tR (kinfolkref01_Zero_runs _ h6) <| tL q_7 <| tL q_8 <| tF h9 <| tF (rfl : false = false) <| tF h10 <| tF (rfl : false = false) <| tT h11 <| tF h12 <| tN
                          have e_ : Runs Tryd.prog 74 [(.one (.ref 0 0)), (.one (.pv (.int .i64 depth)))] [[(.pv (.bools l false)), (.pv (.int .i64 n))]] [] ([(.one (.pv (.imm [(.int .i64 2), (T_kinfolkref01_ID.pv (T_kinfolkref01_ID.mk n7 t4 t5)), (T_kinfolkref01_ID.pv (T_kinfolkref01_ID.mk n8 t6 t7))] 0))), (.one (.pv (.int .i64 0)))], [[(.pv (.bools l_4 false)), (.pv (.int .i64 n6))]], []) := runs_of (C := cfg) (objs := [[(.pv (.bools l false)), (.pv (.int .i64 n))]]) (sc := t_.ev) (.k0 t_.pf (by kernel_rfl))
                          exact e_.out ⟨.eq rfl, .eq rfl, trivial⟩ ⟨⟨.eq rfl, .eq rfl, trivial⟩, trivial⟩ trivial rfl
                      · have h := some_of h
                        subst h
                        have t_ := tR (kinfolkref05_Get_2_runs 2 l n _ h1) <| tT h2 <| tL q_3 <| tF (not_of2 h4) <| tF h5 <| tR (kinfolkref01_Zero_runs _ h6) <| tR (kinfolkref01_Zero_runs _ h6) <| tL q_7 <| tL q_8 <| tF h9 <| tF (rfl : false = false) <| tF h10 <| tF (rfl : false = false) <| tF h11 <| tF (rfl : false = false) <| tN
                        have e_ : Runs Tryd.prog 74 [(.one (.ref 0 0)), (.one (.pv (.int .i64 depth)))] [[(.pv (.bools l false)), (.pv (.int .i64 n))]] [] ([(.one (.pv (.imm [(.int .i64 2), (T_kinfolkref01_ID.pv (T_kinfolkref01_ID.mk n7 t4 t5)), (T_kinfolkref01_ID.pv (T_kinfolkref01_ID.mk n8 t6 t7))] 0))), (.one (.pv (.int .i64 0)))], [[(.pv (.bools l_4 false)), (.pv (.int .i64 n6))]], []) := runs_of (C := cfg) (objs := [[(.pv (.bools l false)), (.pv (.int .i64 n))]]) (sc := t_.ev) (.k0 t_.pf (by kernel_rfl))
                        exact e_.out ⟨.eq rfl, .eq rfl, trivial⟩ ⟨⟨.eq rfl, .eq rfl, trivial⟩, trivial⟩ trivial rfl
            · have h := some_of h
              subst h
              have t_ := tR (kinfolkref05_Get_2_runs 2 l n _ h1) <| tT h2 <| tL q_3 <| tF (not_of2 h4) <| tF h5 <| tR (kinfolkref01_Zero_runs _ h6) <| tR (kinfolkref01_Zero_runs _ h6) <| tL q_7 <| tL (kinfolkref07_GetID_C58_runs rec_kinfolkref07_GetID_4 hrec_kinfolkref07_GetID_4 depth n2 t2 t (!(decide ((n2 : Int) = 2))) l_3 n5 _ h8) <| tN
              exact runs_of (C := cfg) (objs := [[(.pv (.bools l false)), (.pv (.int .i64 n))]]) (sc := t_.ev) (.k0 t_.pf (by kernel_rfl))
          · have h := some_of h
            subst h
            have t_ := tR (kinfolkref05_Get_2_runs 2 l n _ h1) <| tT h2 <| tL q_3 <| tF (not_of2 h4) <| tF h5 <| tR (kinfolkref01_Zero_runs _ h6) <| tR (kinfolkref01_Zero_runs _ h6) <| tL (kinfolkref07_GetID_C45_2_runs rec_kinfolkref07_GetID_4 hrec_kinfolkref07_GetID_4 depth n2 t t (!(decide ((n2 : Int) = 1))) l_2 n4 _ h7) <| tN
            exact runs_of (C := cfg) (objs := [[(.pv (.bools l false)), (.pv (.int .i64 n))]]) (sc := t_.ev) (.k0 t_.pf (by kernel_rfl))
      · obtain ⟨t, h5, h⟩ := bind_of h
        have h := some_of h
        subst h
        have t_ := tR (kinfolkref05_Get_2_runs 2 l n _ h1) <| tT h2 <| tL q_3 <| tT (not_of h4) <| tR (kinfolkref01_Zero_runs _ h5) <| tN
        exact runs_of (C := cfg) (objs := [[(.pv (.bools l false)), (.pv (.int .i64 n))]]) (sc := t_.ev) (.k0 t_.pf (by kernel_rfl))
  · obtain ⟨t, h3, h⟩ := bind_of h
    have h := some_of h
    subst h
    have t_ := tR (kinfolkref05_Get_2_runs 2 l n _ h1) <| tF h2 <| tF (rfl : false = false) <| tT (not_of h2) <| tR (kinfolkref01_Zero_runs _ h3) <| tN
    exact runs_of (C := cfg) (objs := [[(.pv (.bools l false)), (.pv (.int .i64 n))]]) (sc := t_.ev) (.k0 t_.pf (by kernel_rfl))
noncomputable def kinfolkref07_GetID_4 : Nat → Int → List Bool → Int → Option (T_kinfolkref01_ID × Int × List Bool × Int)
  | 0, _, _, _ => none
  | N + 1, depth, l, n => kinfolkref07_GetID_4_b (kinfolkref07_GetID_4 N) depth l n
theorem kinfolkref07_GetID_4_runs : ∀ (N : Nat) (depth : Int) (l : List Bool) (n : Int) (r_ : T_kinfolkref01_ID × Int × List Bool × Int), kinfolkref07_GetID_4 N depth l n = some r_ → Runs Tryd.prog 74 [(.one (.ref 0 0)), (.one (.pv (.int .i64 depth)))] [[(.pv (.bools l false)), (.pv (.int .i64 n))]] [] (kinfolkref07_GetID_4_out depth l n r_)
  | 0, _, _, _, _, h => by cases h
  | N + 1, depth, l, n, r_, h => kinfolkref07_GetID_4_b_runs (kinfolkref07_GetID_4 N) (kinfolkref07_GetID_4_runs N) depth l n r_ h
/-! ### kinfolkref07_GetID_C45 -/
def kinfolkref07_GetID_C45_ex (depth : Int) (kind : Int) (x : T_kinfolkref01_ID) (y : T_kinfolkref01_ID) (b : Bool) (l : List Bool) (n : Int) : (T_kinfolkref01_ID × List Bool × Int) ⊕ (T_kinfolkref01_ID × Int × List Bool × Int) → Ex × St
  | .inl (r1, r2, r3) => (.normal, ⟨[(0, (.av (.one (.ref 0 0)))), (1, (.av (.one (.pv (.int .i64 depth))))), (6, (.av (.one (.pv (.int .u64 kind))))), (8, (.av (.one (.pv (T_kinfolkref01_ID.pv r1))))), (9, (.av (.one (.pv (T_kinfolkref01_ID.pv y)))))], [(0, [(.pv (.bools r2 false)), (.pv (.int .i64 r3))])], []⟩)
  | .inr (r1, r2, r3, r4) => (.ret, ⟨[(4, (.av (.one (.pv (T_kinfolkref01_ID.pv r1))))), (5, (.av (.one (.pv (.int .i64 r2)))))], [(0, [(.pv (.bools r3 false)), (.pv (.int .i64 r4))])], []⟩)
noncomputable def kinfolkref07_GetID_C45 (N : Nat) (depth : Int) (kind : Int) (x : T_kinfolkref01_ID) (y : T_kinfolkref01_ID) (b : Bool) (l : List Bool) (n : Int) : Option ((T_kinfolkref01_ID × List Bool × Int) ⊕ (T_kinfolkref01_ID × Int × List Bool × Int)) :=
  bif b then
    (kinfolkref07_GetID_4 N (iadd .i64 depth 1) l n).bind fun (t, n2, l_, n3) =>
    bif (decide ((n2 : Int) = 0)) then
      some (.inl (t, l_, n3))
    else
      (kinfolkref01_Zero).bind fun t2 =>
      some (.inr (t2, n2, l_, n3))
  else
    some (.inl (x, l, n))
theorem kinfolkref07_GetID_C45_runs (N : Nat) (depth : Int) (kind : Int) (x : T_kinfolkref01_ID) (y : T_kinfolkref01_ID) (b : Bool) (l : List Bool) (n : Int) (r_ : (T_kinfolkref01_ID × List Bool × Int) ⊕ (T_kinfolkref01_ID × Int × List Bool × Int)) (h : kinfolkref07_GetID_C45 N depth kind x y b l n = some r_) : LRuns Tryd.prog (lEnv Tryd.prog cfg 74 1).nt 1 (.cond (.tmp 45) (condAt Tryd.prog 74 45).1 (condAt Tryd.prog 74 45).2) ⟨[(0, (.av (.one (.ref 0 0)))), (1, (.av (.one (.pv (.int .i64 depth))))), (6, (.av (.one (.pv (.int .u64 kind))))), (8, (.av (.one (.pv (T_kinfolkref01_ID.pv x))))), (9, (.av (.one (.pv (T_kinfolkref01_ID.pv y))))), (45, (.av (.one (.pv (.bool b)))))], [(0, [(.pv (.bools l false)), (.pv (.int .i64 n))])], []⟩ (kinfolkref07_GetID_C45_ex depth kind x y b l n r_).1 (kinfolkref07_GetID_C45_ex depth kind x y b l n r_).2 := by
  unfold kinfolkref07_GetID_C45 at h
  rcases cond_of h with ⟨h1, h⟩ | ⟨h1, h⟩
  · obtain ⟨⟨t, n2, l_, n3⟩, h2, h⟩ := bind_of h
    have q_2 := (kinfolkref07_GetID_4_runs N (iadd .i64 depth 1) l n _ h2)
    rcases cond_of h with ⟨h3, h⟩ | ⟨h3, h⟩
    · have h := some_of h
      subst h
      have t_ := tT h1 <| tR q_2 <| tF (not_of2 h3) <| tN
      exact piece_ok (C := cfg) (sc := t_.ev) (.k0 t_.pf (by kernel_rfl))
    · obtain ⟨t2, h4, h⟩ := bind_of h
      have h := some_of h
      subst h
      have t_ := tT h1 <| tR q_2 <| tT (not_of h3) <| tR (kinfolkref01_Zero_runs _ h4) <| tN
      exact piece_ok (C := cfg) (sc := t_.ev) (.k0 t_.pf (by kernel_rfl))
  · have h := some_of h
    subst h
    have t_ := tF h1 <| tN
    exact piece_ok (C := cfg) (sc := t_.ev) (.k0 t_.pf (by kernel_rfl))
/-! ### kinfolkref07_GetID_3 -/
noncomputable def kinfolkref07_GetID_3 (N : Nat) (depth : Int) (n : Int) (l : List Bool) : Option (T_kinfolkref01_ID × Int × List Bool × Int) :=
  (kinfolkref05_Get 2 n l).bind fun (n2, l_, n3) =>
  bif (decide ((n3 : Int) = 0)) then
    (kinfolkref07_GetID_C21 depth n2 (decide ((n2 : Int) = 0)) l_ n3).bind fun z_ => match z_ with
    | .inl (t, l_2, n4) =>
      some (t, 0, l_2, n4)
    | .inr (l_2, n4) =>
      bif (decide ((n4 : Int) = 0)) then
        bif (decide ((depth : Int) = 16)) then
          (kinfolkref01_Zero).bind fun t =>
          some (t, 3, l_2, n4)
        else
          (kinfolkref01_Zero).bind fun t =>
          (kinfolkref07_GetID_C45 N depth n2 t t (!(decide ((n2 : Int) = 1))) l_2 n4).bind fun z_ => match z_ with
          | .inl (t2, l_3, n5) =>
            (kinfolkref07_GetID_C58 (kinfolkref07_GetID_4 N) depth n2 t2 t (!(decide ((n2 : Int) = 2))) l_3 n5).bind fun z_ => match z_ with
            | .inl (t3, l_4, n6) =>
              match t2 with
              | .nil =>
                none
              | .mk n7 t4 t5 =>
                bif (decide ((n7 : Int) = 0)) then
                  bif (decide ((n2 : Int) = 1)) then
                    match t3 with
                    | .nil =>
                      none
                    | .mk n8 t6 t7 =>
                      bif (decide ((n8 : Int) = 0)) then
                        bif (decide ((n2 : Int) = 2)) then
                          bif (decide ((n7 : Int) = 1)) then
                            bif (decide ((n8 : Int) = 1)) then
                              some (t, 6, l_4, n6)
                            else
                              some ((T_kinfolkref01_ID.mk 2 t2 t3), 0, l_4, n6)
                          else
                            some ((T_kinfolkref01_ID.mk 2 t2 t3), 0, l_4, n6)
                        else
                          some (t, 6, l_4, n6)
                      else
                        bif (decide ((n7 : Int) = 1)) then
                          bif (decide ((n8 : Int) = 1)) then
                            some (t, 6, l_4, n6)
                          else
                            some ((T_kinfolkref01_ID.mk 2 t2 t3), 0, l_4, n6)
                        else
                          some ((T_kinfolkref01_ID.mk 2 t2 t3), 0, l_4, n6)
                  else
                    some (t, 6, l_4, n6)
                else
                  match t3 with
                  | .nil =>
                    none
                  | .mk n8 t6 t7 =>
                    bif (decide ((n8 : Int) = 0)) then
                      bif (decide ((n2 : Int) = 2)) then
                        bif (decide ((n7 : Int) = 1)) then
                          bif (decide ((n8 : Int) = 1)) then
                            some (t, 6, l_4, n6)
                          else
                            some ((T_kinfolkref01_ID.mk 2 t2 t3), 0, l_4, n6)
                        else
                          some ((T_kinfolkref01_ID.mk 2 t2 t3), 0, l_4, n6)
                      else
                        some (t, 6, l_4, n6)
                    else
                      bif (decide ((n7 : Int) = 1)) then
                        bif (decide ((n8 : Int) = 1)) then
                          some (t, 6, l_4, n6)
                        else
                          some ((T_kinfolkref01_ID.mk 2 t2 t3), 0, l_4, n6)
                      else
                        some ((T_kinfolkref01_ID.mk 2 t2 t3), 0, l_4, n6)
            | .inr (t3, n6, l_4, n7) =>
              some (t3, n6, l_4, n7)
          | .inr (t2, n5, l_3, n6) =>
            some (t2, n5, l_3, n6)
      else
        (kinfolkref01_Zero).bind fun t =>
        some (t, 6, l_2, n4)
  else
    (kinfolkref01_Zero).bind fun t =>
    some (t, 6, l_, n3)
theorem kinfolkref07_GetID_3_runs (N : Nat) (depth : Int) (n : Int) (l : List Bool) (r_ : T_kinfolkref01_ID × Int × List Bool × Int) (h : kinfolkref07_GetID_3 N depth n l = some r_) : Runs Tryd.prog 74 [(.one (.ref 0 0)), (.one (.pv (.int .i64 depth)))] [[(.own 0 0 (l).length false), (.pv (.int .i64 n))]] [(.bools l)] (kinfolkref07_GetID_3_out depth n l r_) := by
  unfold kinfolkref07_GetID_3 at h
  obtain ⟨⟨n2, l_, n3⟩, h1, h⟩ := bind_of h
  rcases cond_of h with ⟨h2, h⟩ | ⟨h2, h⟩
  · obtain ⟨z_, h3, h⟩ := bind_of h
    rcases z_ with ⟨t, l_2, n4⟩ | ⟨l_2, n4⟩
    · have h := some_of h
      subst h
      have t_ := tR (kinfolkref05_Get_runs 2 n l _ h1) <| tT h2 <| tL (kinfolkref07_GetID_C21_runs depth n2 (decide ((n2 : Int) = 0)) l_ n3 _ h3) <| tN
      exact runs_of (C := cfg) (objs := [[(.own 0 0 (l).length false), (.pv (.int .i64 n))]]) (sc := t_.ev) (.k0 t_.pf (by kernel_rfl))
    · have q_3 := (kinfolkref07_GetID_C21_runs depth n2 (decide ((n2 : Int) = 0)) l_ n3 _ h3)
      rcases cond_of h with ⟨h4, h⟩ | ⟨h4, h⟩
      · rcases cond_of h with ⟨h5, h⟩ | ⟨h5, h⟩
        · obtain ⟨t, h6, h⟩ := bind_of h
          have h := some_of h
          subst h
          have t_ := tR (kinfolkref05_Get_runs 2 n l _ h1) <| tT h2 <| tL q_3 <| tF (not_of2 h4) <| tT h5 <| tR (kinfolkref01_Zero_runs _ h6) <| tN
          exact runs_of (C := cfg) (objs := [[(.own 0 0 (l).length false), (.pv (.int .i64 n))]]) (sc := t_.ev) (.k0 t_.pf (by kernel_rfl))
        · obtain ⟨t, h6, h⟩ := bind_of h
          obtain ⟨z_, h7, h⟩ := bind_of h
          rcases z_ with ⟨t2, l_3, n5⟩ | ⟨t2, n5, l_3, n6⟩
          · have q_7 := (kinfolkref07_GetID_C45_runs N depth n2 t t (!(decide ((n2 : Int) = 1))) l_2 n4 _ h7)
            obtain ⟨z_, h8, h⟩ := bind_of h
            rcases z_ with ⟨t3, l_4, n6⟩ | ⟨t3, n6, l_4, n7⟩
            · have q_8 := (kinfolkref07_GetID_C58_runs (kinfolkref07_GetID_4 N) (kinfolkref07_GetID_4_runs N) depth n2 t2 t (!(decide ((n2 : Int) = 2))) l_3 n5 _ h8)
              cases t2 with
              | nil =>
                cases h
              | mk n7 t4 t5 =>
                rcases cond_of h with ⟨h9, h⟩ | ⟨h9, h⟩
                · rcases cond_of h with ⟨h10, h⟩ | ⟨h10, h⟩
                  · cases t3 with
                    | nil =>
                      cases h
                    | mk n8 t6 t7 =>
                      rcases cond_of h with ⟨h11, h⟩ | ⟨h11, h⟩
                      · rcases cond_of h with ⟨h12, h⟩ | ⟨h12, h⟩
                        · rcases cond_of h with ⟨h13, h⟩ | ⟨h13, h⟩
                          · rcases cond_of h with ⟨h14, h⟩ | ⟨h14, h⟩
                            · have h := some_of h
                              subst h
                              have t_ := tR (kinfolkref05_Get_runs 2 n l _ h1) <| tT h2 <| tL q_3 <| tF (not_of2 h4) <| tF h5 <| tR (kinfolkref01_Zero_runs _ h6) <| tR (kinfolkref01_Zero_runs _ h6) <| tL q_7 <| tL q_8 <| tT h9 <| tF (not_of2 h10) <| tT h11 <| tF (not_of2 h12) <| tT h13 <| tT h14 <| tR (kinfolkref01_Zero_runs _ h6) <| tN
                              exact runs_of (C := cfg) (objs := [[(.own 0 0 (l).length false), (.pv (.int .i64 n))]]) (sc := t_.ev) (.k0 t_.pf (by kernel_rfl))
                            · have h := some_of h
                              subst h
                              have t_ := tR (kinfolkref05_Get_runs 2 n l _ h1) <| tT h2 <| tL q_3 <| tF (not_of2 h4) <| tF h5 <| tR (kinfolkref01_Zero_runs _ h6) <| tR (kinfolkref01_Zero_runs _ h6) <| tL q_7 <| tL q_8 <| tT h9 <| tF (not_of2 h10) <| tT h11 <| tF (not_of2 h12) <| tT h13 <| tF h14 <| tN
                              have e_ : Runs Tryd.prog 74 [(.one (.ref 0 0)), (.one (.pv (.int .i64 depth)))] [[(.own 0 0 (l).length false), (.pv (.int .i64 n))]] [(.bools l)] ([(.one (.pv (.imm [(.int .i64 2), (T_kinfolkref01_ID.pv (T_kinfolkref01_ID.mk n7 t4 t5)), (T_kinfolkref01_ID.pv (T_kinfolkref01_ID.mk n8 t6 t7))] 0))), (.one (.pv (.int .i64 0)))], [[(.pv (.bools l_4 false)), (.pv (.int .i64 n6))]], []) := runs_of (C := cfg) (objs := [[(.own 0 0 (l).length false), (.pv (.int .i64 n))]]) (sc := t_.ev) (.k0 t_.pf (by kernel_rfl))
                              exact e_.out ⟨.eq rfl, .eq rfl, trivial⟩ ⟨⟨.eq rfl, .eq rfl, trivial⟩, trivial⟩ trivial rfl
                          · have h := some_of h
                            subst h
                            have t_ := tR (kinfolkref05_Get_runs 2 n l _ h1) <| tT h2 <| tL q_3 <| tF (not_of2 h4) <| tF h5 <| tR (kinfolkref01_Zero_runs _ h6) <| tR (kinfolkref01_Zero_runs _ h6) <| tL q_7 <| tL q_8 <| tT h9 <| tF (not_of2 h10) <| tT h11 <| tF (not_of2 h12) <| tF h13 <| tF (rfl : false = false) <| tN
                            have e_ : Runs Tryd.prog 74 [(.one (.ref 0 0)), (.one (.pv (.int .i64 depth)))] [[(.own 0 0 (l).length false), (.pv (.int .i64 n))]] [(.bools l)] ([(.one (.pv (.imm [(.int .i64 2), (T_kinfolkref01_ID.pv (T_kinfolkref01_ID.mk n7 t4 t5)), (T_kinfolkref01_ID.pv (T_kinfolkref01_ID.mk n8 t6 t7))] 0))), (.one (.pv (.int .i64 0)))], [[(.pv (.bools l_4 false)), (.pv (.int .i64 n6))]], []) := runs_of (C := cfg) (objs := [[(.own 0 0 (l).length false), (.pv (.int .i64 n))]]) (sc := t_.ev) (.k0 t_.pf (by kernel_rfl))
                            exact e_.out ⟨.eq rfl, .eq rfl, trivial⟩ ⟨⟨.eq rfl, .eq rfl, trivial⟩, trivial⟩ trivial rfl
                        · have h := some_of h
                          subst h
                          have t_ := tR (kinfolkref05_Get_runs 2 n l _ h1) <| tT h2 <| tL q_3 <| tF (not_of2 h4) <| tF h5 <| tR (kinfolkref01_Zero_runs _ h6) <| tR (kinfolkref01_Zero_runs _ h6) <| tL q_7 <| tL q_8 <| tT h9 <| tF (not_of2 h10) <| tT h11 <| tT (not_of h12) <| tT (rfl : true = true) <| tR (kinfolkref01_Zero_runs _ h6) <| tN
                          exact runs_of (C := cfg) (objs := [[(.own 0 0 (l).length false), (.pv (.int .i64 n))]]) (sc := t_.ev) (.k0 t_.pf (by kernel_rfl))
                      · rcases cond_of h with ⟨h12, h⟩ | ⟨h12, h⟩
                        · rcases cond_of h with ⟨h13, h⟩ | ⟨h13, h⟩
                          · have h := some_of h
                            subst h
                            have t_ := tR (kinfolkref05_Get_runs 2 n l _ h1) <| tT h2 <| tL q_3 <| tF (not_of2 h4) <| tF h5 <| tR (kinfolkref01_Zero_runs _ h6) <| tR (kinfolkref01_Zero_runs _ h6) <| tL q_7 <| tL q_8 <| tT h9 <| tF (not_of2 h10) <| tF h11 <| tF (rfl : false = false) <| tT h12 <| tT h13 <| tR (kinfolkref01_Zero_runs _ h6) <| tN
                            exact runs_of (C := cfg) (objs := [[(.own 0 0 (l).length false), (.pv (.int .i64 n))]]) (sc := t_.ev) (.k0 t_.pf (by kernel_rfl))
                          · have h := some_of h
                            subst h
                            have t_ := tR (kinfolkref05_Get_runs 2 n l _ h1) <| tT h2 <| tL q_3 <| tF (not_of2 h4) <| tF h5 <| tR (kinfolkref01_Zero_runs _ h6) <| tR (kinfolkref01_Zero_runs _ h6) <| tL q_7 <| tL q_8 <| tT h9 <| tF (not_of2 h10) <| tF h11 <| tF (rfl : false = false) <| tT h12 <| tF h13 <| tN
                            have e_ : Runs Tryd.prog 74 [(.one (.ref 0 0)), (.one (.pv (.int .i64 depth)))] [[(.own 0 0 (l).length false), (.pv (.int .i64 n))]] [(.bools l)] ([(.one (.pv (.imm [(.int .i64 2), (T_kinfolkref01_ID.pv (T_kinfolkref01_ID.mk n7 t4 t5)), (T_kinfolkref01_ID.pv (T_kinfolkref01_ID.mk n8 t6 t7))] 0))), (.one (.pv (.int .i64 0)))], [[(.pv (.bools l_4 false)), (.pv (.int .i64 n6))]], []) := runs_of (C := cfg) (objs := [[(.own 0 0 (l).length false), (.pv (.int .i64 n))]]) (sc := t_.ev) (.k0 t_.pf (by kernel_rfl))
                            exact e_.out ⟨.eq rfl, .eq rfl, trivial⟩ ⟨⟨.eq rfl, .eq rfl, trivial⟩, trivial⟩ trivial rfl
                        · have h := some_of h
                          subst h
                          have t_ := tR (kinfolkref05_Get_runs 2 n l _ h1) <| tT h2 <| tL q_3 <| tF (not_of2 h4) <| tF h5 <| tR (kinfolkref01_Zero_runs _ h6) <| tR (kinfolkref01_Zero_runs _ h6) <| tL q_7 <| tL q_8 <| tT h9 <| tF (not_of2 h10) <| tF h11 <| tF (rfl : false = false) <| tF h12 <| tF (rfl : false = false) <| tN
                          have e_ : Runs Tryd.prog 74 [(.one (.ref 0 0)), (.one (.pv (.int .i64 depth)))] [[(.own 0 0 (l).length false), (.pv (.int .i64 n))]] [(.bools l)] ([(.one (.pv (.imm [(.int .i64 2), (T_kinfolkref01_ID.pv (T_kinfolkref01_ID.mk n7 t4 t5)), (T_kinfolkref01_ID.pv (T_kinfolkref01_ID.mk n8 t6 t7))] 0))), (.one (.pv (.int .i64 0)))], [[(.pv (.bools l_4 false)), (.pv (.int .i64 n6))]], []) := runs_of (C := cfg) (objs := [[(.own 0 0 (l).length false), (.pv (.int .i64 n))]]) (sc := t_.ev) (.k0 t_.pf (by kernel_rfl))
                          exact e_.out ⟨.eq rfl, .eq rfl, trivial⟩ ⟨⟨.eq rfl, .eq rfl, trivial⟩, trivial⟩ trivial rfl
                  · have h := some_of h
                    subst h
                    have t_ := tR (kinfolkref05_Get_runs 2 n l _ h1) <| tT h2 <| tL q_3 <| tF (not_of2 h4) <| tF h5 <| tR (kinfolkref01_Zero_runs _ h6) <| tR (kinfolkref01_Zero_runs _ h6) <| tL q_7 <| tL q_8 <| tT h9 <| tT (not_of h10) <| tT (rfl : true = true) <| tT (rfl : true = true) <| tR (kinfolkref01_Zero_runs _ h6) <| tN
                    exact runs_of (C := cfg) (objs := [[(.own 0 0 (l).length false), (.pv (.int .i64 n))]]) (sc := t_.ev) (.k0 t_.pf (by kernel_rfl))
                · cases t3 with
                  | nil =>
                    cases h
                  | mk n8 t6 t7 =>
                    rcases cond_of h with ⟨h10, h⟩ | ⟨h10, h⟩
                    · rcases cond_of h with ⟨h11, h⟩ | ⟨h11, h⟩
                      · rcases cond_of h with ⟨h12, h⟩ | ⟨h12, h⟩
                        · rcases cond_of h with ⟨h13, h⟩ | ⟨h13, h⟩
                          · have h := some_of h
                            subst h
                            have t_ := tR (kinfolkref05_Get_runs 2 n l _ h1) <| tT h2 <| tL q_3 <| tF (not_of2 h4) <| tF h5 <| tR (kinfolkref01_Zero_runs _ h6) <| tR (kinfolkref01_Zero_runs _ h6) <| tL q_7 <| tL q_8 <| tF h9 <| tF (rfl : false = false) <| tT h10 <| tF (not_of2 h11) <| tT h12 <| tT h13 <| tR (kinfolkref01_Zero_runs _ h6) <| tN
                            exact runs_of (C := cfg) (objs := [[(.own 0 0 (l).length false), (.pv (.int .i64 n))]]) (sc := t_.ev) (.k0 t_.pf (by kernel_rfl))
                          · have h := some_of h
                            subst h
                            have t_ := tR (kinfolkref05_Get_runs 2 n l _ h1) <| tT h2 <| tL q_3 <| tF (not_of2 h4) <| tF h5 <| tR (kinfolkref01_Zero_runs _ h6) <| tR (kinfolkref01_Zero_runs _ h6) <| tL q_7 <| tL q_8 <| tF h9 <| tF (rfl : false = false) <| tT h10 <| tF (not_of2 h11) <| tT h12 <| tF h13 <| tN
                            have e_ : Runs Tryd.prog 74 [(.one (.ref 0 0)), (.one (.pv (.int .i64 depth)))] [[(.own 0 0 (l).length false), (.pv (.int .i64 n))]] [(.bools l)] ([(.one (.pv (.imm [(.int .i64 2), (T_kinfolkref01_ID.pv (T_kinfolkref01_ID.mk n7 t4 t5)), (T_kinfolkref01_ID.pv (T_kinfolkref01_ID.mk n8 t6 t7))] 0))), (.one (.pv (.int .i64 0)))], [[(.pv (.bools l_4 false)), (.pv (.int .i64 n6))]], []) := runs_of (C := cfg) (objs := [[(.own 0 0 (l).length false), (.pv (.int .i64 n))]]) (sc := t_.ev) (.k0 t_.pf (by kernel_rfl))
                            exact e_.out ⟨.eq rfl, .eq rfl, trivial⟩ ⟨⟨.eq rfl, .eq rfl, trivial⟩, trivial⟩ trivial rfl
                        · have h := some_of h
                          subst h
                          have t_ := tR (kinfolkref05_Get_runs 2 n l _ h1) <| tT h2 <| tL q_3 <| tF (not_of2 h4) <| tF h5 <| tR (kinfolkref01_Zero_runs _ h6) <| tR (kinfolkref01_Zero_runs _ h6) <| tL q_7 <| tL q_8 <| tF h9 <| tF (rfl : false = false) <| tT h10 <| tF (not_of2 h11) <| tF h12 <| tF (rfl : false = false) <| tN
                          have e_ : Runs Tryd.prog 74 [(.one (.ref 0 0)), (.one (.pv (.int .i64 depth)))] [[(.own 0 0 (l).length false), (.pv (.int .i64 n))]] [(.bools l)] ([(.one (.pv (.imm [(.int .i64 2), (T_kinfolkref01_ID.pv (T_kinfolkref01_ID.mk n7 t4 t5)), (T_kinfolkref01_ID.pv (T_kinfolkref01_ID.mk n8 t6 t7))] 0))), (.one (.pv (.int .i64 0)))], [[(.pv (.bools l_4 false)), (.pv (.int .i64 n6))]], []) := runs_of (C := cfg) (objs := [[(.own 0 0 (l).length false), (.pv (.int .i64 n))]]) (sc := t_.ev) (.k0 t_.pf (by kernel_rfl))
                          exact e_.out ⟨.eq rfl, .eq rfl, trivial⟩ ⟨⟨.eq rfl, .eq rfl, trivial⟩, trivial⟩ trivial rfl
                      · have h := some_of h
                        subst h
                        have t_ := tR (kinfolkref05_Get_runs 2 n l _ h1) <| tT h2 <| tL q_3 <| tF (not_of2 h4) <| tF h5 <| tR (kinfolkref01_Zero_runs _ h6) <| tR (kinfolkref01_Zero_runs _ h6) <| tL q_7 <| tL q_8 <| tF h9 <| tF (rfl : false = false) <| tT h10 <| tT (not_of h11) <| tT (rfl : true = true) <| tR (kinfolkref01_Zero_runs _ h6) <| tN
                        exact runs_of (C := cfg) (objs := [[(.own 0 0 (l).length false), (.pv (.int .i64 n))]]) (sc := t_.ev) (.k0 t_.pf (by kernel_rfl))
                    · rcases cond_of h with ⟨h11, h⟩ | ⟨h11, h⟩
                      · rcases cond_of h with ⟨h12, h⟩ | ⟨h12, h⟩
                        · have h := some_of h
                          subst h
                          have t_ := tR (kinfolkref05_Get_runs 2 n l _ h1) <| tT h2 <| tL q_3 <| tF (not_of2 h4) <| tF h5 <| tR (kinfolkref01_Zero_runs _ h6) <| tR (kinfolkref01_Zero_runs _ h6) <| tL q_7 <| tL q_8 <| tF h9 <| tF (rfl : false = false) <| tF h10 <| tF (rfl : false = false) <| tT h11 <| tT h12 <| tR (kinfolkref01_Zero_runs _ h6) <| tN
                          exact runs_of (C := cfg) (objs := [[(.own 0 0 (l).length false), (.pv (.int .i64 n))]]) (sc := t_.ev) (.k0 t_.pf (by kernel_rfl))
                        · have h := some_of h
                          subst h
                          have t_ := tR (kinfolkref05_Get_runs 2 n l _ h1) <| tT h2 <| tL q_3 <| tF (not_of2 h4) <| tF h5 <| tR (kinfolkref01_Zero_runs _ h6) <| tR (kinfolkref01_Zero_runs _ h6) <| tL q_7 <| tL q_8 <| tF h9 <| tF (rfl : false = false) <| tF h10 <| tF (rfl : false = false) <| tT h11 <| tF h12 <| tN
                          have e_ : Runs Tryd.prog 74 [(.one (.ref 0 0)), (.one (.pv (.int .i64 depth)))] [[(.own 0 0 (l).length false), (.pv (.int .i64 n))]] [(.bools l)] ([(.one (.pv (.imm [(.int .i64 2), (T_kinfolkref01_ID.pv (T_kinfolkref01_ID.mk n7 t4 t5)), (T_kinfolkref01_ID.pv (T_kinfolkref01_ID.mk n8 t6 t7))] 0))), (.one (.pv (.int .i64 0)))], [[(.pv (.bools l_4 false)), (.pv (.int .i64 n6))]], []) := runs_of (C := cfg) (objs := [[(.own 0 0 (l).length false), (.pv (.int .i64 n))]]) (sc := t_.ev) (.k0 t_.pf (by kernel_rfl))
                          exact e_.out ⟨.eq rfl, .eq rfl, trivial⟩ ⟨⟨.eq rfl, .eq rfl, trivial⟩, trivial⟩ trivial rfl
                      · have h := some_of h
                        subst h
                        have t_ := tR (kinfolkref05_Get_runs 2 n l _ h1) <| tT h2 <| tL q_3 <| tF (not_of2 h4) <| tF h5 <| tR (kinfolkref01_Zero_runs _ h6) <| tR (kinfolkref01_Zero_runs _ h6) <| tL q_7 <| tL q_8 <| tF h9 <| tF (rfl : false = false) <| tF h10 <| tF (rfl : false = false) <| tF h11 <| tF (rfl : false = false) <| tN
                        have e_ : Runs Tryd.prog 74 [(.one (.ref 0 0)), (.one (.pv (.int .i64 depth)))] [[(.own 0 0 (l).length false), (.pv (.int .i64 n))]] [(.bools l)] ([(.one (.pv (.imm [(.int .i64 2), (T_kinfolkref01_ID.pv (T_kinfolkref01_ID.mk n7 t4 t5)), (T_kinfolkref01_ID.pv (T_kinfolkref01_ID.mk n8 t6 t7))] 0))), (.one (.pv (.int .i64 0)))], [[(.pv (.bools l_4 false)), (.pv (.int .i64 n6))]], []) := runs_of (C := cfg) (objs := [[(.own 0 0 (l).length false), (.pv (.int .i64 n))]]) (sc := t_.ev) (.k0 t_.pf (by kernel_rfl))
                        exact e_.out ⟨.eq rfl, .eq rfl, trivial⟩ ⟨⟨.eq rfl, .eq rfl, trivial⟩, trivial⟩ trivial rfl
            · have h := some_of h
              subst h
              have t_ := tR (kinfolkref05_Get_runs 2 n l _ h1) <| tT h2 <| tL q_3 <| tF (not_of2 h4) <| tF h5 <| tR (kinfolkref01_Zero_runs _ h6) <| tR (kinfolkref01_Zero_runs _ h6) <| tL q_7 <| tL (kinfolkref07_GetID_C58_runs (kinfolkref07_GetID_4 N) (kinfolkref07_GetID_4_runs N) depth n2 t2 t (!(decide ((n2 : Int) = 2))) l_3 n5 _ h8) <| tN
              exact runs_of (C := cfg) (objs := [[(.own 0 0 (l).length false), (.pv (.int .i64 n))]]) (sc := t_.ev) (.k0 t_.pf (by kernel_rfl))
          · have h := some_of h
            subst h
            have t_ := tR (kinfolkref05_Get_runs 2 n l _ h1) <| tT h2 <| tL q_3 <| tF (not_of2 h4) <| tF h5 <| tR (kinfolkref01_Zero_runs _ h6) <| tR (kinfolkref01_Zero_runs _ h6) <| tL (kinfolkref07_GetID_C45_runs N depth n2 t t (!(decide ((n2 : Int) = 1))) l_2 n4 _ h7) <| tN
            exact runs_of (C := cfg) (objs := [[(.own 0 0 (l).length false), (.pv (.int .i64 n))]]) (sc := t_.ev) (.k0 t_.pf (by kernel_rfl))
      · obtain ⟨t, h5, h⟩ := bind_of h
        have h := some_of h
        subst h
        have t_ := tR (kinfolkref05_Get_runs 2 n l _ h1) <| tT h2 <| tL q_3 <| tT (not_of h4) <| tR (kinfolkref01_Zero_runs _ h5) <| tN
        exact runs_of (C := cfg) (objs := [[(.own 0 0 (l).length false), (.pv (.int .i64 n))]]) (sc := t_.ev) (.k0 t_.pf (by kernel_rfl))
  · obtain ⟨t, h3, h⟩ := bind_of h
    have h := some_of h
    subst h
    have t_ := tR (kinfolkref05_Get_runs 2 n l _ h1) <| tF h2 <| tF (rfl : false = false) <| tT (not_of h2) <| tR (kinfolkref01_Zero_runs _ h3) <| tN
    exact runs_of (C := cfg) (objs := [[(.own 0 0 (l).length false), (.pv (.int .i64 n))]]) (sc := t_.ev) (.k0 t_.pf (by kernel_rfl))
/-! ### kinfolkref02_Leaf_out -/
def kinfolkref02_Leaf_out (n : Int) : T_kinfolkref02_Event → Res
  | r1 => ([(.one (.pv (T_kinfolkref02_Event.pv r1)))], [], [])
/-! ### kinfolkref02_Leaf -/
noncomputable def kinfolkref02_Leaf (n : Int) : Option (T_kinfolkref02_Event) :=
  some (T_kinfolkref02_Event.mk n T_kinfolkref02_Event.nil T_kinfolkref02_Event.nil)
theorem kinfolkref02_Leaf_runs (n : Int) (r_ : T_kinfolkref02_Event) (h : kinfolkref02_Leaf n = some r_) : Runs Tryd.prog 59 [(.one (.pv (.int .u64 n)))] [] [] (kinfolkref02_Leaf_out n r_) := by
  unfold kinfolkref02_Leaf at h
  have h := some_of h
  subst h
  have t_ := tN
  have e_ : Runs Tryd.prog 59 [(.one (.pv (.int .u64 n)))] [] [] ([(.one (.pv (.imm [(.int .u64 n), .nilp, .nilp] 0)))], [], []) := runs_of (C := cfg) (objs := []) (sc := t_.ev) (.k0 t_.pf (by kernel_rfl))
  exact e_.out ⟨.eq rfl, trivial⟩ trivial trivial rfl
/-! ### kinfolkref07_GetEvent_2_out -/
def kinfolkref07_GetEvent_2_out (depth : Int) (l : List Bool) (n : Int) : T_kinfolkref02_Event × Int × List Bool × Int → Res
  | (r1, r2, r3, r4) => ([(.one (.pv (T_kinfolkref02_Event.pv r1))), (.one (.pv (.int .i64 r2)))], [[(.pv (.bools r3 false)), (.pv (.int .i64 r4))]], [])
/-! ### kinfolkref07_number_out -/
def kinfolkref07_number_out (l : List Bool) (n : Int) : Int × Int × List Bool × Int → Res
  | (r1, r2, r3, r4) => ([(.one (.pv (.int .u64 r1))), (.one (.pv (.int .i64 r2)))], [[(.pv (.bools r3 false)), (.pv (.int .i64 r4))]], [])
/-! ### kinfolkref05_GetNum_out -/
def kinfolkref05_GetNum_out (l : List Bool) (n : Int) : Int × List Bool × Int → Res
  | (r1, r2, r3) => ([(.one (.pv (.int .u64 r1)))], [[(.pv (.bools r2 false)), (.pv (.int .i64 r3))]], [])
/-! ### kinfolkref05_power_out -/
def kinfolkref05_power_out (b : Int) : Int → Res
  | r1 => ([(.one (.pv (.int .u64 r1)))], [], [])
/-! ### kinfolkref05_power_L0 -/
def kinfolkref05_power_L0_st (b : Int) : Int × Int → St
  | (n, i) => ⟨[(0, (.av (.one (.pv (.int .i64 b))))), (3, (.av (.one (.pv (.int .u64 n))))), (4, (.av (.one (.pv (.int .i64 i)))))], [], []⟩
def kinfolkref05_power_L0_ex (b : Int) : Int → Ex × St
  | r1 => ((.exit 0), ⟨[(3, (.av (.one (.pv (.int .u64 r1)))))], [], []⟩)
noncomputable def kinfolkref05_power_L0_step (b : Int) : Int × Int → Option ((Int × Int) ⊕ (Int))
  | (n, i) =>
  bif (decide ((i : Int) < b)) then
    some (.inl ((imul .u64 n 2), (iadd .i64 i 1)))
  else
    some (.inr n)
theorem kinfolkref05_power_L0_ok (b : Int) (s_ : Int × Int) (z_ : (Int × Int) ⊕ (Int)) (h : kinfolkref05_power_L0_step b s_ = some z_) : RoundOk Tryd.prog cfg 166 0 (loopAt Tryd.prog 166 0) (kinfolkref05_power_L0_st b) (kinfolkref05_power_L0_ex b) s_ z_ := by
  rcases s_ with ⟨n, i⟩
  rcases cond_of h with ⟨h1, h⟩ | ⟨h1, h⟩
  · have h := some_of h
    subst h
    have t_ := tT h1 <| tN
    exact ⟨t_.ev, kinfolkref05_power_L0_st b ((imul .u64 n 2), (iadd .i64 i 1)), .k0 t_.pf (by kernel_rfl), .same (by kernel_rfl)⟩
  · have h := some_of h
    subst h
    have t_ := tF h1 <| tN
    exact ⟨t_.ev, ⟨[(7, (.av (.one (.pv (.bool false))))), (0, (.av (.one (.pv (.int .i64 b))))), (3, (.av (.one (.pv (.int .u64 n))))), (4, (.av (.one (.pv (.int .i64 i))))), (7, (.av (.one (.pv (.bool (decide ((i : Int) < b)))))))], [], []⟩, .k0 t_.pf (by kernel_rfl), ⟨⟨⟨_, rfl, .eq rfl⟩, trivial⟩, trivial, trivial⟩⟩
theorem kinfolkref05_power_L0_runs (b : Int) (s_ : Int × Int) (r_ : Int) (h : runL (kinfolkref05_power_L0_step b) s_ = some r_) : LRuns Tryd.prog (lEnv Tryd.prog cfg 166 0).nt 0 (.loop (loopAt Tryd.prog 166 0)) (kinfolkref05_power_L0_st b s_) (kinfolkref05_power_L0_ex b r_).1 (kinfolkref05_power_L0_ex b r_).2 :=
  loop_run h (kinfolkref05_power_L0_ok b) (by intro r_; rcases r_ with r1 <;> simp [kinfolkref05_power_L0_ex])
/-! ### kinfolkref05_power -/
noncomputable def kinfolkref05_power (b : Int) : Option (Int) :=
  (runL (kinfolkref05_power_L0_step b) (1, 0)).bind fun n =>
  some n
theorem kinfolkref05_power_runs (b : Int) (r_ : Int) (h : kinfolkref05_power b = some r_) : Runs Tryd.prog 166 [(.one (.pv (.int .i64 b)))] [] [] (kinfolkref05_power_out b r_) := by
  unfold kinfolkref05_power at h
  obtain ⟨n, h1, h⟩ := bind_of h
  have h := some_of h
  subst h
  have t_ := tL (kinfolkref05_power_L0_runs b _ _ h1) <| tN
  exact runs_of (C := cfg) (objs := []) (sc := t_.ev) (.k0 t_.pf (by kernel_rfl))
/-! ### kinfolkref05_GetNum_L0 -/
def kinfolkref05_GetNum_L0_st (l2 : List Bool) (n : Int) : List Bool × Int × Int → St
  | (l, b, base) => ⟨[(0, (.av (.one (.ref 0 0)))), (3, (.av (.one (.pv (.bools l false))))), (4, (.av (.one (.pv (.int .i64 b))))), (5, (.av (.one (.pv (.int .u64 base)))))], [(0, [(.pv (.bools l2 false)), (.pv (.int .i64 n))])], []⟩
def kinfolkref05_GetNum_L0_ex (l2 : List Bool) (n : Int) : List Bool × Int × Int → Ex × St
  | (r1, r2, r3) => ((.exit 0), ⟨[(0, (.av (.one (.ref 0 0)))), (3, (.av (.one (.pv (.bools r1 false))))), (4, (.av (.one (.pv (.int .i64 r2))))), (5, (.av (.one (.pv (.int .u64 r3)))))], [(0, [(.pv (.bools l2 false)), (.pv (.int .i64 n))])], []⟩)
noncomputable def kinfolkref05_GetNum_L0_step (l2 : List Bool) (n : Int) : List Bool × Int × Int → Option ((List Bool × Int × Int) ⊕ (List Bool × Int × Int))
  | (l, b, base) =>
  bif (decide ((0 : Int) < ((l).length : Int))) then
    bif decide ((0 : Int) ≤ 0) && decide ((0 : Int) < ((l).length : Int)) then
    bif (l.getD 0 false) then
      bif (decide ((b : Int) < 64)) then
        (kinfolkref05_power b).bind fun n2 =>
        bif decide ((0 : Int) ≤ 1) && decide ((1 : Int) ≤ ((l).length : Int)) && decide ((((l).length : Int) : Int) ≤ ((l).length : Int)) && decide ((((l).length : Int) : Int) = ((l).length : Int)) then
        some (.inl ((List.take (((l).length : Int) - 1).toNat (List.drop 1 l)), (iadd .i64 b 1), (iadd .u64 base n2)))
        else none
      else
        some (.inr (l, b, base))
    else
      some (.inr (l, b, base))
    else none
  else
    some (.inr (l, b, base))
theorem kinfolkref05_GetNum_L0_ok (l2 : List Bool) (n : Int) (s_ : List Bool × Int × Int) (z_ : (List Bool × Int × Int) ⊕ (List Bool × Int × Int)) (h : kinfolkref05_GetNum_L0_step l2 n s_ = some z_) : RoundOk Tryd.prog cfg 155 1 (loopAt Tryd.prog 155 0) (kinfolkref05_GetNum_L0_st l2 n) (kinfolkref05_GetNum_L0_ex l2 n) s_ z_ := by
  rcases s_ with ⟨l, b, base⟩
  rcases cond_of h with ⟨h1, h⟩ | ⟨h1, h⟩
  · obtain ⟨h2, h⟩ := need_of h
    rcases cond_of h with ⟨h3, h⟩ | ⟨h3, h⟩
    · rcases cond_of h with ⟨h4, h⟩ | ⟨h4, h⟩
      · obtain ⟨n2, h5, h⟩ := bind_of h
        obtain ⟨h6, h⟩ := need_of h
        have h := some_of h
        subst h
        have t_ := tT h1 <| tO h2 <| tT h3 <| tT h4 <| tR (kinfolkref05_power_runs b _ h5) <| tO h6 <| tN
        exact ⟨t_.ev, kinfolkref05_GetNum_L0_st l2 n ((List.take (((l).length : Int) - 1).toNat (List.drop 1 l)), (iadd .i64 b 1), (iadd .u64 base n2)), .k0 t_.pf (by kernel_rfl), .same (by kernel_rfl)⟩
      · have h := some_of h
        subst h
        have t_ := tT h1 <| tO h2 <| tT h3 <| tF h4 <| tN
        exact ⟨t_.ev, ⟨[(29, (.av (.one (.pv (.bool false))))), (0, (.av (.one (.ref 0 0)))), (3, (.av (.one (.pv (.bools l false))))), (4, (.av (.one (.pv (.int .i64 b))))), (5, (.av (.one (.pv (.int .u64 base))))), (29, (.av (.one (.pv (.bool (decide ((b : Int) < 64)))))))], [(0, [(.pv (.bools l2 false)), (.pv (.int .i64 n))])], []⟩, .k0 t_.pf (by kernel_rfl), ⟨⟨⟨_, rfl, .eq rfl⟩, ⟨_, rfl, .eq rfl⟩, ⟨_, rfl, .eq rfl⟩, ⟨_, rfl, .eq rfl⟩, trivial⟩, ⟨⟨rfl, ⟨.eq rfl, .eq rfl, trivial⟩⟩, trivial⟩, trivial⟩⟩
    · have h := some_of h
      subst h
      have t_ := tT h1 <| tO h2 <| tF h3 <| tF (rfl : false = false) <| tN
      exact ⟨t_.ev, ⟨[(29, (.av (.one (.pv (.bool false))))), (0, (.av (.one (.ref 0 0)))), (3, (.av (.one (.pv (.bools l false))))), (4, (.av (.one (.pv (.int .i64 b))))), (5, (.av (.one (.pv (.int .u64 base))))), (29, (.av (.one (.pv (.bool false)))))], [(0, [(.pv (.bools l2 false)), (.pv (.int .i64 n))])], []⟩, .k0 t_.pf (by kernel_rfl), ⟨⟨⟨_, rfl, .eq rfl⟩, ⟨_, rfl, .eq rfl⟩, ⟨_, rfl, .eq rfl⟩, ⟨_, rfl, .eq rfl⟩, trivial⟩, ⟨⟨rfl, ⟨.eq rfl, .eq rfl, trivial⟩⟩, trivial⟩, trivial⟩⟩
  · have h := some_of h
    subst h
    have t_ := tF h1 <| tF (rfl : false = false) <| tF (rfl : false = false) <| tN
    exact ⟨t_.ev, ⟨[(29, (.av (.one (.pv (.bool false))))), (0, (.av (.one (.ref 0 0)))), (3, (.av (.one (.pv (.bools l false))))), (4, (.av (.one (.pv (.int .i64 b))))), (5, (.av (.one (.pv (.int .u64 base))))), (29, (.av (.one (.pv (.bool false)))))], [(0, [(.pv (.bools l2 false)), (.pv (.int .i64 n))])], []⟩, .k0 t_.pf (by kernel_rfl), ⟨⟨⟨_, rfl, .eq rfl⟩, ⟨_, rfl, .eq rfl⟩, ⟨_, rfl, .eq rfl⟩, ⟨_, rfl, .eq rfl⟩, trivial⟩, ⟨⟨rfl, ⟨.eq rfl, .eq rfl, trivial⟩⟩, trivial⟩, trivial⟩⟩
theorem kinfolkref05_GetNum_L0_runs (l2 : List Bool) (n : Int) (s_ : List Bool × Int × Int) (r_ : List Bool × Int × Int) (h : runL (kinfolkref05_GetNum_L0_step l2 n) s_ = some r_) : LRuns Tryd.prog (lEnv Tryd.prog cfg 155 1).nt 1 (.loop (loopAt Tryd.prog 155 0)) (kinfolkref05_GetNum_L0_st l2 n s_) (kinfolkref05_GetNum_L0_ex l2 n r_).1 (kinfolkref05_GetNum_L0_ex l2 n r_).2 :=
  loop_run h (kinfolkref05_GetNum_L0_ok l2 n) (by intro r_; rcases r_ with ⟨r1, r2, r3⟩ <;> simp [kinfolkref05_GetNum_L0_ex])
/-! ### kinfolkref05_GetNum_L1 -/
def kinfolkref05_GetNum_L1_st (l : List Bool) (b : Int) (base : Int) (l2 : List Bool) (n : Int) (l3 : List Bool) (n2 : Int) : Int × Int → St
  | (n3, n4) => ⟨[(0, (.av (.one (.ref 0 0)))), (3, (.av (.one (.pv (.bools l false))))), (4, (.av (.one (.pv (.int .i64 b))))), (5, (.av (.one (.pv (.int .u64 base))))), (6, (.av (.one (.pv (.int .u64 n3))))), (59, (.av (.one (.pv (.bools l2 false))))), (60, (.av (.one (.pv (.int .i64 n))))), (61, (.av (.one (.pv (.int .i64 n4)))))], [(0, [(.pv (.bools l3 false)), (.pv (.int .i64 n2))])], []⟩
def kinfolkref05_GetNum_L1_ex (l : List Bool) (b : Int) (base : Int) (l2 : List Bool) (n : Int) (l3 : List Bool) (n2 : Int) : Int → Ex × St
  | r1 => ((.exit 2), ⟨[(0, (.av (.one (.ref 0 0)))), (3, (.av (.one (.pv (.bools l false))))), (4, (.av (.one (.pv (.int .i64 b))))), (5, (.av (.one (.pv (.int .u64 base))))), (6, (.av (.one (.pv (.int .u64 r1)))))], [(0, [(.pv (.bools l3 false)), (.pv (.int .i64 n2))])], []⟩)
noncomputable def kinfolkref05_GetNum_L1_step (l : List Bool) (b : Int) (base : Int) (l2 : List Bool) (n : Int) (l3 : List Bool) (n2 : Int) : Int × Int → Option ((Int × Int) ⊕ (Int))
  | (n3, n4) =>
  bif (decide ((n4 : Int) < n)) then
    bif decide ((0 : Int) ≤ n4) && decide ((n4 : Int) < ((l2).length : Int)) then
    bif (l2.getD (n4).toNat false) then
      some (.inl ((iadd .u64 (imul .u64 n3 2) 1), (iadd .i64 n4 1)))
    else
      some (.inl ((imul .u64 n3 2), (iadd .i64 n4 1)))
    else none
  else
    some (.inr n3)
theorem kinfolkref05_GetNum_L1_ok (l : List Bool) (b : Int) (base : Int) (l2 : List Bool) (n : Int) (l3 : List Bool) (n2 : Int) (s_ : Int × Int) (z_ : (Int × Int) ⊕ (Int)) (h : kinfolkref05_GetNum_L1_step l b base l2 n l3 n2 s_ = some z_) : RoundOk Tryd.prog cfg 155 1 (loopAt Tryd.prog 155 1) (kinfolkref05_GetNum_L1_st l b base l2 n l3 n2) (kinfolkref05_GetNum_L1_ex l b base l2 n l3 n2) s_ z_ := by
  rcases s_ with ⟨n3, n4⟩
  rcases cond_of h with ⟨h1, h⟩ | ⟨h1, h⟩
  · obtain ⟨h2, h⟩ := need_of h
    rcases cond_of h with ⟨h3, h⟩ | ⟨h3, h⟩
    · have h := some_of h
      subst h
      have t_ := tT h1 <| tO h2 <| tT h3 <| tN
      exact ⟨t_.ev, kinfolkref05_GetNum_L1_st l b base l2 n l3 n2 ((iadd .u64 (imul .u64 n3 2) 1), (iadd .i64 n4 1)), .k0 t_.pf (by kernel_rfl), .same (by kernel_rfl)⟩
    · have h := some_of h
      subst h
      have t_ := tT h1 <| tO h2 <| tF h3 <| tN
      exact ⟨t_.ev, kinfolkref05_GetNum_L1_st l b base l2 n l3 n2 ((imul .u64 n3 2), (iadd .i64 n4 1)), .k0 t_.pf (by kernel_rfl), .same (by kernel_rfl)⟩
  · have h := some_of h
    subst h
    have t_ := tF h1 <| tN
    exact ⟨t_.ev, ⟨[(62, (.av (.one (.pv (.bool false))))), (0, (.av (.one (.ref 0 0)))), (3, (.av (.one (.pv (.bools l false))))), (4, (.av (.one (.pv (.int .i64 b))))), (5, (.av (.one (.pv (.int .u64 base))))), (6, (.av (.one (.pv (.int .u64 n3))))), (59, (.av (.one (.pv (.bools l2 false))))), (60, (.av (.one (.pv (.int .i64 n))))), (61, (.av (.one (.pv (.int .i64 n4))))), (62, (.av (.one (.pv (.bool (decide ((n4 : Int) < n)))))))], [(0, [(.pv (.bools l3 false)), (.pv (.int .i64 n2))])], []⟩, .k0 t_.pf (by kernel_rfl), ⟨⟨⟨_, rfl, .eq rfl⟩, ⟨_, rfl, .eq rfl⟩, ⟨_, rfl, .eq rfl⟩, ⟨_, rfl, .eq rfl⟩, ⟨_, rfl, .eq rfl⟩, trivial⟩, ⟨⟨rfl, ⟨.eq rfl, .eq rfl, trivial⟩⟩, trivial⟩, trivial⟩⟩
theorem kinfolkref05_GetNum_L1_runs (l : List Bool) (b : Int) (base : Int) (l2 : List Bool) (n : Int) (l3 : List Bool) (n2 : Int) (s_ : Int × Int) (r_ : Int) (h : runL (kinfolkref05_GetNum_L1_step l b base l2 n l3 n2) s_ = some r_) : LRuns Tryd.prog (lEnv Tryd.prog cfg 155 1).nt 1 (.loop (loopAt Tryd.prog 155 1)) (kinfolkref05_GetNum_L1_st l b base l2 n l3 n2 s_) (kinfolkref05_GetNum_L1_ex l b base l2 n l3 n2 r_).1 (kinfolkref05_GetNum_L1_ex l b base l2 n l3 n2 r_).2 :=
  loop_run h (kinfolkref05_GetNum_L1_ok l b base l2 n l3 n2) (by intro r_; rcases r_ with r1 <;> simp [kinfolkref05_GetNum_L1_ex])
/-! ### kinfolkref05_GetNum -/
noncomputable def kinfolkref05_GetNum (l : List Bool) (n : Int) : Option (Int × List Bool × Int) :=
  bif (decide ((n : Int) = 0)) then
    (runL (kinfolkref05_GetNum_L0_step l n) (l, 2, 0)).bind fun (l_, n2, n3) =>
    bif (decide ((((l_).length : Int) : Int) = 0)) then
      some (0, l, 6)
    else
      bif decide ((0 : Int) ≤ 0) && decide ((0 : Int) < ((l_).length : Int)) then
      bif (l_.getD 0 false) then
        some (0, l, 6)
      else
        bif (decide ((((l_).length : Int) : Int) < (iadd .i64 1 n2))) then
          some (0, l, 6)
        else
          bif decide ((0 : Int) ≤ 1) && decide ((1 : Int) ≤ (iadd .i64 1 n2)) && decide (((iadd .i64 1 n2) : Int) ≤ ((l_).length : Int)) && decide (((iadd .i64 1 n2) : Int) = (iadd .i64 1 n2)) then
          (runL (kinfolkref05_GetNum_L1_step l_ n2 n3 (List.take ((iadd .i64 1 n2) - 1).toNat (List.drop 1 l_)) (((List.take ((iadd .i64 1 n2) - 1).toNat (List.drop 1 l_))).length : Int) l n) (0, 0)).bind fun n4 =>
          bif (decide (((iadd .u64 n3 n4) : Int) < n3)) then
            some (0, l, 6)
          else
            bif decide ((0 : Int) ≤ (iadd .i64 1 n2)) && decide (((iadd .i64 1 n2) : Int) ≤ ((l_).length : Int)) && decide ((((l_).length : Int) : Int) ≤ ((l_).length : Int)) && decide ((((l_).length : Int) : Int) = ((l_).length : Int)) then
            some ((iadd .u64 n3 n4), (List.take (((l_).length : Int) - (iadd .i64 1 n2)).toNat (List.drop ((iadd .i64 1 n2)).toNat l_)), n)
            else none
          else none
      else none
  else
    some (0, l, n)
theorem kinfolkref05_GetNum_runs (l : List Bool) (n : Int) (r_ : Int × List Bool × Int) (h : kinfolkref05_GetNum l n = some r_) : Runs Tryd.prog 155 [(.one (.ref 0 0))] [[(.pv (.bools l false)), (.pv (.int .i64 n))]] [] (kinfolkref05_GetNum_out l n r_) := by
  unfold kinfolkref05_GetNum at h
  rcases cond_of h with ⟨h1, h⟩ | ⟨h1, h⟩
  · obtain ⟨⟨l_, n2, n3⟩, h2, h⟩ := bind_of h
    rcases cond_of h with ⟨h3, h⟩ | ⟨h3, h⟩
    · have h := some_of h
      subst h
      have t_ := tF (not_of2 h1) <| tL (kinfolkref05_GetNum_L0_runs l n _ _ h2) <| tT h3 <| tT (rfl : true = true) <| tT (rfl : true = true) <| tN
      exact runs_of (C := cfg) (objs := [[(.pv (.bools l false)), (.pv (.int .i64 n))]]) (sc := t_.ev) (.k0 t_.pf (by kernel_rfl))
    · obtain ⟨h4, h⟩ := need_of h
      rcases cond_of h with ⟨h5, h⟩ | ⟨h5, h⟩
      · have h := some_of h
        subst h
        have t_ := tF (not_of2 h1) <| tL (kinfolkref05_GetNum_L0_runs l n _ _ h2) <| tF h3 <| tO h4 <| tT h5 <| tT (rfl : true = true) <| tN
        exact runs_of (C := cfg) (objs := [[(.pv (.bools l false)), (.pv (.int .i64 n))]]) (sc := t_.ev) (.k0 t_.pf (by kernel_rfl))
      · rcases cond_of h with ⟨h6, h⟩ | ⟨h6, h⟩
        · have h := some_of h
          subst h
          have t_ := tF (not_of2 h1) <| tL (kinfolkref05_GetNum_L0_runs l n _ _ h2) <| tF h3 <| tO h4 <| tF h5 <| tT h6 <| tN
          exact runs_of (C := cfg) (objs := [[(.pv (.bools l false)), (.pv (.int .i64 n))]]) (sc := t_.ev) (.k0 t_.pf (by kernel_rfl))
        · obtain ⟨h7, h⟩ := need_of h
          obtain ⟨n4, h8, h⟩ := bind_of h
          have q_8 := (kinfolkref05_GetNum_L1_runs l_ n2 n3 (List.take ((iadd .i64 1 n2) - 1).toNat (List.drop 1 l_)) (((List.take ((iadd .i64 1 n2) - 1).toNat (List.drop 1 l_))).length : Int) l n _ _ h8)
          rcases cond_of h with ⟨h9, h⟩ | ⟨h9, h⟩
          · have h := some_of h
            subst h
            have t_ := tF (not_of2 h1) <| tL (kinfolkref05_GetNum_L0_runs l n _ _ h2) <| tF h3 <| tO h4 <| tF h5 <| tF h6 <| tO h7 <| tL q_8 <| tT h9 <| tN
            exact runs_of (C := cfg) (objs := [[(.pv (.bools l false)), (.pv (.int .i64 n))]]) (sc := t_.ev) (.k0 t_.pf (by kernel_rfl))
          · obtain ⟨h10, h⟩ := need_of h
            have h := some_of h
            subst h
            have t_ := tF (not_of2 h1) <| tL (kinfolkref05_GetNum_L0_runs l n _ _ h2) <| tF h3 <| tO h4 <| tF h5 <| tF h6 <| tO h7 <| tL q_8 <| tF h9 <| tO h10 <| tN
            exact runs_of (C := cfg) (objs := [[(.pv (.bools l false)), (.pv (.int .i64 n))]]) (sc := t_.ev) (.k0 t_.pf (by kernel_rfl))
  · have h := some_of h
    subst h
    have t_ := tT (not_of h1) <| tN
    exact runs_of (C := cfg) (objs := [[(.pv (.bools l false)), (.pv (.int .i64 n))]]) (sc := t_.ev) (.k0 t_.pf (by kernel_rfl))
/-! ### kinfolkref07_number -/
noncomputable def kinfolkref07_number (l : List Bool) (n : Int) : Option (Int × Int × List Bool × Int) :=
  (kinfolkref05_GetNum l n).bind fun (n2, l_, n3) =>
  bif (decide ((n3 : Int) = 0)) then
    bif (decide ((1048576 : Int) < n2)) then
      some (0, 4, l_, n3)
    else
      some (n2, 0, l_, n3)
  else
    some (0, 6, l_, n3)
theorem kinfolkref07_number_runs (l : List Bool) (n : Int) (r_ : Int × Int × List Bool × Int) (h : kinfolkref07_number l n = some r_) : Runs Tryd.prog 125 [(.one (.ref 0 0))] [[(.pv (.bools l false)), (.pv (.int .i64 n))]] [] (kinfolkref07_number_out l n r_) := by
  unfold kinfolkref07_number at h
  obtain ⟨⟨n2, l_, n3⟩, h1, h⟩ := bind_of h
  rcases cond_of h with ⟨h2, h⟩ | ⟨h2, h⟩
  · rcases cond_of h with ⟨h3, h⟩ | ⟨h3, h⟩
    · have h := some_of h
      subst h
      have t_ := tR (kinfolkref05_GetNum_runs l n _ h1) <| tF (not_of2 h2) <| tT h3 <| tN
      exact runs_of (C := cfg) (objs := [[(.pv (.bools l false)), (.pv (.int .i64 n))]]) (sc := t_.ev) (.k0 t_.pf (by kernel_rfl))
    · have h := some_of h
      subst h
      have t_ := tR (kinfolkref05_GetNum_runs l n _ h1) <| tF (not_of2 h2) <| tF h3 <| tN
      exact runs_of (C := cfg) (objs := [[(.pv (.bools l false)), (.pv (.int .i64 n))]]) (sc := t_.ev) (.k0 t_.pf (by kernel_rfl))
  · have h := some_of h
    subst h
    have t_ := tR (kinfolkref05_GetNum_runs l n _ h1) <| tT (not_of h2) <| tN
    exact runs_of (C := cfg) (objs := [[(.pv (.bools l false)), (.pv (.int .i64 n))]]) (sc := t_.ev) (.k0 t_.pf (by kernel_rfl))
/-! ### kinfolkref07_GetEvent_C56 -/
def kinfolkref07_GetEvent_C56_ex (depth : Int) (none_ : T_kinfolkref02_Event) (left : Bool) (right : Bool) (b : Bool) (l : List Bool) (n : Int) : Bool × Bool × List Bool × Int → Ex × St
  | (r1, r2, r3, r4) => (.normal, ⟨[(0, (.av (.one (.ref 0 0)))), (1, (.av (.one (.pv (.int .i64 depth))))), (6, (.av (.one (.pv (T_kinfolkref02_Event.pv none_))))), (11, (.av (.one (.pv (.bool r1))))), (12, (.av (.one (.pv (.bool r2)))))], [(0, [(.pv (.bools r3 false)), (.pv (.int .i64 r4))])], []⟩)
noncomputable def kinfolkref07_GetEvent_C56 (depth : Int) (none_ : T_kinfolkref02_Event) (left : Bool) (right : Bool) (b : Bool) (l : List Bool) (n : Int) : Option (Bool × Bool × List Bool × Int) :=
  bif b then
    (kinfolkref05_Get_2 1 l n).bind fun (n2, l_, n3) =>
    some ((decide ((n2 : Int) = 1)), (decide ((n2 : Int) = 0)), l_, n3)
  else
    some (left, right, l, n)
theorem kinfolkref07_GetEvent_C56_runs (depth : Int) (none_ : T_kinfolkref02_Event) (left : Bool) (right : Bool) (b : Bool) (l : List Bool) (n : Int) (r_ : Bool × Bool × List Bool × Int) (h : kinfolkref07_GetEvent_C56 depth none_ left right b l n = some r_) : LRuns Tryd.prog (lEnv Tryd.prog cfg 77 1).nt 1 (.cond (.tmp 56) (condAt Tryd.prog 77 56).1 (condAt Tryd.prog 77 56).2) ⟨[(0, (.av (.one (.ref 0 0)))), (1, (.av (.one (.pv (.int .i64 depth))))), (6, (.av (.one (.pv (T_kinfolkref02_Event.pv none_))))), (11, (.av (.one (.pv (.bool left))))), (12, (.av (.one (.pv (.bool right))))), (56, (.av (.one (.pv (.bool b)))))], [(0, [(.pv (.bools l false)), (.pv (.int .i64 n))])], []⟩ (kinfolkref07_GetEvent_C56_ex depth none_ left right b l n r_).1 (kinfolkref07_GetEvent_C56_ex depth none_ left right b l n r_).2 := by
  unfold kinfolkref07_GetEvent_C56 at h
  rcases cond_of h with ⟨h1, h⟩ | ⟨h1, h⟩
  · obtain ⟨⟨n2, l_, n3⟩, h2, h⟩ := bind_of h
    have h := some_of h
    subst h
    have t_ := tT h1 <| tR (kinfolkref05_Get_2_runs 1 l n _ h2) <| tN
    exact piece_ok (C := cfg) (sc := t_.ev) (.k0 t_.pf (by kernel_rfl))
  · have h := some_of h
    subst h
    have t_ := tF h1 <| tN
    exact piece_ok (C := cfg) (sc := t_.ev) (.k0 t_.pf (by kernel_rfl))
/-! ### kinfolkref07_GetEvent_C53 -/
def kinfolkref07_GetEvent_C53_ex (depth : Int) (none_ : T_kinfolkref02_Event) (left : Bool) (right : Bool) (b : Bool) (l : List Bool) (n : Int) : (Int × List Bool × Int) ⊕ (Bool × Bool × Int × List Bool × Int) → Ex × St
  | .inl (r1, r2, r3) => (.ret, ⟨[(4, (.av (.one (.pv (T_kinfolkref02_Event.pv none_))))), (5, (.av (.one (.pv (.int .i64 r1)))))], [(0, [(.pv (.bools r2 false)), (.pv (.int .i64 r3))])], []⟩)
  | .inr (r1, r2, r3, r4, r5) => (.normal, ⟨[(0, (.av (.one (.ref 0 0)))), (1, (.av (.one (.pv (.int .i64 depth))))), (6, (.av (.one (.pv (T_kinfolkref02_Event.pv none_))))), (11, (.av (.one (.pv (.bool r1))))), (12, (.av (.one (.pv (.bool r2))))), (13, (.av (.one (.pv (.int .u64 r3)))))], [(0, [(.pv (.bools r4 false)), (.pv (.int .i64 r5))])], []⟩)
noncomputable def kinfolkref07_GetEvent_C53 (depth : Int) (none_ : T_kinfolkref02_Event) (left : Bool) (right : Bool) (b : Bool) (l : List Bool) (n : Int) : Option ((Int × List Bool × Int) ⊕ (Bool × Bool × Int × List Bool × Int)) :=
  bif b then
    (kinfolkref05_Get_2 1 l n).bind fun (n2, l_, n3) =>
    (kinfolkref07_GetEvent_C56 depth none_ left right (decide ((n2 : Int) = 0)) l_ n3).bind fun (b2, b3, l_2, n4) =>
    (kinfolkref07_number l_2 n4).bind fun (n5, n6, l_3, n7) =>
    bif (decide ((n6 : Int) = 0)) then
      bif (decide ((n5 : Int) = 0)) then
        some (.inl (6, l_3, n7))
      else
        some (.inr (b2, b3, n5, l_3, n7))
    else
      some (.inl (n6, l_3, n7))
  else
    some (.inr (left, right, 0, l, n))
theorem kinfolkref07_GetEvent_C53_runs (depth : Int) (none_ : T_kinfolkref02_Event) (left : Bool) (right : Bool) (b : Bool) (l : List Bool) (n : Int) (r_ : (Int × List Bool × Int) ⊕ (Bool × Bool × Int × List Bool × Int)) (h : kinfolkref07_GetEvent_C53 depth none_ left right b l n = some r_) : LRuns Tryd.prog (lEnv Tryd.prog cfg 77 1).nt 1 (.cond (.tmp 53) (condAt Tryd.prog 77 53).1 (condAt Tryd.prog 77 53).2) ⟨[(0, (.av (.one (.ref 0 0)))), (1, (.av (.one (.pv (.int .i64 depth))))), (6, (.av (.one (.pv (T_kinfolkref02_Event.pv none_))))), (11, (.av (.one (.pv (.bool left))))), (12, (.av (.one (.pv (.bool right))))), (13, (.av (.one (.pv (.int .u64 0))))), (53, (.av (.one (.pv (.bool b)))))], [(0, [(.pv (.bools l false)), (.pv (.int .i64 n))])], []⟩ (kinfolkref07_GetEvent_C53_ex depth none_ left right b l n r_).1 (kinfolkref07_GetEvent_C53_ex depth none_ left right b l n r_).2 := by
  unfold kinfolkref07_GetEvent_C53 at h
  rcases cond_of h with ⟨h1, h⟩ | ⟨h1, h⟩
  · obtain ⟨⟨n2, l_, n3⟩, h2, h⟩ := bind_of h
    obtain ⟨⟨b2, b3, l_2, n4⟩, h3, h⟩ := bind_of h
    have q_3 := (kinfolkref07_GetEvent_C56_runs depth none_ left right (decide ((n2 : Int) = 0)) l_ n3 _ h3)
    obtain ⟨⟨n5, n6, l_3, n7⟩, h4, h⟩ := bind_of h
    rcases cond_of h with ⟨h5, h⟩ | ⟨h5, h⟩
    · rcases cond_of h with ⟨h6, h⟩ | ⟨h6, h⟩
      · have h := some_of h
        subst h
        have t_ := tT h1 <| tR (kinfolkref05_Get_2_runs 1 l n _ h2) <| tL q_3 <| tR (kinfolkref07_number_runs l_2 n4 _ h4) <| tF (not_of2 h5) <| tT h6 <| tN
        exact piece_ok (C := cfg) (sc := t_.ev) (.k0 t_.pf (by kernel_rfl))
      · have h := some_of h
        subst h
        have t_ := tT h1 <| tR (kinfolkref05_Get_2_runs 1 l n _ h2) <| tL q_3 <| tR (kinfolkref07_number_runs l_2 n4 _ h4) <| tF (not_of2 h5) <| tF h6 <| tN
        exact piece_ok (C := cfg) (sc := t_.ev) (.k0 t_.pf (by kernel_rfl))
    · have h := some_of h
      subst h
      have t_ := tT h1 <| tR (kinfolkref05_Get_2_runs 1 l n _ h2) <| tL q_3 <| tR (kinfolkref07_number_runs l_2 n4 _ h4) <| tT (not_of h5) <| tN
      exact piece_ok (C := cfg) (sc := t_.ev) (.k0 t_.pf (by kernel_rfl))
  · have h := some_of h
    subst h
    have t_ := tF h1 <| tN
    exact piece_ok (C := cfg) (sc := t_.ev) (.k0 t_.pf (by kernel_rfl))
/-! ### kinfolkref07_zero_out -/
def kinfolkref07_zero_out (e : T_kinfolkref02_Event) : Bool → Res
  | r1 => ([(.one (.pv (.bool r1)))], [], [])
/-! ### kinfolkref07_zero -/
noncomputable def kinfolkref07_zero (e : T_kinfolkref02_Event) : Option (Bool) :=
  match e with
  | .nil =>
    none
  | .mk n t t2 =>
    match t with
    | .nil =>
      some (decide ((n : Int) = 0))
    | .mk n2 t3 t4 =>
      some false
theorem kinfolkref07_zero_runs (e : T_kinfolkref02_Event) (r_ : Bool) (h : kinfolkref07_zero e = some r_) : Runs Tryd.prog 126 [(.one (.pv (T_kinfolkref02_Event.pv e)))] [] [] (kinfolkref07_zero_out e r_) := by
  unfold kinfolkref07_zero at h
  cases e with
  | nil =>
    cases h
  | mk n t t2 =>
    cases t with
    | nil =>
      have h := some_of h
      subst h
      have t_ := tT (rfl : true = true) <| tN
      exact runs_of (C := cfg) (objs := []) (sc := t_.ev) (.k0 t_.pf (by kernel_rfl))
    | mk n2 t3 t4 =>
      have h := some_of h
      subst h
      have t_ := tF (rfl : false = false) <| tN
      exact runs_of (C := cfg) (objs := []) (sc := t_.ev) (.k0 t_.pf (by kernel_rfl))
/-! ### kinfolkref02_Max_out -/
def kinfolkref02_Max_out (e : T_kinfolkref02_Event) : Int → Res
  | r1 => ([(.one (.pv (.int .u64 r1)))], [], [])
/-! ### kinfolkref02_Max -/
noncomputable def kinfolkref02_Max_b (rec_kinfolkref02_Max : T_kinfolkref02_Event → Option (Int)) (e : T_kinfolkref02_Event) : Option (Int) :=
  match e with
  | .nil =>
    none
  | .mk n t t2 =>
    match t with
    | .nil =>
      some n
    | .mk n2 t3 t4 =>
      (rec_kinfolkref02_Max t).bind fun n3 =>
      (rec_kinfolkref02_Max t2).bind fun n4 =>
      bif (decide ((n4 : Int) < n3)) then
        some (iadd .u64 n n3)
      else
        some (iadd .u64 n n4)
theorem kinfolkref02_Max_b_runs (rec_kinfolkref02_Max : T_kinfolkref02_Event → Option (Int)) (hrec_kinfolkref02_Max : ∀ e r_, rec_kinfolkref02_Max e = some r_ → Runs Tryd.prog 29 [(.one (.pv (T_kinfolkref02_Event.pv e)))] [] [] (kinfolkref02_Max_out e r_)) (e : T_kinfolkref02_Event) (r_ : Int) (h : kinfolkref02_Max_b rec_kinfolkref02_Max e = some r_) : Runs Tryd.prog 29 [(.one (.pv (T_kinfolkref02_Event.pv e)))] [] [] (kinfolkref02_Max_out e r_) := by
  unfold kinfolkref02_Max_b at h
  cases e with
  | nil =>
    cases h
  | mk n t t2 =>
    cases t with
    | nil =>
      have h := some_of h
      subst h
      have t_ := tT (rfl : true = true) <| tN
      exact runs_of (C := cfg) (objs := []) (sc := t_.ev) (.k0 t_.pf (by kernel_rfl))
    | mk n2 t3 t4 =>
      obtain ⟨n3, h1, h⟩ := bind_of h
      obtain ⟨n4, h2, h⟩ := bind_of h
      rcases cond_of h with ⟨h3, h⟩ | ⟨h3, h⟩
      · have h := some_of h
        subst h
        have t_ := tF (rfl : false = false) <| tR (hrec_kinfolkref02_Max (T_kinfolkref02_Event.mk n2 t3 t4) _ h1) <| tR (hrec_kinfolkref02_Max t2 _ h2) <| tT h3 <| tN
        exact runs_of (C := cfg) (objs := []) (sc := t_.ev) (.k0 t_.pf (by kernel_rfl))
      · have h := some_of h
        subst h
        have t_ := tF (rfl : false = false) <| tR (hrec_kinfolkref02_Max (T_kinfolkref02_Event.mk n2 t3 t4) _ h1) <| tR (hrec_kinfolkref02_Max t2 _ h2) <| tF h3 <| tN
        exact runs_of (C := cfg) (objs := []) (sc := t_.ev) (.k0 t_.pf (by kernel_rfl))
noncomputable def kinfolkref02_Max : Nat → T_kinfolkref02_Event → Option (Int)
  | 0, _ => none
  | N + 1, e => kinfolkref02_Max_b (kinfolkref02_Max N) e
theorem kinfolkref02_Max_runs : ∀ (N : Nat) (e : T_kinfolkref02_Event) (r_ : Int), kinfolkref02_Max N e = some r_ → Runs Tryd.prog 29 [(.one (.pv (T_kinfolkref02_Event.pv e)))] [] [] (kinfolkref02_Max_out e r_)
  | 0, _, _, h => by cases h
  | N + 1, e, r_, h => kinfolkref02_Max_b_runs (kinfolkref02_Max N) (kinfolkref02_Max_runs N) e r_ h
/-! ### kinfolkref07_GetEvent_C84 -/
def kinfolkref07_GetEvent_C84_ex (depth : Int) (none_ : T_kinfolkref02_Event) (left : Bool) (right : Bool) (base : Int) (x : T_kinfolkref02_Event) (y : T_kinfolkref02_Event) (b : Bool) (l : List Bool) (n : Int) : (T_kinfolkref02_Event × List Bool × Int) ⊕ (Int × List Bool × Int) → Ex × St
  | .inl (r1, r2, r3) => (.normal, ⟨[(0, (.av (.one (.ref 0 0)))), (1, (.av (.one (.pv (.int .i64 depth))))), (6, (.av (.one (.pv (T_kinfolkref02_Event.pv none_))))), (11, (.av (.one (.pv (.bool left))))), (12, (.av (.one (.pv (.bool right))))), (13, (.av (.one (.pv (.int .u64 base))))), (17, (.av (.one (.pv (T_kinfolkref02_Event.pv r1))))), (18, (.av (.one (.pv (T_kinfolkref02_Event.pv y)))))], [(0, [(.pv (.bools r2 false)), (.pv (.int .i64 r3))])], []⟩)
  | .inr (r1, r2, r3) => (.ret, ⟨[(4, (.av (.one (.pv (T_kinfolkref02_Event.pv none_))))), (5, (.av (.one (.pv (.int .i64 r1)))))], [(0, [(.pv (.bools r2 false)), (.pv (.int .i64 r3))])], []⟩)
noncomputable def kinfolkref07_GetEvent_C84 (rec_kinfolkref07_GetEvent_2 : Int → List Bool → Int → Option (T_kinfolkref02_Event × Int × List Bool × Int)) (depth : Int) (none_ : T_kinfolkref02_Event) (left : Bool) (right : Bool) (base : Int) (x : T_kinfolkref02_Event) (y : T_kinfolkref02_Event) (b : Bool) (l : List Bool) (n : Int) : Option ((T_kinfolkref02_Event × List Bool × Int) ⊕ (Int × List Bool × Int)) :=
  bif b then
    (rec_kinfolkref07_GetEvent_2 (iadd .i64 depth 1) l n).bind fun (t, n2, l_, n3) =>
    bif (decide ((n2 : Int) = 0)) then
      some (.inl (t, l_, n3))
    else
      some (.inr (n2, l_, n3))
  else
    some (.inl (x, l, n))
theorem kinfolkref07_GetEvent_C84_runs (rec_kinfolkref07_GetEvent_2 : Int → List Bool → Int → Option (T_kinfolkref02_Event × Int × List Bool × Int)) (hrec_kinfolkref07_GetEvent_2 : ∀ depth l n r_, rec_kinfolkref07_GetEvent_2 depth l n = some r_ → Runs Tryd.prog 77 [(.one (.ref 0 0)), (.one (.pv (.int .i64 depth)))] [[(.pv (.bools l false)), (.pv (.int .i64 n))]] [] (kinfolkref07_GetEvent_2_out depth l n r_)) (depth : Int) (none_ : T_kinfolkref02_Event) (left : Bool) (right : Bool) (base : Int) (x : T_kinfolkref02_Event) (y : T_kinfolkref02_Event) (b : Bool) (l : List Bool) (n : Int) (r_ : (T_kinfolkref02_Event × List Bool × Int) ⊕ (Int × List Bool × Int)) (h : kinfolkref07_GetEvent_C84 rec_kinfolkref07_GetEvent_2 depth none_ left right base x y b l n = some r_) : LRuns Tryd.prog (lEnv Tryd.prog cfg 77 1).nt 1 (.cond (.tmp 84) (condAt Tryd.prog 77 84).1 (condAt Tryd.prog 77 84).2) ⟨[(0, (.av (.one (.ref 0 0)))), (1, (.av (.one (.pv (.int .i64 depth))))), (6, (.av (.one (.pv (T_kinfolkref02_Event.pv none_))))), (11, (.av (.one (.pv (.bool left))))), (12, (.av (.one (.pv (.bool right))))), (13, (.av (.one (.pv (.int .u64 base))))), (17, (.av (.one (.pv (T_kinfolkref02_Event.pv x))))), (18, (.av (.one (.pv (T_kinfolkref02_Event.pv y))))), (84, (.av (.one (.pv (.bool b)))))], [(0, [(.pv (.bools l false)), (.pv (.int .i64 n))])], []⟩ (kinfolkref07_GetEvent_C84_ex depth none_ left right base x y b l n r_).1 (kinfolkref07_GetEvent_C84_ex depth none_ left right base x y b l n r_).2 := by
  unfold kinfolkref07_GetEvent_C84 at h
  rcases cond_of h with ⟨h1, h⟩ | ⟨h1, h⟩
  · obtain ⟨⟨t, n2, l_, n3⟩, h2, h⟩ := bind_of h
    have q_2 := (hrec_kinfolkref07_GetEvent_2 (iadd .i64 depth 1) l n _ h2)
    rcases cond_of h with ⟨h3, h⟩ | ⟨h3, h⟩
    · have h := some_of h
      subst h
      have t_ := tT h1 <| tR q_2 <| tF (not_of2 h3) <| tN
      exact piece_ok (C := cfg) (sc := t_.ev) (.k0 t_.pf (by kernel_rfl))
    · have h := some_of h
      subst h
      have t_ := tT h1 <| tR q_2 <| tT (not_of h3) <| tN
      exact piece_ok (C := cfg) (sc := t_.ev) (.k0 t_.pf (by kernel_rfl))
  · have h := some_of h
    subst h
    have t_ := tF h1 <| tN
    exact piece_ok (C := cfg) (sc := t_.ev) (.k0 t_.pf (by kernel_rfl))
/-! ### kinfolkref07_GetEvent_C96 -/
def kinfolkref07_GetEvent_C96_ex (depth : Int) (none_ : T_kinfolkref02_Event) (left : Bool) (right : Bool) (base : Int) (x : T_kinfolkref02_Event) (y : T_kinfolkref02_Event) (b : Bool) (l : List Bool) (n : Int) : (T_kinfolkref02_Event × List Bool × Int) ⊕ (Int × List Bool × Int) → Ex × St
  | .inl (r1, r2, r3) => (.normal, ⟨[(6, (.av (.one (.pv (T_kinfolkref02_Event.pv none_))))), (11, (.av (.one (.pv (.bool left))))), (12, (.av (.one (.pv (.bool right))))), (13, (.av (.one (.pv (.int .u64 base))))), (17, (.av (.one (.pv (T_kinfolkref02_Event.pv x))))), (18, (.av (.one (.pv (T_kinfolkref02_Event.pv r1)))))], [(0, [(.pv (.bools r2 false)), (.pv (.int .i64 r3))])], []⟩)
  | .inr (r1, r2, r3) => (.ret, ⟨[(4, (.av (.one (.pv (T_kinfolkref02_Event.pv none_))))), (5, (.av (.one (.pv (.int .i64 r1)))))], [(0, [(.pv (.bools r2 false)), (.pv (.int .i64 r3))])], []⟩)
noncomputable def kinfolkref07_GetEvent_C96 (rec_kinfolkref07_GetEvent_2 : Int → List Bool → Int → Option (T_kinfolkref02_Event × Int × List Bool × Int)) (depth : Int) (none_ : T_kinfolkref02_Event) (left : Bool) (right : Bool) (base : Int) (x : T_kinfolkref02_Event) (y : T_kinfolkref02_Event) (b : Bool) (l : List Bool) (n : Int) : Option ((T_kinfolkref02_Event × List Bool × Int) ⊕ (Int × List Bool × Int)) :=
  bif b then
    (rec_kinfolkref07_GetEvent_2 (iadd .i64 depth 1) l n).bind fun (t, n2, l_, n3) =>
    bif (decide ((n2 : Int) = 0)) then
      some (.inl (t, l_, n3))
    else
      some (.inr (n2, l_, n3))
  else
    some (.inl (y, l, n))
theorem kinfolkref07_GetEvent_C96_runs (rec_kinfolkref07_GetEvent_2 : Int → List Bool → Int → Option (T_kinfolkref02_Event × Int × List Bool × Int)) (hrec_kinfolkref07_GetEvent_2 : ∀ depth l n r_, rec_kinfolkref07_GetEvent_2 depth l n = some r_ → Runs Tryd.prog 77 [(.one (.ref 0 0)), (.one (.pv (.int .i64 depth)))] [[(.pv (.bools l false)), (.pv (.int .i64 n))]] [] (kinfolkref07_GetEvent_2_out depth l n r_)) (depth : Int) (none_ : T_kinfolkref02_Event) (left : Bool) (right : Bool) (base : Int) (x : T_kinfolkref02_Event) (y : T_kinfolkref02_Event) (b : Bool) (l : List Bool) (n : Int) (r_ : (T_kinfolkref02_Event × List Bool × Int) ⊕ (Int × List Bool × Int)) (h : kinfolkref07_GetEvent_C96 rec_kinfolkref07_GetEvent_2 depth none_ left right base x y b l n = some r_) : LRuns Tryd.prog (lEnv Tryd.prog cfg 77 1).nt 1 (.cond (.tmp 96) (condAt Tryd.prog 77 96).1 (condAt Tryd.prog 77 96).2) ⟨[(0, (.av (.one (.ref 0 0)))), (1, (.av (.one (.pv (.int .i64 depth))))), (6, (.av (.one (.pv (T_kinfolkref02_Event.pv none_))))), (11, (.av (.one (.pv (.bool left))))), (12, (.av (.one (.pv (.bool right))))), (13, (.av (.one (.pv (.int .u64 base))))), (17, (.av (.one (.pv (T_kinfolkref02_Event.pv x))))), (18, (.av (.one (.pv (T_kinfolkref02_Event.pv y))))), (96, (.av (.one (.pv (.bool b)))))], [(0, [(.pv (.bools l false)), (.pv (.int .i64 n))])], []⟩ (kinfolkref07_GetEvent_C96_ex depth none_ left right base x y b l n r_).1 (kinfolkref07_GetEvent_C96_ex depth none_ left right base x y b l n r_).2 := by
  unfold kinfolkref07_GetEvent_C96 at h
  rcases cond_of h with ⟨h1, h⟩ | ⟨h1, h⟩
  · obtain ⟨⟨t, n2, l_, n3⟩, h2, h⟩ := bind_of h
    have q_2 := (hrec_kinfolkref07_GetEvent_2 (iadd .i64 depth 1) l n _ h2)
    rcases cond_of h with ⟨h3, h⟩ | ⟨h3, h⟩
    · have h := some_of h
      subst h
      have t_ := tT h1 <| tR q_2 <| tF (not_of2 h3) <| tN
      exact piece_ok (C := cfg) (sc := t_.ev) (.k0 t_.pf (by kernel_rfl))
    · have h := some_of h
      subst h
      have t_ := tT h1 <| tR q_2 <| tT (not_of h3) <| tN
      exact piece_ok (C := cfg) (sc := t_.ev) (.k0 t_.pf (by kernel_rfl))
  · have h := some_of h
    subst h
    have t_ := tF h1 <| tN
    exact piece_ok (C := cfg) (sc := t_.ev) (.k0 t_.pf (by kernel_rfl))

end Go.Proofs.YtjjakdmcnkldoaaDoor
