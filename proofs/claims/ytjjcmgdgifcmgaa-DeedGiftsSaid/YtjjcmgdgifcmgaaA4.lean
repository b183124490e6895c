/- What functions compute, and that they do. -/
import Derived.Test.YtjjcmgdgifcmgaaA3
set_option linter.unusedVariables false
set_option linter.unusedSimpArgs false
set_option maxRecDepth 100000
namespace Go.Proofs.Ytjjcmgdgifcmgaa
open Go.Ev

/-! ### kinfolkref07_GetID_C58 -/
def kinfolkref07_GetID_C58_ex (depth : Int) (kind : Int) (x : T_kinfolkref01_ID) (y : T_kinfolkref01_ID) (b : Bool) (l : List Bool) (n : Int) : (T_kinfolkref01_ID × List Bool × Int) ⊕ (T_kinfolkref01_ID × Int × List Bool × Int) → Ex × St
  | .inl (r1, r2, r3) => (.normal, ⟨[(6, (.av (.one (.pv (.int .u64 kind))))), (8, (.av (.one (.pv (T_kinfolkref01_ID.pv x))))), (9, (.av (.one (.pv (T_kinfolkref01_ID.pv r1)))))], [(0, [(.pv (.bools r2 false)), (.pv (.int .i64 r3))])], []⟩)
  | .inr (r1, r2, r3, r4) => (.ret, ⟨[(4, (.av (.one (.pv (T_kinfolkref01_ID.pv r1))))), (5, (.av (.one (.pv (.int .i64 r2)))))], [(0, [(.pv (.bools r3 false)), (.pv (.int .i64 r4))])], []⟩)
noncomputable def kinfolkref07_GetID_C58 (rec_kinfolkref07_GetID_4 : Int → List Bool → Int → Option (T_kinfolkref01_ID × Int × List Bool × Int)) (depth : Int) (kind : Int) (x : T_kinfolkref01_ID) (y : T_kinfolkref01_ID) (b : Bool) (l : List Bool) (n : Int) : Option ((T_kinfolkref01_ID × List Bool × Int) ⊕ (T_kinfolkref01_ID × Int × List Bool × Int)) :=
  bif b then
    (rec_kinfolkref07_GetID_4 (iadd .i64 depth 1) l n).bind fun (t, n2, l_, n3) =>
    bif (decide ((n2 : Int) = 0)) then
      some (.inl (t, l_, n3))
    else
      (kinfolkref01_Zero).bind fun t2 =>
      some (.inr (t2, n2, l_, n3))
  else
    some (.inl (y, l, n))
theorem kinfolkref07_GetID_C58_runs (rec_kinfolkref07_GetID_4 : Int → List Bool → Int → Option (T_kinfolkref01_ID × Int × List Bool × Int)) (hrec_kinfolkref07_GetID_4 : ∀ depth l n r_, rec_kinfolkref07_GetID_4 depth l n = some r_ → Runs Try.prog 74 [(.one (.ref 0 0)), (.one (.pv (.int .i64 depth)))] [[(.pv (.bools l false)), (.pv (.int .i64 n))]] [] (kinfolkref07_GetID_4_out depth l n r_)) (depth : Int) (kind : Int) (x : T_kinfolkref01_ID) (y : T_kinfolkref01_ID) (b : Bool) (l : List Bool) (n : Int) (r_ : (T_kinfolkref01_ID × List Bool × Int) ⊕ (T_kinfolkref01_ID × Int × List Bool × Int)) (h : kinfolkref07_GetID_C58 rec_kinfolkref07_GetID_4 depth kind x y b l n = some r_) : LRuns Try.prog (lEnv Try.prog cfg 74 1).nt 1 (.cond (.tmp 58) (condAt Try.prog 74 58).1 (condAt Try.prog 74 58).2) ⟨[(0, (.av (.one (.ref 0 0)))), (1, (.av (.one (.pv (.int .i64 depth))))), (6, (.av (.one (.pv (.int .u64 kind))))), (8, (.av (.one (.pv (T_kinfolkref01_ID.pv x))))), (9, (.av (.one (.pv (T_kinfolkref01_ID.pv y))))), (58, (.av (.one (.pv (.bool b)))))], [(0, [(.pv (.bools l false)), (.pv (.int .i64 n))])], []⟩ (kinfolkref07_GetID_C58_ex depth kind x y b l n r_).1 (kinfolkref07_GetID_C58_ex depth kind x y b l n r_).2 := by
  unfold kinfolkref07_GetID_C58 at h
  rcases cond_of h with ⟨h1, h⟩ | ⟨h1, h⟩
  · obtain ⟨⟨t, n2, l_, n3⟩, h2, h⟩ := bind_of h
    rcases cond_of h with ⟨h3, h⟩ | ⟨h3, h⟩
    · have h := some_of h
      subst h
      exact piece_ok (C := cfg) (sc := [.br true, .res (kinfolkref07_GetID_4_out (iadd .i64 depth 1) l n (t, n2, l_, n3)), .br false]) (.k0 (an_ h1 (an_ (hrec_kinfolkref07_GetID_4 (iadd .i64 depth 1) l n _ h2) (an_ (not_of2 h3) trivial))) (by kernel_rfl))
    · obtain ⟨t2, h4, h⟩ := bind_of h
      have h := some_of h
      subst h
      exact piece_ok (C := cfg) (sc := [.br true, .res (kinfolkref07_GetID_4_out (iadd .i64 depth 1) l n (t, n2, l_, n3)), .br true, .res (kinfolkref01_Zero_out t2)]) (.k0 (an_ h1 (an_ (hrec_kinfolkref07_GetID_4 (iadd .i64 depth 1) l n _ h2) (an_ (not_of h3) (an_ (kinfolkref01_Zero_runs _ h4) trivial)))) (by kernel_rfl))
  · have h := some_of h
    subst h
    exact piece_ok (C := cfg) (sc := [.br false]) (.k0 (an_ h1 trivial) (by kernel_rfl))
/-! ### kinfolkref07_GetID_4 -/
noncomputable def kinfolkref07_GetID_4_b (rec_kinfolkref07_GetID_4 : Int → List Bool → Int → Option (T_kinfolkref01_ID × Int × List Bool × Int)) (depth : Int) (l : List Bool) (n : Int) : Option (T_kinfolkref01_ID × Int × List Bool × Int) :=
  (kinfolkref05_Get_2 2 l n).bind fun (n2, l_, n3) =>
  bif (decide ((n3 : Int) = 0)) then
    (kinfolkref07_GetID_C21 depth n2 (decide ((n2 : Int) = 0)) l_ n3).bind fun z_ => match z_ with
    | .inl (t, l_2, n4) =>
      some (t, 0, l_2, n4)
    | .inr (l_2, n4) =>
      bif (decide ((n4 : Int) = 0)) then
        bif (decide ((depth : Int) = 16)) then
          (kinfolkref01_Zero).bind fun t =>
          some (t, 3, l_2, n4)
        else
          (kinfolkref01_Zero).bind fun t =>
          (kinfolkref07_GetID_C45_2 rec_kinfolkref07_GetID_4 depth n2 t t (!(decide ((n2 : Int) = 1))) l_2 n4).bind fun z_ => match z_ with
          | .inl (t2, l_3, n5) =>
            (kinfolkref07_GetID_C58 rec_kinfolkref07_GetID_4 depth n2 t2 t (!(decide ((n2 : Int) = 2))) l_3 n5).bind fun z_ => match z_ with
            | .inl (t3, l_4, n6) =>
              match t2 with
              | .nil =>
                none
              | .mk n7 t4 t5 =>
                bif (decide ((n7 : Int) = 0)) then
                  bif (decide ((n2 : Int) = 1)) then
                    match t3 with
                    | .nil =>
                      none
                    | .mk n8 t6 t7 =>
                      bif (decide ((n8 : Int) = 0)) then
                        bif (decide ((n2 : Int) = 2)) then
                          bif (decide ((n7 : Int) = 1)) then
                            bif (decide ((n8 : Int) = 1)) then
                              some (t, 6, l_4, n6)
                            else
                              some ((T_kinfolkref01_ID.mk 2 t2 t3), 0, l_4, n6)
                          else
                            some ((T_kinfolkref01_ID.mk 2 t2 t3), 0, l_4, n6)
                        else
                          some (t, 6, l_4, n6)
                      else
                        bif (decide ((n7 : Int) = 1)) then
                          bif (decide ((n8 : Int) = 1)) then
                            some (t, 6, l_4, n6)
                          else
                            some ((T_kinfolkref01_ID.mk 2 t2 t3), 0, l_4, n6)
                        else
                          some ((T_kinfolkref01_ID.mk 2 t2 t3), 0, l_4, n6)
                  else
                    some (t, 6, l_4, n6)
                else
                  match t3 with
                  | .nil =>
                    none
                  | .mk n8 t6 t7 =>
                    bif (decide ((n8 : Int) = 0)) then
                      bif (decide ((n2 : Int) = 2)) then
                        bif (decide ((n7 : Int) = 1)) then
                          bif (decide ((n8 : Int) = 1)) then
                            some (t, 6, l_4, n6)
                          else
                            some ((T_kinfolkref01_ID.mk 2 t2 t3), 0, l_4, n6)
                        else
                          some ((T_kinfolkref01_ID.mk 2 t2 t3), 0, l_4, n6)
                      else
                        some (t, 6, l_4, n6)
                    else
                      bif (decide ((n7 : Int) = 1)) then
                        bif (decide ((n8 : Int) = 1)) then
                          some (t, 6, l_4, n6)
                        else
                          some ((T_kinfolkref01_ID.mk 2 t2 t3), 0, l_4, n6)
                      else
                        some ((T_kinfolkref01_ID.mk 2 t2 t3), 0, l_4, n6)
            | .inr (t3, n6, l_4, n7) =>
              some (t3, n6, l_4, n7)
          | .inr (t2, n5, l_3, n6) =>
            some (t2, n5, l_3, n6)
      else
        (kinfolkref01_Zero).bind fun t =>
        some (t, 6, l_2, n4)
  else
    (kinfolkref01_Zero).bind fun t =>
    some (t, 6, l_, n3)
theorem kinfolkref07_GetID_4_b_runs (rec_kinfolkref07_GetID_4 : Int → List Bool → Int → Option (T_kinfolkref01_ID × Int × List Bool × Int)) (hrec_kinfolkref07_GetID_4 : ∀ depth l n r_, rec_kinfolkref07_GetID_4 depth l n = some r_ → Runs Try.prog 74 [(.one (.ref 0 0)), (.one (.pv (.int .i64 depth)))] [[(.pv (.bools l false)), (.pv (.int .i64 n))]] [] (kinfolkref07_GetID_4_out depth l n r_)) (depth : Int) (l : List Bool) (n : Int) (r_ : T_kinfolkref01_ID × Int × List Bool × Int) (h : kinfolkref07_GetID_4_b rec_kinfolkref07_GetID_4 depth l n = some r_) : Runs Try.prog 74 [(.one (.ref 0 0)), (.one (.pv (.int .i64 depth)))] [[(.pv (.bools l false)), (.pv (.int .i64 n))]] [] (kinfolkref07_GetID_4_out depth l n r_) := by
  unfold kinfolkref07_GetID_4_b at h
  obtain ⟨⟨n2, l_, n3⟩, h1, h⟩ := bind_of h
  rcases cond_of h with ⟨h2, h⟩ | ⟨h2, h⟩
  · obtain ⟨z_, h3, h⟩ := bind_of h
    rcases z_ with ⟨t, l_2, n4⟩ | ⟨l_2, n4⟩
    · have h := some_of h
      subst h
      exact runs_of (C := cfg) (objs := [[(.pv (.bools l false)), (.pv (.int .i64 n))]]) (sc := [.res (kinfolkref05_Get_2_out 2 l n (n2, l_, n3)), .br true, .lp (kinfolkref07_GetID_C21_ex depth n2 (decide ((n2 : Int) = 0)) l_ n3 (.inl (t, l_2, n4))).1 (kinfolkref07_GetID_C21_ex depth n2 (decide ((n2 : Int) = 0)) l_ n3 (.inl (t, l_2, n4))).2]) (.k0 (an_ (kinfolkref05_Get_2_runs 2 l n _ h1) (an_ h2 (an_ (kinfolkref07_GetID_C21_runs depth n2 (decide ((n2 : Int) = 0)) l_ n3 _ h3) trivial))) (by kernel_rfl))
    · rcases cond_of h with ⟨h4, h⟩ | ⟨h4, h⟩
      · rcases cond_of h with ⟨h5, h⟩ | ⟨h5, h⟩
        · obtain ⟨t, h6, h⟩ := bind_of h
          have h := some_of h
          subst h
          exact runs_of (C := cfg) (objs := [[(.pv (.bools l false)), (.pv (.int .i64 n))]]) (sc := [.res (kinfolkref05_Get_2_out 2 l n (n2, l_, n3)), .br true, .lp (kinfolkref07_GetID_C21_ex depth n2 (decide ((n2 : Int) = 0)) l_ n3 (.inr (l_2, n4))).1 (kinfolkref07_GetID_C21_ex depth n2 (decide ((n2 : Int) = 0)) l_ n3 (.inr (l_2, n4))).2, .br false, .br true, .res (kinfolkref01_Zero_out t)]) (.k0 (an_ (kinfolkref05_Get_2_runs 2 l n _ h1) (an_ h2 (an_ (kinfolkref07_GetID_C21_runs depth n2 (decide ((n2 : Int) = 0)) l_ n3 _ h3) (an_ (not_of2 h4) (an_ h5 (an_ (kinfolkref01_Zero_runs _ h6) trivial)))))) (by kernel_rfl))
        · obtain ⟨t, h6, h⟩ := bind_of h
          obtain ⟨z_, h7, h⟩ := bind_of h
          rcases z_ with ⟨t2, l_3, n5⟩ | ⟨t2, n5, l_3, n6⟩
          · obtain ⟨z_, h8, h⟩ := bind_of h
            rcases z_ with ⟨t3, l_4, n6⟩ | ⟨t3, n6, l_4, n7⟩
            · cases t2 with
              | nil =>
                cases h
              | mk n7 t4 t5 =>
                rcases cond_of h with ⟨h9, h⟩ | ⟨h9, h⟩
                · rcases cond_of h with ⟨h10, h⟩ | ⟨h10, h⟩
                  · cases t3 with
                    | nil =>
                      cases h
                    | mk n8 t6 t7 =>
                      rcases cond_of h with ⟨h11, h⟩ | ⟨h11, h⟩
                      · rcases cond_of h with ⟨h12, h⟩ | ⟨h12, h⟩
                        · rcases cond_of h with ⟨h13, h⟩ | ⟨h13, h⟩
                          · rcases cond_of h with ⟨h14, h⟩ | ⟨h14, h⟩
                            · have h := some_of h
                              subst h
                              exact runs_of (C := cfg) (objs := [[(.pv (.bools l false)), (.pv (.int .i64 n))]]) (sc := [.res (kinfolkref05_Get_2_out 2 l n (n2, l_, n3)), .br true, .lp (kinfolkref07_GetID_C21_ex depth n2 (decide ((n2 : Int) = 0)) l_ n3 (.inr (l_2, n4))).1 (kinfolkref07_GetID_C21_ex depth n2 (decide ((n2 : Int) = 0)) l_ n3 (.inr (l_2, n4))).2, .br false, .br false, .res (kinfolkref01_Zero_out t), .res (kinfolkref01_Zero_out t), .lp (kinfolkref07_GetID_C45_2_ex depth n2 t t (!(decide ((n2 : Int) = 1))) l_2 n4 (.inl ((T_kinfolkref01_ID.mk n7 t4 t5), l_3, n5))).1 (kinfolkref07_GetID_C45_2_ex depth n2 t t (!(decide ((n2 : Int) = 1))) l_2 n4 (.inl ((T_kinfolkref01_ID.mk n7 t4 t5), l_3, n5))).2, .lp (kinfolkref07_GetID_C58_ex depth n2 (T_kinfolkref01_ID.mk n7 t4 t5) t (!(decide ((n2 : Int) = 2))) l_3 n5 (.inl ((T_kinfolkref01_ID.mk n8 t6 t7), l_4, n6))).1 (kinfolkref07_GetID_C58_ex depth n2 (T_kinfolkref01_ID.mk n7 t4 t5) t (!(decide ((n2 : Int) = 2))) l_3 n5 (.inl ((T_kinfolkref01_ID.mk n8 t6 t7), l_4, n6))).2, .br true, .br false, .br true, .br false, .br true, .br true, .res (kinfolkref01_Zero_out t)]) (.k0 (an_ (kinfolkref05_Get_2_runs 2 l n _ h1) (an_ h2 (an_ (kinfolkref07_GetID_C21_runs depth n2 (decide ((n2 : Int) = 0)) l_ n3 _ h3) (an_ (not_of2 h4) (an_ h5 (an_ (kinfolkref01_Zero_runs _ h6) (an_ (kinfolkref01_Zero_runs _ h6) (an_ (kinfolkref07_GetID_C45_2_runs rec_kinfolkref07_GetID_4 hrec_kinfolkref07_GetID_4 depth n2 t t (!(decide ((n2 : Int) = 1))) l_2 n4 _ h7) (an_ (kinfolkref07_GetID_C58_runs rec_kinfolkref07_GetID_4 hrec_kinfolkref07_GetID_4 depth n2 (T_kinfolkref01_ID.mk n7 t4 t5) t (!(decide ((n2 : Int) = 2))) l_3 n5 _ h8) (an_ h9 (an_ (not_of2 h10) (an_ h11 (an_ (not_of2 h12) (an_ h13 (an_ h14 (an_ (kinfolkref01_Zero_runs _ h6) trivial)))))))))))))))) (by kernel_rfl))
                            · have h := some_of h
                              subst h
                              have e_ : Runs Try.prog 74 [(.one (.ref 0 0)), (.one (.pv (.int .i64 depth)))] [[(.pv (.bools l false)), (.pv (.int .i64 n))]] [] ([(.one (.pv (.imm [(.int .i64 2), (T_kinfolkref01_ID.pv (T_kinfolkref01_ID.mk n7 t4 t5)), (T_kinfolkref01_ID.pv (T_kinfolkref01_ID.mk n8 t6 t7))] 0))), (.one (.pv (.int .i64 0)))], [[(.pv (.bools l_4 false)), (.pv (.int .i64 n6))]], []) := runs_of (C := cfg) (objs := [[(.pv (.bools l false)), (.pv (.int .i64 n))]]) (sc := [.res (kinfolkref05_Get_2_out 2 l n (n2, l_, n3)), .br true, .lp (kinfolkref07_GetID_C21_ex depth n2 (decide ((n2 : Int) = 0)) l_ n3 (.inr (l_2, n4))).1 (kinfolkref07_GetID_C21_ex depth n2 (decide ((n2 : Int) = 0)) l_ n3 (.inr (l_2, n4))).2, .br false, .br false, .res (kinfolkref01_Zero_out t), .res (kinfolkref01_Zero_out t), .lp (kinfolkref07_GetID_C45_2_ex depth n2 t t (!(decide ((n2 : Int) = 1))) l_2 n4 (.inl ((T_kinfolkref01_ID.mk n7 t4 t5), l_3, n5))).1 (kinfolkref07_GetID_C45_2_ex depth n2 t t (!(decide ((n2 : Int) = 1))) l_2 n4 (.inl ((T_kinfolkref01_ID.mk n7 t4 t5), l_3, n5))).2, .lp (kinfolkref07_GetID_C58_ex depth n2 (T_kinfolkref01_ID.mk n7 t4 t5) t (!(decide ((n2 : Int) = 2))) l_3 n5 (.inl ((T_kinfolkref01_ID.mk n8 t6 t7), l_4, n6))).1 (kinfolkref07_GetID_C58_ex depth n2 (T_kinfolkref01_ID.mk n7 t4 t5) t (!(decide ((n2 : Int) = 2))) l_3 n5 (.inl ((T_kinfolkref01_ID.mk n8 t6 t7), l_4, n6))).2, .br true, .br false, .br true, .br false, .br true, .br false]) (.k0 (an_ (kinfolkref05_Get_2_runs 2 l n _ h1) (an_ h2 (an_ (kinfolkref07_GetID_C21_runs depth n2 (decide ((n2 : Int) = 0)) l_ n3 _ h3) (an_ (not_of2 h4) (an_ h5 (an_ (kinfolkref01_Zero_runs _ h6) (an_ (kinfolkref01_Zero_runs _ h6) (an_ (kinfolkref07_GetID_C45_2_runs rec_kinfolkref07_GetID_4 hrec_kinfolkref07_GetID_4 depth n2 t t (!(decide ((n2 : Int) = 1))) l_2 n4 _ h7) (an_ (kinfolkref07_GetID_C58_runs rec_kinfolkref07_GetID_4 hrec_kinfolkref07_GetID_4 depth n2 (T_kinfolkref01_ID.mk n7 t4 t5) t (!(decide ((n2 : Int) = 2))) l_3 n5 _ h8) (an_ h9 (an_ (not_of2 h10) (an_ h11 (an_ (not_of2 h12) (an_ h13 (an_ h14 trivial))))))))))))))) (by kernel_rfl))
                              exact e_.out ⟨.eq rfl, .eq rfl, trivial⟩ ⟨⟨.eq rfl, .eq rfl, trivial⟩, trivial⟩ trivial rfl
                          · have h := some_of h
                            subst h
                            have e_ : Runs Try.prog 74 [(.one (.ref 0 0)), (.one (.pv (.int .i64 depth)))] [[(.pv (.bools l false)), (.pv (.int .i64 n))]] [] ([(.one (.pv (.imm [(.int .i64 2), (T_kinfolkref01_ID.pv (T_kinfolkref01_ID.mk n7 t4 t5)), (T_kinfolkref01_ID.pv (T_kinfolkref01_ID.mk n8 t6 t7))] 0))), (.one (.pv (.int .i64 0)))], [[(.pv (.bools l_4 false)), (.pv (.int .i64 n6))]], []) := runs_of (C := cfg) (objs := [[(.pv (.bools l false)), (.pv (.int .i64 n))]]) (sc := [.res (kinfolkref05_Get_2_out 2 l n (n2, l_, n3)), .br true, .lp (kinfolkref07_GetID_C21_ex depth n2 (decide ((n2 : Int) = 0)) l_ n3 (.inr (l_2, n4))).1 (kinfolkref07_GetID_C21_ex depth n2 (decide ((n2 : Int) = 0)) l_ n3 (.inr (l_2, n4))).2, .br false, .br false, .res (kinfolkref01_Zero_out t), .res (kinfolkref01_Zero_out t), .lp (kinfolkref07_GetID_C45_2_ex depth n2 t t (!(decide ((n2 : Int) = 1))) l_2 n4 (.inl ((T_kinfolkref01_ID.mk n7 t4 t5), l_3, n5))).1 (kinfolkref07_GetID_C45_2_ex depth n2 t t (!(decide ((n2 : Int) = 1))) l_2 n4 (.inl ((T_kinfolkref01_ID.mk n7 t4 t5), l_3, n5))).2, .lp (kinfolkref07_GetID_C58_ex depth n2 (T_kinfolkref01_ID.mk n7 t4 t5) t (!(decide ((n2 : Int) = 2))) l_3 n5 (.inl ((T_kinfolkref01_ID.mk n8 t6 t7), l_4, n6))).1 (kinfolkref07_GetID_C58_ex depth n2 (T_kinfolkref01_ID.mk n7 t4 t5) t (!(decide ((n2 : Int) = 2))) l_3 n5 (.inl ((T_kinfolkref01_ID.mk n8 t6 t7), l_4, n6))).2, .br true, .br false, .br true, .br false, .br false, .br false]) (.k0 (an_ (kinfolkref05_Get_2_runs 2 l n _ h1) (an_ h2 (an_ (kinfolkref07_GetID_C21_runs depth n2 (decide ((n2 : Int) = 0)) l_ n3 _ h3) (an_ (not_of2 h4) (an_ h5 (an_ (kinfolkref01_Zero_runs _ h6) (an_ (kinfolkref01_Zero_runs _ h6) (an_ (kinfolkref07_GetID_C45_2_runs rec_kinfolkref07_GetID_4 hrec_kinfolkref07_GetID_4 depth n2 t t (!(decide ((n2 : Int) = 1))) l_2 n4 _ h7) (an_ (kinfolkref07_GetID_C58_runs rec_kinfolkref07_GetID_4 hrec_kinfolkref07_GetID_4 depth n2 (T_kinfolkref01_ID.mk n7 t4 t5) t (!(decide ((n2 : Int) = 2))) l_3 n5 _ h8) (an_ h9 (an_ (not_of2 h10) (an_ h11 (an_ (not_of2 h12) (an_ h13 (an_ (rfl : false = false) trivial))))))))))))))) (by kernel_rfl))
                            exact e_.out ⟨.eq rfl, .eq rfl, trivial⟩ ⟨⟨.eq rfl, .eq rfl, trivial⟩, trivial⟩ trivial rfl
                        · have h := some_of h
                          subst h
                          exact runs_of (C := cfg) (objs := [[(.pv (.bools l false)), (.pv (.int .i64 n))]]) (sc := [.res (kinfolkref05_Get_2_out 2 l n (n2, l_, n3)), .br true, .lp (kinfolkref07_GetID_C21_ex depth n2 (decide ((n2 : Int) = 0)) l_ n3 (.inr (l_2, n4))).1 (kinfolkref07_GetID_C21_ex depth n2 (decide ((n2 : Int) = 0)) l_ n3 (.inr (l_2, n4))).2, .br false, .br false, .res (kinfolkref01_Zero_out t), .res (kinfolkref01_Zero_out t), .lp (kinfolkref07_GetID_C45_2_ex depth n2 t t (!(decide ((n2 : Int) = 1))) l_2 n4 (.inl ((T_kinfolkref01_ID.mk n7 t4 t5), l_3, n5))).1 (kinfolkref07_GetID_C45_2_ex depth n2 t t (!(decide ((n2 : Int) = 1))) l_2 n4 (.inl ((T_kinfolkref01_ID.mk n7 t4 t5), l_3, n5))).2, .lp (kinfolkref07_GetID_C58_ex depth n2 (T_kinfolkref01_ID.mk n7 t4 t5) t (!(decide ((n2 : Int) = 2))) l_3 n5 (.inl ((T_kinfolkref01_ID.mk n8 t6 t7), l_4, n6))).1 (kinfolkref07_GetID_C58_ex depth n2 (T_kinfolkref01_ID.mk n7 t4 t5) t (!(decide ((n2 : Int) = 2))) l_3 n5 (.inl ((T_kinfolkref01_ID.mk n8 t6 t7), l_4, n6))).2, .br true, .br false, .br true, .br true, .br true, .res (kinfolkref01_Zero_out t)]) (.k0 (an_ (kinfolkref05_Get_2_runs 2 l n _ h1) (an_ h2 (an_ (kinfolkref07_GetID_C21_runs depth n2 (decide ((n2 : Int) = 0)) l_ n3 _ h3) (an_ (not_of2 h4) (an_ h5 (an_ (kinfolkref01_Zero_runs _ h6) (an_ (kinfolkref01_Zero_runs _ h6) (an_ (kinfolkref07_GetID_C45_2_runs rec_kinfolkref07_GetID_4 hrec_kinfolkref07_GetID_4 depth n2 t t (!(decide ((n2 : Int) = 1))) l_2 n4 _ h7) (an_ (kinfolkref07_GetID_C58_runs rec_kinfolkref07_GetID_4 hrec_kinfolkref07_GetID_4 depth n2 (T_kinfolkref01_ID.mk n7 t4 t5) t (!(decide ((n2 : Int) = 2))) l_3 n5 _ h8) (an_ h9 (an_ (not_of2 h10) (an_ h11 (an_ (not_of h12) (an_ (rfl : true = true) (an_ (kinfolkref01_Zero_runs _ h6) trivial))))))))))))))) (by kernel_rfl))
                      · rcases cond_of h with ⟨h12, h⟩ | ⟨h12, h⟩
                        · rcases cond_of h with ⟨h13, h⟩ | ⟨h13, h⟩
                          · have h := some_of h
                            subst h
                            exact runs_of (C := cfg) (objs := [[(.pv (.bools l false)), (.pv (.int .i64 n))]]) (sc := [.res (kinfolkref05_Get_2_out 2 l n (n2, l_, n3)), .br true, .lp (kinfolkref07_GetID_C21_ex depth n2 (decide ((n2 : Int) = 0)) l_ n3 (.inr (l_2, n4))).1 (kinfolkref07_GetID_C21_ex depth n2 (decide ((n2 : Int) = 0)) l_ n3 (.inr (l_2, n4))).2, .br false, .br false, .res (kinfolkref01_Zero_out t), .res (kinfolkref01_Zero_out t), .lp (kinfolkref07_GetID_C45_2_ex depth n2 t t (!(decide ((n2 : Int) = 1))) l_2 n4 (.inl ((T_kinfolkref01_ID.mk n7 t4 t5), l_3, n5))).1 (kinfolkref07_GetID_C45_2_ex depth n2 t t (!(decide ((n2 : Int) = 1))) l_2 n4 (.inl ((T_kinfolkref01_ID.mk n7 t4 t5), l_3, n5))).2, .lp (kinfolkref07_GetID_C58_ex depth n2 (T_kinfolkref01_ID.mk n7 t4 t5) t (!(decide ((n2 : Int) = 2))) l_3 n5 (.inl ((T_kinfolkref01_ID.mk n8 t6 t7), l_4, n6))).1 (kinfolkref07_GetID_C58_ex depth n2 (T_kinfolkref01_ID.mk n7 t4 t5) t (!(decide ((n2 : Int) = 2))) l_3 n5 (.inl ((T_kinfolkref01_ID.mk n8 t6 t7), l_4, n6))).2, .br true, .br false, .br false, .br false, .br true, .br true, .res (kinfolkref01_Zero_out t)]) (.k0 (an_ (kinfolkref05_Get_2_runs 2 l n _ h1) (an_ h2 (an_ (kinfolkref07_GetID_C21_runs depth n2 (decide ((n2 : Int) = 0)) l_ n3 _ h3) (an_ (not_of2 h4) (an_ h5 (an_ (kinfolkref01_Zero_runs _ h6) (an_ (kinfolkref01_Zero_runs _ h6) (an_ (kinfolkref07_GetID_C45_2_runs rec_kinfolkref07_GetID_4 hrec_kinfolkref07_GetID_4 depth n2 t t (!(decide ((n2 : Int) = 1))) l_2 n4 _ h7) (an_ (kinfolkref07_GetID_C58_runs rec_kinfolkref07_GetID_4 hrec_kinfolkref07_GetID_4 depth n2 (T_kinfolkref01_ID.mk n7 t4 t5) t (!(decide ((n2 : Int) = 2))) l_3 n5 _ h8) (an_ h9 (an_ (not_of2 h10) (an_ h11 (an_ (rfl : false = false) (an_ h12 (an_ h13 (an_ (kinfolkref01_Zero_runs _ h6) trivial)))))))))))))))) (by kernel_rfl))
                          · have h := some_of h
                            subst h
                            have e_ : Runs Try.prog 74 [(.one (.ref 0 0)), (.one (.pv (.int .i64 depth)))] [[(.pv (.bools l false)), (.pv (.int .i64 n))]] [] ([(.one (.pv (.imm [(.int .i64 2), (T_kinfolkref01_ID.pv (T_kinfolkref01_ID.mk n7 t4 t5)), (T_kinfolkref01_ID.pv (T_kinfolkref01_ID.mk n8 t6 t7))] 0))), (.one (.pv (.int .i64 0)))], [[(.pv (.bools l_4 false)), (.pv (.int .i64 n6))]], []) := runs_of (C := cfg) (objs := [[(.pv (.bools l false)), (.pv (.int .i64 n))]]) (sc := [.res (kinfolkref05_Get_2_out 2 l n (n2, l_, n3)), .br true, .lp (kinfolkref07_GetID_C21_ex depth n2 (decide ((n2 : Int) = 0)) l_ n3 (.inr (l_2, n4))).1 (kinfolkref07_GetID_C21_ex depth n2 (decide ((n2 : Int) = 0)) l_ n3 (.inr (l_2, n4))).2, .br false, .br false, .res (kinfolkref01_Zero_out t), .res (kinfolkref01_Zero_out t), .lp (kinfolkref07_GetID_C45_2_ex depth n2 t t (!(decide ((n2 : Int) = 1))) l_2 n4 (.inl ((T_kinfolkref01_ID.mk n7 t4 t5), l_3, n5))).1 (kinfolkref07_GetID_C45_2_ex depth n2 t t (!(decide ((n2 : Int) = 1))) l_2 n4 (.inl ((T_kinfolkref01_ID.mk n7 t4 t5), l_3, n5))).2, .lp (kinfolkref07_GetID_C58_ex depth n2 (T_kinfolkref01_ID.mk n7 t4 t5) t (!(decide ((n2 : Int) = 2))) l_3 n5 (.inl ((T_kinfolkref01_ID.mk n8 t6 t7), l_4, n6))).1 (kinfolkref07_GetID_C58_ex depth n2 (T_kinfolkref01_ID.mk n7 t4 t5) t (!(decide ((n2 : Int) = 2))) l_3 n5 (.inl ((T_kinfolkref01_ID.mk n8 t6 t7), l_4, n6))).2, .br true, .br false, .br false, .br false, .br true, .br false]) (.k0 (an_ (kinfolkref05_Get_2_runs 2 l n _ h1) (an_ h2 (an_ (kinfolkref07_GetID_C21_runs depth n2 (decide ((n2 : Int) = 0)) l_ n3 _ h3) (an_ (not_of2 h4) (an_ h5 (an_ (kinfolkref01_Zero_runs _ h6) (an_ (kinfolkref01_Zero_runs _ h6) (an_ (kinfolkref07_GetID_C45_2_runs rec_kinfolkref07_GetID_4 hrec_kinfolkref07_GetID_4 depth n2 t t (!(decide ((n2 : Int) = 1))) l_2 n4 _ h7) (an_ (kinfolkref07_GetID_C58_runs rec_kinfolkref07_GetID_4 hrec_kinfolkref07_GetID_4 depth n2 (T_kinfolkref01_ID.mk n7 t4 t5) t (!(decide ((n2 : Int) = 2))) l_3 n5 _ h8) (an_ h9 (an_ (not_of2 h10) (an_ h11 (an_ (rfl : false = false) (an_ h12 (an_ h13 trivial))))))))))))))) (by kernel_rfl))
                            exact e_.out ⟨.eq rfl, .eq rfl, trivial⟩ ⟨⟨.eq rfl, .eq rfl, trivial⟩, trivial⟩ trivial rfl
                        · have h := some_of h
                          subst h
                          have e_ : Runs Try.prog 74 [(.one (.ref 0 0)), (.one (.pv (.int .i64 depth)))] [[(.pv (.bools l false)), (.pv (.int .i64 n))]] [] ([(.one (.pv (.imm [(.int .i64 2), (T_kinfolkref01_ID.pv (T_kinfolkref01_ID.mk n7 t4 t5)), (T_kinfolkref01_ID.pv (T_kinfolkref01_ID.mk n8 t6 t7))] 0))), (.one (.pv (.int .i64 0)))], [[(.pv (.bools l_4 false)), (.pv (.int .i64 n6))]], []) := runs_of (C := cfg) (objs := [[(.pv (.bools l false)), (.pv (.int .i64 n))]]) (sc := [.res (kinfolkref05_Get_2_out 2 l n (n2, l_, n3)), .br true, .lp (kinfolkref07_GetID_C21_ex depth n2 (decide ((n2 : Int) = 0)) l_ n3 (.inr (l_2, n4))).1 (kinfolkref07_GetID_C21_ex depth n2 (decide ((n2 : Int) = 0)) l_ n3 (.inr (l_2, n4))).2, .br false, .br false, .res (kinfolkref01_Zero_out t), .res (kinfolkref01_Zero_out t), .lp (kinfolkref07_GetID_C45_2_ex depth n2 t t (!(decide ((n2 : Int) = 1))) l_2 n4 (.inl ((T_kinfolkref01_ID.mk n7 t4 t5), l_3, n5))).1 (kinfolkref07_GetID_C45_2_ex depth n2 t t (!(decide ((n2 : Int) = 1))) l_2 n4 (.inl ((T_kinfolkref01_ID.mk n7 t4 t5), l_3, n5))).2, .lp (kinfolkref07_GetID_C58_ex depth n2 (T_kinfolkref01_ID.mk n7 t4 t5) t (!(decide ((n2 : Int) = 2))) l_3 n5 (.inl ((T_kinfolkref01_ID.mk n8 t6 t7), l_4, n6))).1 (kinfolkref07_GetID_C58_ex depth n2 (T_kinfolkref01_ID.mk n7 t4 t5) t (!(decide ((n2 : Int) = 2))) l_3 n5 (.inl ((T_kinfolkref01_ID.mk n8 t6 t7), l_4, n6))).2, .br true, .br false, .br false, .br false, .br false, .br false]) (.k0 (an_ (kinfolkref05_Get_2_runs 2 l n _ h1) (an_ h2 (an_ (kinfolkref07_GetID_C21_runs depth n2 (decide ((n2 : Int) = 0)) l_ n3 _ h3) (an_ (not_of2 h4) (an_ h5 (an_ (kinfolkref01_Zero_runs _ h6) (an_ (kinfolkref01_Zero_runs _ h6) (an_ (kinfolkref07_GetID_C45_2_runs rec_kinfolkref07_GetID_4 hrec_kinfolkref07_GetID_4 depth n2 t t (!(decide ((n2 : Int) = 1))) l_2 n4 _ h7) (an_ (kinfolkref07_GetID_C58_runs rec_kinfolkref07_GetID_4 hrec_kinfolkref07_GetID_4 depth n2 (T_kinfolkref01_ID.mk n7 t4 t5) t (!(decide ((n2 : Int) = 2))) l_3 n5 _ h8) (an_ h9 (an_ (not_of2 h10) (an_ h11 (an_ (rfl : false = false) (an_ h12 (an_ (rfl : false = false) trivial))))))))))))))) (by kernel_rfl))
                          exact e_.out ⟨.eq rfl, .eq rfl, trivial⟩ ⟨⟨.eq rfl, .eq rfl, trivial⟩, trivial⟩ trivial rfl
                  · have h := some_of h
                    subst h
                    exact runs_of (C := cfg) (objs := [[(.pv (.bools l false)), (.pv (.int .i64 n))]]) (sc := [.res (kinfolkref05_Get_2_out 2 l n (n2, l_, n3)), .br true, .lp (kinfolkref07_GetID_C21_ex depth n2 (decide ((n2 : Int) = 0)) l_ n3 (.inr (l_2, n4))).1 (kinfolkref07_GetID_C21_ex depth n2 (decide ((n2 : Int) = 0)) l_ n3 (.inr (l_2, n4))).2, .br false, .br false, .res (kinfolkref01_Zero_out t), .res (kinfolkref01_Zero_out t), .lp (kinfolkref07_GetID_C45_2_ex depth n2 t t (!(decide ((n2 : Int) = 1))) l_2 n4 (.inl ((T_kinfolkref01_ID.mk n7 t4 t5), l_3, n5))).1 (kinfolkref07_GetID_C45_2_ex depth n2 t t (!(decide ((n2 : Int) = 1))) l_2 n4 (.inl ((T_kinfolkref01_ID.mk n7 t4 t5), l_3, n5))).2, .lp (kinfolkref07_GetID_C58_ex depth n2 (T_kinfolkref01_ID.mk n7 t4 t5) t (!(decide ((n2 : Int) = 2))) l_3 n5 (.inl (t3, l_4, n6))).1 (kinfolkref07_GetID_C58_ex depth n2 (T_kinfolkref01_ID.mk n7 t4 t5) t (!(decide ((n2 : Int) = 2))) l_3 n5 (.inl (t3, l_4, n6))).2, .br true, .br true, .br true, .br true, .res (kinfolkref01_Zero_out t)]) (.k0 (an_ (kinfolkref05_Get_2_runs 2 l n _ h1) (an_ h2 (an_ (kinfolkref07_GetID_C21_runs depth n2 (decide ((n2 : Int) = 0)) l_ n3 _ h3) (an_ (not_of2 h4) (an_ h5 (an_ (kinfolkref01_Zero_runs _ h6) (an_ (kinfolkref01_Zero_runs _ h6) (an_ (kinfolkref07_GetID_C45_2_runs rec_kinfolkref07_GetID_4 hrec_kinfolkref07_GetID_4 depth n2 t t (!(decide ((n2 : Int) = 1))) l_2 n4 _ h7) (an_ (kinfolkref07_GetID_C58_runs rec_kinfolkref07_GetID_4 hrec_kinfolkref07_GetID_4 depth n2 (T_kinfolkref01_ID.mk n7 t4 t5) t (!(decide ((n2 : Int) = 2))) l_3 n5 _ h8) (an_ h9 (an_ (not_of h10) (an_ (rfl : true = true) (an_ (rfl : true = true) (an_ (kinfolkref01_Zero_runs _ h6) trivial)))))))))))))) (by kernel_rfl))
                · cases t3 with
                  | nil =>
                    cases h
                  | mk n8 t6 t7 =>
                    rcases cond_of h with ⟨h10, h⟩ | ⟨h10, h⟩
                    · rcases cond_of h with ⟨h11, h⟩ | ⟨h11, h⟩
                      · rcases cond_of h with ⟨h12, h⟩ | ⟨h12, h⟩
                        · rcases cond_of h with ⟨h13, h⟩ | ⟨h13, h⟩
                          · have h := some_of h
                            subst h
                            exact runs_of (C := cfg) (objs := [[(.pv (.bools l false)), (.pv (.int .i64 n))]]) (sc := [.res (kinfolkref05_Get_2_out 2 l n (n2, l_, n3)), .br true, .lp (kinfolkref07_GetID_C21_ex depth n2 (decide ((n2 : Int) = 0)) l_ n3 (.inr (l_2, n4))).1 (kinfolkref07_GetID_C21_ex depth n2 (decide ((n2 : Int) = 0)) l_ n3 (.inr (l_2, n4))).2, .br false, .br false, .res (kinfolkref01_Zero_out t), .res (kinfolkref01_Zero_out t), .lp (kinfolkref07_GetID_C45_2_ex depth n2 t t (!(decide ((n2 : Int) = 1))) l_2 n4 (.inl ((T_kinfolkref01_ID.mk n7 t4 t5), l_3, n5))).1 (kinfolkref07_GetID_C45_2_ex depth n2 t t (!(decide ((n2 : Int) = 1))) l_2 n4 (.inl ((T_kinfolkref01_ID.mk n7 t4 t5), l_3, n5))).2, .lp (kinfolkref07_GetID_C58_ex depth n2 (T_kinfolkref01_ID.mk n7 t4 t5) t (!(decide ((n2 : Int) = 2))) l_3 n5 (.inl ((T_kinfolkref01_ID.mk n8 t6 t7), l_4, n6))).1 (kinfolkref07_GetID_C58_ex depth n2 (T_kinfolkref01_ID.mk n7 t4 t5) t (!(decide ((n2 : Int) = 2))) l_3 n5 (.inl ((T_kinfolkref01_ID.mk n8 t6 t7), l_4, n6))).2, .br false, .br false, .br true, .br false, .br true, .br true, .res (kinfolkref01_Zero_out t)]) (.k0 (an_ (kinfolkref05_Get_2_runs 2 l n _ h1) (an_ h2 (an_ (kinfolkref07_GetID_C21_runs depth n2 (decide ((n2 : Int) = 0)) l_ n3 _ h3) (an_ (not_of2 h4) (an_ h5 (an_ (kinfolkref01_Zero_runs _ h6) (an_ (kinfolkref01_Zero_runs _ h6) (an_ (kinfolkref07_GetID_C45_2_runs rec_kinfolkref07_GetID_4 hrec_kinfolkref07_GetID_4 depth n2 t t (!(decide ((n2 : Int) = 1))) l_2 n4 _ h7) (an_ (kinfolkref07_GetID_C58_runs rec_kinfolkref07_GetID_4 hrec_kinfolkref07_GetID_4 depth n2 (T_kinfolkref01_ID.mk n7 t4 t5) t (!(decide ((n2 : Int) = 2))) l_3 n5 _ h8) (an_ h9 (an_ (rfl : false = false) (an_ h10 (an_ (not_of2 h11) (an_ h12 (an_ h13 (an_ (kinfolkref01_Zero_runs _ h6) trivial)))))))))))))))) (by kernel_rfl))
                          · have h := some_of h
                            subst h
                            have e_ : Runs Try.prog 74 [(.one (.ref 0 0)), (.one (.pv (.int .i64 depth)))] [[(.pv (.bools l false)), (.pv (.int .i64 n))]] [] ([(.one (.pv (.imm [(.int .i64 2), (T_kinfolkref01_ID.pv (T_kinfolkref01_ID.mk n7 t4 t5)), (T_kinfolkref01_ID.pv (T_kinfolkref01_ID.mk n8 t6 t7))] 0))), (.one (.pv (.int .i64 0)))], [[(.pv (.bools l_4 false)), (.pv (.int .i64 n6))]], []) := runs_of (C := cfg) (objs := [[(.pv (.bools l false)), (.pv (.int .i64 n))]]) (sc := [.res (kinfolkref05_Get_2_out 2 l n (n2, l_, n3)), .br true, .lp (kinfolkref07_GetID_C21_ex depth n2 (decide ((n2 : Int) = 0)) l_ n3 (.inr (l_2, n4))).1 (kinfolkref07_GetID_C21_ex depth n2 (decide ((n2 : Int) = 0)) l_ n3 (.inr (l_2, n4))).2, .br false, .br false, .res (kinfolkref01_Zero_out t), .res (kinfolkref01_Zero_out t), .lp (kinfolkref07_GetID_C45_2_ex depth n2 t t (!(decide ((n2 : Int) = 1))) l_2 n4 (.inl ((T_kinfolkref01_ID.mk n7 t4 t5), l_3, n5))).1 (kinfolkref07_GetID_C45_2_ex depth n2 t t (!(decide ((n2 : Int) = 1))) l_2 n4 (.inl ((T_kinfolkref01_ID.mk n7 t4 t5), l_3, n5))).2, .lp (kinfolkref07_GetID_C58_ex depth n2 (T_kinfolkref01_ID.mk n7 t4 t5) t (!(decide ((n2 : Int) = 2))) l_3 n5 (.inl ((T_kinfolkref01_ID.mk n8 t6 t7), l_4, n6))).1 (kinfolkref07_GetID_C58_ex depth n2 (T_kinfolkref01_ID.mk n7 t4 t5) t (!(decide ((n2 : Int) = 2))) l_3 n5 (.inl ((T_kinfolkref01_ID.mk n8 t6 t7), l_4, n6))).2, .br false, .br false, .br true, .br false, .br true, .br false]) (.k0 (an_ (kinfolkref05_Get_2_runs 2 l n _ h1) (an_ h2 (an_ (kinfolkref07_GetID_C21_runs depth n2 (decide ((n2 : Int) = 0)) l_ n3 _ h3) (an_ (not_of2 h4) (an_ h5 (an_ (kinfolkref01_Zero_runs _ h6) (an_ (kinfolkref01_Zero_runs _ h6) (an_ (kinfolkref07_GetID_C45_2_runs rec_kinfolkref07_GetID_4 hrec_kinfolkref07_GetID_4 depth n2 t t (!(decide ((n2 : Int) = 1))) l_2 n4 _ h7) (an_ (kinfolkref07_GetID_C58_runs rec_kinfolkref07_GetID_4 hrec_kinfolkref07_GetID_4 depth n2 (T_kinfolkref01_ID.mk n7 t4 t5) t (!(decide ((n2 : Int) = 2))) l_3 n5 _ h8) (an_ h9 (an_ (rfl : false = false) (an_ h10 (an_ (not_of2 h11) (an_ h12 (an_ h13 trivial))))))))))))))) (by kernel_rfl))
                            exact e_.out ⟨.eq rfl, .eq rfl, trivial⟩ ⟨⟨.eq rfl, .eq rfl, trivial⟩, trivial⟩ trivial rfl
                        · have h := some_of h
                          subst h
                          have e_ : Runs Try.prog 74 [(.one (.ref 0 0)), (.one (.pv (.int .i64 depth)))] [[(.pv (.bools l false)), (.pv (.int .i64 n))]] [] ([(.one (.pv (.imm [(.int .i64 2), (T_kinfolkref01_ID.pv (T_kinfolkref01_ID.mk n7 t4 t5)), (T_kinfolkref01_ID.pv (T_kinfolkref01_ID.mk n8 t6 t7))] 0))), (.one (.pv (.int .i64 0)))], [[(.pv (.bools l_4 false)), (.pv (.int .i64 n6))]], []) := runs_of (C := cfg) (objs := [[(.pv (.bools l false)), (.pv (.int .i64 n))]]) (sc := [.res (kinfolkref05_Get_2_out 2 l n (n2, l_, n3)), .br true, .lp (kinfolkref07_GetID_C21_ex depth n2 (decide ((n2 : Int) = 0)) l_ n3 (.inr (l_2, n4))).1 (kinfolkref07_GetID_C21_ex depth n2 (decide ((n2 : Int) = 0)) l_ n3 (.inr (l_2, n4))).2, .br false, .br false, .res (kinfolkref01_Zero_out t), .res (kinfolkref01_Zero_out t), .lp (kinfolkref07_GetID_C45_2_ex depth n2 t t (!(decide ((n2 : Int) = 1))) l_2 n4 (.inl ((T_kinfolkref01_ID.mk n7 t4 t5), l_3, n5))).1 (kinfolkref07_GetID_C45_2_ex depth n2 t t (!(decide ((n2 : Int) = 1))) l_2 n4 (.inl ((T_kinfolkref01_ID.mk n7 t4 t5), l_3, n5))).2, .lp (kinfolkref07_GetID_C58_ex depth n2 (T_kinfolkref01_ID.mk n7 t4 t5) t (!(decide ((n2 : Int) = 2))) l_3 n5 (.inl ((T_kinfolkref01_ID.mk n8 t6 t7), l_4, n6))).1 (kinfolkref07_GetID_C58_ex depth n2 (T_kinfolkref01_ID.mk n7 t4 t5) t (!(decide ((n2 : Int) = 2))) l_3 n5 (.inl ((T_kinfolkref01_ID.mk n8 t6 t7), l_4, n6))).2, .br false, .br false, .br true, .br false, .br false, .br false]) (.k0 (an_ (kinfolkref05_Get_2_runs 2 l n _ h1) (an_ h2 (an_ (kinfolkref07_GetID_C21_runs depth n2 (decide ((n2 : Int) = 0)) l_ n3 _ h3) (an_ (not_of2 h4) (an_ h5 (an_ (kinfolkref01_Zero_runs _ h6) (an_ (kinfolkref01_Zero_runs _ h6) (an_ (kinfolkref07_GetID_C45_2_runs rec_kinfolkref07_GetID_4 hrec_kinfolkref07_GetID_4 depth n2 t t (!(decide ((n2 : Int) = 1))) l_2 n4 _ h7) (an_ (kinfolkref07_GetID_C58_runs rec_kinfolkref07_GetID_4 hrec_kinfolkref07_GetID_4 depth n2 (T_kinfolkref01_ID.mk n7 t4 t5) t (!(decide ((n2 : Int) = 2))) l_3 n5 _ h8) (an_ h9 (an_ (rfl : false = false) (an_ h10 (an_ (not_of2 h11) (an_ h12 (an_ (rfl : false = false) trivial))))))))))))))) (by kernel_rfl))
                          exact e_.out ⟨.eq rfl, .eq rfl, trivial⟩ ⟨⟨.eq rfl, .eq rfl, trivial⟩, trivial⟩ trivial rfl
                      · have h := some_of h
                        subst h
                        exact runs_of (C := cfg) (objs := [[(.pv (.bools l false)), (.pv (.int .i64 n))]]) (sc := [.res (kinfolkref05_Get_2_out 2 l n (n2, l_, n3)), .br true, .lp (kinfolkref07_GetID_C21_ex depth n2 (decide ((n2 : Int) = 0)) l_ n3 (.inr (l_2, n4))).1 (kinfolkref07_GetID_C21_ex depth n2 (decide ((n2 : Int) = 0)) l_ n3 (.inr (l_2, n4))).2, .br false, .br false, .res (kinfolkref01_Zero_out t), .res (kinfolkref01_Zero_out t), .lp (kinfolkref07_GetID_C45_2_ex depth n2 t t (!(decide ((n2 : Int) = 1))) l_2 n4 (.inl ((T_kinfolkref01_ID.mk n7 t4 t5), l_3, n5))).1 (kinfolkref07_GetID_C45_2_ex depth n2 t t (!(decide ((n2 : Int) = 1))) l_2 n4 (.inl ((T_kinfolkref01_ID.mk n7 t4 t5), l_3, n5))).2, .lp (kinfolkref07_GetID_C58_ex depth n2 (T_kinfolkref01_ID.mk n7 t4 t5) t (!(decide ((n2 : Int) = 2))) l_3 n5 (.inl ((T_kinfolkref01_ID.mk n8 t6 t7), l_4, n6))).1 (kinfolkref07_GetID_C58_ex depth n2 (T_kinfolkref01_ID.mk n7 t4 t5) t (!(decide ((n2 : Int) = 2))) l_3 n5 (.inl ((T_kinfolkref01_ID.mk n8 t6 t7), l_4, n6))).2, .br false, .br false, .br true, .br true, .br true, .res (kinfolkref01_Zero_out t)]) (.k0 (an_ (kinfolkref05_Get_2_runs 2 l n _ h1) (an_ h2 (an_ (kinfolkref07_GetID_C21_runs depth n2 (decide ((n2 : Int) = 0)) l_ n3 _ h3) (an_ (not_of2 h4) (an_ h5 (an_ (kinfolkref01_Zero_runs _ h6) (an_ (kinfolkref01_Zero_runs _ h6) (an_ (kinfolkref07_GetID_C45_2_runs rec_kinfolkref07_GetID_4 hrec_kinfolkref07_GetID_4 depth n2 t t (!(decide ((n2 : Int) = 1))) l_2 n4 _ h7) (an_ (kinfolkref07_GetID_C58_runs rec_kinfolkref07_GetID_4 hrec_kinfolkref07_GetID_4 depth n2 (T_kinfolkref01_ID.mk n7 t4 t5) t (!(decide ((n2 : Int) = 2))) l_3 n5 _ h8) (an_ h9 (an_ (rfl : false = false) (an_ h10 (an_ (not_of h11) (an_ (rfl : true = true) (an_ (kinfolkref01_Zero_runs _ h6) trivial))))))))))))))) (by kernel_rfl))
                    · rcases cond_of h with ⟨h11, h⟩ | ⟨h11, h⟩
                      · rcases cond_of h with ⟨h12, h⟩ | ⟨h12, h⟩
                        · have h := some_of h
                          subst h
                          exact runs_of (C := cfg) (objs := [[(.pv (.bools l false)), (.pv (.int .i64 n))]]) (sc := [.res (kinfolkref05_Get_2_out 2 l n (n2, l_, n3)), .br true, .lp (kinfolkref07_GetID_C21_ex depth n2 (decide ((n2 : Int) = 0)) l_ n3 (.inr (l_2, n4))).1 (kinfolkref07_GetID_C21_ex depth n2 (decide ((n2 : Int) = 0)) l_ n3 (.inr (l_2, n4))).2, .br false, .br false, .res (kinfolkref01_Zero_out t), .res (kinfolkref01_Zero_out t), .lp (kinfolkref07_GetID_C45_2_ex depth n2 t t (!(decide ((n2 : Int) = 1))) l_2 n4 (.inl ((T_kinfolkref01_ID.mk n7 t4 t5), l_3, n5))).1 (kinfolkref07_GetID_C45_2_ex depth n2 t t (!(decide ((n2 : Int) = 1))) l_2 n4 (.inl ((T_kinfolkref01_ID.mk n7 t4 t5), l_3, n5))).2, .lp (kinfolkref07_GetID_C58_ex depth n2 (T_kinfolkref01_ID.mk n7 t4 t5) t (!(decide ((n2 : Int) = 2))) l_3 n5 (.inl ((T_kinfolkref01_ID.mk n8 t6 t7), l_4, n6))).1 (kinfolkref07_GetID_C58_ex depth n2 (T_kinfolkref01_ID.mk n7 t4 t5) t (!(decide ((n2 : Int) = 2))) l_3 n5 (.inl ((T_kinfolkref01_ID.mk n8 t6 t7), l_4, n6))).2, .br false, .br false, .br false, .br false, .br true, .br true, .res (kinfolkref01_Zero_out t)]) (.k0 (an_ (kinfolkref05_Get_2_runs 2 l n _ h1) (an_ h2 (an_ (kinfolkref07_GetID_C21_runs depth n2 (decide ((n2 : Int) = 0)) l_ n3 _ h3) (an_ (not_of2 h4) (an_ h5 (an_ (kinfolkref01_Zero_runs _ h6) (an_ (kinfolkref01_Zero_runs _ h6) (an_ (kinfolkref07_GetID_C45_2_runs rec_kinfolkref07_GetID_4 hrec_kinfolkref07_GetID_4 depth n2 t t (!(decide ((n2 : Int) = 1))) l_2 n4 _ h7) (an_ (kinfolkref07_GetID_C58_runs rec_kinfolkref07_GetID_4 hrec_kinfolkref07_GetID_4 depth n2 (T_kinfolkref01_ID.mk n7 t4 t5) t (!(decide ((n2 : Int) = 2))) l_3 n5 _ h8) (an_ h9 (an_ (rfl : false = false) (an_ h10 (an_ (rfl : false = false) (an_ h11 (an_ h12 (an_ (kinfolkref01_Zero_runs _ h6) trivial)))))))))))))))) (by kernel_rfl))
                        · have h := some_of h
                          subst h
                          have e_ : Runs Try.prog 74 [(.one (.ref 0 0)), (.one (.pv (.int .i64 depth)))] [[(.pv (.bools l false)), (.pv (.int .i64 n))]] [] ([(.one (.pv (.imm [(.int .i64 2), (T_kinfolkref01_ID.pv (T_kinfolkref01_ID.mk n7 t4 t5)), (T_kinfolkref01_ID.pv (T_kinfolkref01_ID.mk n8 t6 t7))] 0))), (.one (.pv (.int .i64 0)))], [[(.pv (.bools l_4 false)), (.pv (.int .i64 n6))]], []) := runs_of (C := cfg) (objs := [[(.pv (.bools l false)), (.pv (.int .i64 n))]]) (sc := [.res (kinfolkref05_Get_2_out 2 l n (n2, l_, n3)), .br true, .lp (kinfolkref07_GetID_C21_ex depth n2 (decide ((n2 : Int) = 0)) l_ n3 (.inr (l_2, n4))).1 (kinfolkref07_GetID_C21_ex depth n2 (decide ((n2 : Int) = 0)) l_ n3 (.inr (l_2, n4))).2, .br false, .br false, .res (kinfolkref01_Zero_out t), .res (kinfolkref01_Zero_out t), .lp (kinfolkref07_GetID_C45_2_ex depth n2 t t (!(decide ((n2 : Int) = 1))) l_2 n4 (.inl ((T_kinfolkref01_ID.mk n7 t4 t5), l_3, n5))).1 (kinfolkref07_GetID_C45_2_ex depth n2 t t (!(decide ((n2 : Int) = 1))) l_2 n4 (.inl ((T_kinfolkref01_ID.mk n7 t4 t5), l_3, n5))).2, .lp (kinfolkref07_GetID_C58_ex depth n2 (T_kinfolkref01_ID.mk n7 t4 t5) t (!(decide ((n2 : Int) = 2))) l_3 n5 (.inl ((T_kinfolkref01_ID.mk n8 t6 t7), l_4, n6))).1 (kinfolkref07_GetID_C58_ex depth n2 (T_kinfolkref01_ID.mk n7 t4 t5) t (!(decide ((n2 : Int) = 2))) l_3 n5 (.inl ((T_kinfolkref01_ID.mk n8 t6 t7), l_4, n6))).2, .br false, .br false, .br false, .br false, .br true, .br false]) (.k0 (an_ (kinfolkref05_Get_2_runs 2 l n _ h1) (an_ h2 (an_ (kinfolkref07_GetID_C21_runs depth n2 (decide ((n2 : Int) = 0)) l_ n3 _ h3) (an_ (not_of2 h4) (an_ h5 (an_ (kinfolkref01_Zero_runs _ h6) (an_ (kinfolkref01_Zero_runs _ h6) (an_ (kinfolkref07_GetID_C45_2_runs rec_kinfolkref07_GetID_4 hrec_kinfolkref07_GetID_4 depth n2 t t (!(decide ((n2 : Int) = 1))) l_2 n4 _ h7) (an_ (kinfolkref07_GetID_C58_runs rec_kinfolkref07_GetID_4 hrec_kinfolkref07_GetID_4 depth n2 (T_kinfolkref01_ID.mk n7 t4 t5) t (!(decide ((n2 : Int) = 2))) l_3 n5 _ h8) (an_ h9 (an_ (rfl : false = false) (an_ h10 (an_ (rfl : false = false) (an_ h11 (an_ h12 trivial))))))))))))))) (by kernel_rfl))
                          exact e_.out ⟨.eq rfl, .eq rfl, trivial⟩ ⟨⟨.eq rfl, .eq rfl, trivial⟩, trivial⟩ trivial rfl
                      · have h := some_of h
                        subst h
                        have e_ : Runs Try.prog 74 [(.one (.ref 0 0)), (.one (.pv (.int .i64 depth)))] [[(.pv (.bools l false)), (.pv (.int .i64 n))]] [] ([(.one (.pv (.imm [(.int .i64 2), (T_kinfolkref01_ID.pv (T_kinfolkref01_ID.mk n7 t4 t5)), (T_kinfolkref01_ID.pv (T_kinfolkref01_ID.mk n8 t6 t7))] 0))), (.one (.pv (.int .i64 0)))], [[(.pv (.bools l_4 false)), (.pv (.int .i64 n6))]], []) := runs_of (C := cfg) (objs := [[(.pv (.bools l false)), (.pv (.int .i64 n))]]) (sc := [.res (kinfolkref05_Get_2_out 2 l n (n2, l_, n3)), .br true, .lp (kinfolkref07_GetID_C21_ex depth n2 (decide ((n2 : Int) = 0)) l_ n3 (.inr (l_2, n4))).1 (kinfolkref07_GetID_C21_ex depth n2 (decide ((n2 : Int) = 0)) l_ n3 (.inr (l_2, n4))).2, .br false, .br false, .res (kinfolkref01_Zero_out t), .res (kinfolkref01_Zero_out t), .lp (kinfolkref07_GetID_C45_2_ex depth n2 t t (!(decide ((n2 : Int) = 1))) l_2 n4 (.inl ((T_kinfolkref01_ID.mk n7 t4 t5), l_3, n5))).1 (kinfolkref07_GetID_C45_2_ex depth n2 t t (!(decide ((n2 : Int) = 1))) l_2 n4 (.inl ((T_kinfolkref01_ID.mk n7 t4 t5), l_3, n5))).2, .lp (kinfolkref07_GetID_C58_ex depth n2 (T_kinfolkref01_ID.mk n7 t4 t5) t (!(decide ((n2 : Int) = 2))) l_3 n5 (.inl ((T_kinfolkref01_ID.mk n8 t6 t7), l_4, n6))).1 (kinfolkref07_GetID_C58_ex depth n2 (T_kinfolkref01_ID.mk n7 t4 t5) t (!(decide ((n2 : Int) = 2))) l_3 n5 (.inl ((T_kinfolkref01_ID.mk n8 t6 t7), l_4, n6))).2, .br false, .br false, .br false, .br false, .br false, .br false]) (.k0 (an_ (kinfolkref05_Get_2_runs 2 l n _ h1) (an_ h2 (an_ (kinfolkref07_GetID_C21_runs depth n2 (decide ((n2 : Int) = 0)) l_ n3 _ h3) (an_ (not_of2 h4) (an_ h5 (an_ (kinfolkref01_Zero_runs _ h6) (an_ (kinfolkref01_Zero_runs _ h6) (an_ (kinfolkref07_GetID_C45_2_runs rec_kinfolkref07_GetID_4 hrec_kinfolkref07_GetID_4 depth n2 t t (!(decide ((n2 : Int) = 1))) l_2 n4 _ h7) (an_ (kinfolkref07_GetID_C58_runs rec_kinfolkref07_GetID_4 hrec_kinfolkref07_GetID_4 depth n2 (T_kinfolkref01_ID.mk n7 t4 t5) t (!(decide ((n2 : Int) = 2))) l_3 n5 _ h8) (an_ h9 (an_ (rfl : false = false) (an_ h10 (an_ (rfl : false = false) (an_ h11 (an_ (rfl : false = false) trivial))))))))))))))) (by kernel_rfl))
                        exact e_.out ⟨.eq rfl, .eq rfl, trivial⟩ ⟨⟨.eq rfl, .eq rfl, trivial⟩, trivial⟩ trivial rfl
            · have h := some_of h
              subst h
              exact runs_of (C := cfg) (objs := [[(.pv (.bools l false)), (.pv (.int .i64 n))]]) (sc := [.res (kinfolkref05_Get_2_out 2 l n (n2, l_, n3)), .br true, .lp (kinfolkref07_GetID_C21_ex depth n2 (decide ((n2 : Int) = 0)) l_ n3 (.inr (l_2, n4))).1 (kinfolkref07_GetID_C21_ex depth n2 (decide ((n2 : Int) = 0)) l_ n3 (.inr (l_2, n4))).2, .br false, .br false, .res (kinfolkref01_Zero_out t), .res (kinfolkref01_Zero_out t), .lp (kinfolkref07_GetID_C45_2_ex depth n2 t t (!(decide ((n2 : Int) = 1))) l_2 n4 (.inl (t2, l_3, n5))).1 (kinfolkref07_GetID_C45_2_ex depth n2 t t (!(decide ((n2 : Int) = 1))) l_2 n4 (.inl (t2, l_3, n5))).2, .lp (kinfolkref07_GetID_C58_ex depth n2 t2 t (!(decide ((n2 : Int) = 2))) l_3 n5 (.inr (t3, n6, l_4, n7))).1 (kinfolkref07_GetID_C58_ex depth n2 t2 t (!(decide ((n2 : Int) = 2))) l_3 n5 (.inr (t3, n6, l_4, n7))).2]) (.k0 (an_ (kinfolkref05_Get_2_runs 2 l n _ h1) (an_ h2 (an_ (kinfolkref07_GetID_C21_runs depth n2 (decide ((n2 : Int) = 0)) l_ n3 _ h3) (an_ (not_of2 h4) (an_ h5 (an_ (kinfolkref01_Zero_runs _ h6) (an_ (kinfolkref01_Zero_runs _ h6) (an_ (kinfolkref07_GetID_C45_2_runs rec_kinfolkref07_GetID_4 hrec_kinfolkref07_GetID_4 depth n2 t t (!(decide ((n2 : Int) = 1))) l_2 n4 _ h7) (an_ (kinfolkref07_GetID_C58_runs rec_kinfolkref07_GetID_4 hrec_kinfolkref07_GetID_4 depth n2 t2 t (!(decide ((n2 : Int) = 2))) l_3 n5 _ h8) trivial))))))))) (by kernel_rfl))
          · have h := some_of h
            subst h
            exact runs_of (C := cfg) (objs := [[(.pv (.bools l false)), (.pv (.int .i64 n))]]) (sc := [.res (kinfolkref05_Get_2_out 2 l n (n2, l_, n3)), .br true, .lp (kinfolkref07_GetID_C21_ex depth n2 (decide ((n2 : Int) = 0)) l_ n3 (.inr (l_2, n4))).1 (kinfolkref07_GetID_C21_ex depth n2 (decide ((n2 : Int) = 0)) l_ n3 (.inr (l_2, n4))).2, .br false, .br false, .res (kinfolkref01_Zero_out t), .res (kinfolkref01_Zero_out t), .lp (kinfolkref07_GetID_C45_2_ex depth n2 t t (!(decide ((n2 : Int) = 1))) l_2 n4 (.inr (t2, n5, l_3, n6))).1 (kinfolkref07_GetID_C45_2_ex depth n2 t t (!(decide ((n2 : Int) = 1))) l_2 n4 (.inr (t2, n5, l_3, n6))).2]) (.k0 (an_ (kinfolkref05_Get_2_runs 2 l n _ h1) (an_ h2 (an_ (kinfolkref07_GetID_C21_runs depth n2 (decide ((n2 : Int) = 0)) l_ n3 _ h3) (an_ (not_of2 h4) (an_ h5 (an_ (kinfolkref01_Zero_runs _ h6) (an_ (kinfolkref01_Zero_runs _ h6) (an_ (kinfolkref07_GetID_C45_2_runs rec_kinfolkref07_GetID_4 hrec_kinfolkref07_GetID_4 depth n2 t t (!(decide ((n2 : Int) = 1))) l_2 n4 _ h7) trivial)))))))) (by kernel_rfl))
      · obtain ⟨t, h5, h⟩ := bind_of h
        have h := some_of h
        subst h
        exact runs_of (C := cfg) (objs := [[(.pv (.bools l false)), (.pv (.int .i64 n))]]) (sc := [.res (kinfolkref05_Get_2_out 2 l n (n2, l_, n3)), .br true, .lp (kinfolkref07_GetID_C21_ex depth n2 (decide ((n2 : Int) = 0)) l_ n3 (.inr (l_2, n4))).1 (kinfolkref07_GetID_C21_ex depth n2 (decide ((n2 : Int) = 0)) l_ n3 (.inr (l_2, n4))).2, .br true, .res (kinfolkref01_Zero_out t)]) (.k0 (an_ (kinfolkref05_Get_2_runs 2 l n _ h1) (an_ h2 (an_ (kinfolkref07_GetID_C21_runs depth n2 (decide ((n2 : Int) = 0)) l_ n3 _ h3) (an_ (not_of h4) (an_ (kinfolkref01_Zero_runs _ h5) trivial))))) (by kernel_rfl))
  · obtain ⟨t, h3, h⟩ := bind_of h
    have h := some_of h
    subst h
    exact runs_of (C := cfg) (objs := [[(.pv (.bools l false)), (.pv (.int .i64 n))]]) (sc := [.res (kinfolkref05_Get_2_out 2 l n (n2, l_, n3)), .br false, .br false, .br true, .res (kinfolkref01_Zero_out t)]) (.k0 (an_ (kinfolkref05_Get_2_runs 2 l n _ h1) (an_ h2 (an_ (rfl : false = false) (an_ (not_of h2) (an_ (kinfolkref01_Zero_runs _ h3) trivial))))) (by kernel_rfl))
noncomputable def kinfolkref07_GetID_4 : Nat → Int → List Bool → Int → Option (T_kinfolkref01_ID × Int × List Bool × Int)
  | 0, _, _, _ => none
  | N + 1, depth, l, n => kinfolkref07_GetID_4_b (kinfolkref07_GetID_4 N) depth l n
theorem kinfolkref07_GetID_4_runs : ∀ (N : Nat) (depth : Int) (l : List Bool) (n : Int) (r_ : T_kinfolkref01_ID × Int × List Bool × Int), kinfolkref07_GetID_4 N depth l n = some r_ → Runs Try.prog 74 [(.one (.ref 0 0)), (.one (.pv (.int .i64 depth)))] [[(.pv (.bools l false)), (.pv (.int .i64 n))]] [] (kinfolkref07_GetID_4_out depth l n r_)
  | 0, _, _, _, _, h => by cases h
  | N + 1, depth, l, n, r_, h => kinfolkref07_GetID_4_b_runs (kinfolkref07_GetID_4 N) (kinfolkref07_GetID_4_runs N) depth l n r_ h
/-! ### kinfolkref07_GetID_C45 -/
def kinfolkref07_GetID_C45_ex (depth : Int) (kind : Int) (x : T_kinfolkref01_ID) (y : T_kinfolkref01_ID) (b : Bool) (l : List Bool) (n : Int) : (T_kinfolkref01_ID × List Bool × Int) ⊕ (T_kinfolkref01_ID × Int × List Bool × Int) → Ex × St
  | .inl (r1, r2, r3) => (.normal, ⟨[(0, (.av (.one (.ref 0 0)))), (1, (.av (.one (.pv (.int .i64 depth))))), (6, (.av (.one (.pv (.int .u64 kind))))), (8, (.av (.one (.pv (T_kinfolkref01_ID.pv r1))))), (9, (.av (.one (.pv (T_kinfolkref01_ID.pv y)))))], [(0, [(.pv (.bools r2 false)), (.pv (.int .i64 r3))])], []⟩)
  | .inr (r1, r2, r3, r4) => (.ret, ⟨[(4, (.av (.one (.pv (T_kinfolkref01_ID.pv r1))))), (5, (.av (.one (.pv (.int .i64 r2)))))], [(0, [(.pv (.bools r3 false)), (.pv (.int .i64 r4))])], []⟩)
noncomputable def kinfolkref07_GetID_C45 (N : Nat) (depth : Int) (kind : Int) (x : T_kinfolkref01_ID) (y : T_kinfolkref01_ID) (b : Bool) (l : List Bool) (n : Int) : Option ((T_kinfolkref01_ID × List Bool × Int) ⊕ (T_kinfolkref01_ID × Int × List Bool × Int)) :=
  bif b then
    (kinfolkref07_GetID_4 N (iadd .i64 depth 1) l n).bind fun (t, n2, l_, n3) =>
    bif (decide ((n2 : Int) = 0)) then
      some (.inl (t, l_, n3))
    else
      (kinfolkref01_Zero).bind fun t2 =>
      some (.inr (t2, n2, l_, n3))
  else
    some (.inl (x, l, n))
theorem kinfolkref07_GetID_C45_runs (N : Nat) (depth : Int) (kind : Int) (x : T_kinfolkref01_ID) (y : T_kinfolkref01_ID) (b : Bool) (l : List Bool) (n : Int) (r_ : (T_kinfolkref01_ID × List Bool × Int) ⊕ (T_kinfolkref01_ID × Int × List Bool × Int)) (h : kinfolkref07_GetID_C45 N depth kind x y b l n = some r_) : LRuns Try.prog (lEnv Try.prog cfg 74 1).nt 1 (.cond (.tmp 45) (condAt Try.prog 74 45).1 (condAt Try.prog 74 45).2) ⟨[(0, (.av (.one (.ref 0 0)))), (1, (.av (.one (.pv (.int .i64 depth))))), (6, (.av (.one (.pv (.int .u64 kind))))), (8, (.av (.one (.pv (T_kinfolkref01_ID.pv x))))), (9, (.av (.one (.pv (T_kinfolkref01_ID.pv y))))), (45, (.av (.one (.pv (.bool b)))))], [(0, [(.pv (.bools l false)), (.pv (.int .i64 n))])], []⟩ (kinfolkref07_GetID_C45_ex depth kind x y b l n r_).1 (kinfolkref07_GetID_C45_ex depth kind x y b l n r_).2 := by
  unfold kinfolkref07_GetID_C45 at h
  rcases cond_of h with ⟨h1, h⟩ | ⟨h1, h⟩
  · obtain ⟨⟨t, n2, l_, n3⟩, h2, h⟩ := bind_of h
    rcases cond_of h with ⟨h3, h⟩ | ⟨h3, h⟩
    · have h := some_of h
      subst h
      exact piece_ok (C := cfg) (sc := [.br true, .res (kinfolkref07_GetID_4_out (iadd .i64 depth 1) l n (t, n2, l_, n3)), .br false]) (.k0 (an_ h1 (an_ (kinfolkref07_GetID_4_runs N (iadd .i64 depth 1) l n _ h2) (an_ (not_of2 h3) trivial))) (by kernel_rfl))
    · obtain ⟨t2, h4, h⟩ := bind_of h
      have h := some_of h
      subst h
      exact piece_ok (C := cfg) (sc := [.br true, .res (kinfolkref07_GetID_4_out (iadd .i64 depth 1) l n (t, n2, l_, n3)), .br true, .res (kinfolkref01_Zero_out t2)]) (.k0 (an_ h1 (an_ (kinfolkref07_GetID_4_runs N (iadd .i64 depth 1) l n _ h2) (an_ (not_of h3) (an_ (kinfolkref01_Zero_runs _ h4) trivial)))) (by kernel_rfl))
  · have h := some_of h
    subst h
    exact piece_ok (C := cfg) (sc := [.br false]) (.k0 (an_ h1 trivial) (by kernel_rfl))
/-! ### kinfolkref07_GetID_3 -/
noncomputable def kinfolkref07_GetID_3 (N : Nat) (depth : Int) (n : Int) (l : List Bool) : Option (T_kinfolkref01_ID × Int × List Bool × Int) :=
  (kinfolkref05_Get 2 n l).bind fun (n2, l_, n3) =>
  bif (decide ((n3 : Int) = 0)) then
    (kinfolkref07_GetID_C21 depth n2 (decide ((n2 : Int) = 0)) l_ n3).bind fun z_ => match z_ with
    | .inl (t, l_2, n4) =>
      some (t, 0, l_2, n4)
    | .inr (l_2, n4) =>
      bif (decide ((n4 : Int) = 0)) then
        bif (decide ((depth : Int) = 16)) then
          (kinfolkref01_Zero).bind fun t =>
          some (t, 3, l_2, n4)
        else
          (kinfolkref01_Zero).bind fun t =>
          (kinfolkref07_GetID_C45 N depth n2 t t (!(decide ((n2 : Int) = 1))) l_2 n4).bind fun z_ => match z_ with
          | .inl (t2, l_3, n5) =>
            (kinfolkref07_GetID_C58 (kinfolkref07_GetID_4 N) depth n2 t2 t (!(decide ((n2 : Int) = 2))) l_3 n5).bind fun z_ => match z_ with
            | .inl (t3, l_4, n6) =>
              match t2 with
              | .nil =>
                none
              | .mk n7 t4 t5 =>
                bif (decide ((n7 : Int) = 0)) then
                  bif (decide ((n2 : Int) = 1)) then
                    match t3 with
                    | .nil =>
                      none
                    | .mk n8 t6 t7 =>
                      bif (decide ((n8 : Int) = 0)) then
                        bif (decide ((n2 : Int) = 2)) then
                          bif (decide ((n7 : Int) = 1)) then
                            bif (decide ((n8 : Int) = 1)) then
                              some (t, 6, l_4, n6)
                            else
                              some ((T_kinfolkref01_ID.mk 2 t2 t3), 0, l_4, n6)
                          else
                            some ((T_kinfolkref01_ID.mk 2 t2 t3), 0, l_4, n6)
                        else
                          some (t, 6, l_4, n6)
                      else
                        bif (decide ((n7 : Int) = 1)) then
                          bif (decide ((n8 : Int) = 1)) then
                            some (t, 6, l_4, n6)
                          else
                            some ((T_kinfolkref01_ID.mk 2 t2 t3), 0, l_4, n6)
                        else
                          some ((T_kinfolkref01_ID.mk 2 t2 t3), 0, l_4, n6)
                  else
                    some (t, 6, l_4, n6)
                else
                  match t3 with
                  | .nil =>
                    none
                  | .mk n8 t6 t7 =>
                    bif (decide ((n8 : Int) = 0)) then
                      bif (decide ((n2 : Int) = 2)) then
                        bif (decide ((n7 : Int) = 1)) then
                          bif (decide ((n8 : Int) = 1)) then
                            some (t, 6, l_4, n6)
                          else
                            some ((T_kinfolkref01_ID.mk 2 t2 t3), 0, l_4, n6)
                        else
                          some ((T_kinfolkref01_ID.mk 2 t2 t3), 0, l_4, n6)
                      else
                        some (t, 6, l_4, n6)
                    else
                      bif (decide ((n7 : Int) = 1)) then
                        bif (decide ((n8 : Int) = 1)) then
                          some (t, 6, l_4, n6)
                        else
                          some ((T_kinfolkref01_ID.mk 2 t2 t3), 0, l_4, n6)
                      else
                        some ((T_kinfolkref01_ID.mk 2 t2 t3), 0, l_4, n6)
            | .inr (t3, n6, l_4, n7) =>
              some (t3, n6, l_4, n7)
          | .inr (t2, n5, l_3, n6) =>
            some (t2, n5, l_3, n6)
      else
        (kinfolkref01_Zero).bind fun t =>
        some (t, 6, l_2, n4)
  else
    (kinfolkref01_Zero).bind fun t =>
    some (t, 6, l_, n3)
theorem kinfolkref07_GetID_3_runs (N : Nat) (depth : Int) (n : Int) (l : List Bool) (r_ : T_kinfolkref01_ID × Int × List Bool × Int) (h : kinfolkref07_GetID_3 N depth n l = some r_) : Runs Try.prog 74 [(.one (.ref 0 0)), (.one (.pv (.int .i64 depth)))] [[(.own 0 0 (l).length false), (.pv (.int .i64 n))]] [(.bools l)] (kinfolkref07_GetID_3_out depth n l r_) := by
  unfold kinfolkref07_GetID_3 at h
  obtain ⟨⟨n2, l_, n3⟩, h1, h⟩ := bind_of h
  rcases cond_of h with ⟨h2, h⟩ | ⟨h2, h⟩
  · obtain ⟨z_, h3, h⟩ := bind_of h
    rcases z_ with ⟨t, l_2, n4⟩ | ⟨l_2, n4⟩
    · have h := some_of h
      subst h
      exact runs_of (C := cfg) (objs := [[(.own 0 0 (l).length false), (.pv (.int .i64 n))]]) (sc := [.res (kinfolkref05_Get_out 2 n l (n2, l_, n3)), .br true, .lp (kinfolkref07_GetID_C21_ex depth n2 (decide ((n2 : Int) = 0)) l_ n3 (.inl (t, l_2, n4))).1 (kinfolkref07_GetID_C21_ex depth n2 (decide ((n2 : Int) = 0)) l_ n3 (.inl (t, l_2, n4))).2]) (.k0 (an_ (kinfolkref05_Get_runs 2 n l _ h1) (an_ h2 (an_ (kinfolkref07_GetID_C21_runs depth n2 (decide ((n2 : Int) = 0)) l_ n3 _ h3) trivial))) (by kernel_rfl))
    · rcases cond_of h with ⟨h4, h⟩ | ⟨h4, h⟩
      · rcases cond_of h with ⟨h5, h⟩ | ⟨h5, h⟩
        · obtain ⟨t, h6, h⟩ := bind_of h
          have h := some_of h
          subst h
          exact runs_of (C := cfg) (objs := [[(.own 0 0 (l).length false), (.pv (.int .i64 n))]]) (sc := [.res (kinfolkref05_Get_out 2 n l (n2, l_, n3)), .br true, .lp (kinfolkref07_GetID_C21_ex depth n2 (decide ((n2 : Int) = 0)) l_ n3 (.inr (l_2, n4))).1 (kinfolkref07_GetID_C21_ex depth n2 (decide ((n2 : Int) = 0)) l_ n3 (.inr (l_2, n4))).2, .br false, .br true, .res (kinfolkref01_Zero_out t)]) (.k0 (an_ (kinfolkref05_Get_runs 2 n l _ h1) (an_ h2 (an_ (kinfolkref07_GetID_C21_runs depth n2 (decide ((n2 : Int) = 0)) l_ n3 _ h3) (an_ (not_of2 h4) (an_ h5 (an_ (kinfolkref01_Zero_runs _ h6) trivial)))))) (by kernel_rfl))
        · obtain ⟨t, h6, h⟩ := bind_of h
          obtain ⟨z_, h7, h⟩ := bind_of h
          rcases z_ with ⟨t2, l_3, n5⟩ | ⟨t2, n5, l_3, n6⟩
          · obtain ⟨z_, h8, h⟩ := bind_of h
            rcases z_ with ⟨t3, l_4, n6⟩ | ⟨t3, n6, l_4, n7⟩
            · cases t2 with
              | nil =>
                cases h
              | mk n7 t4 t5 =>
                rcases cond_of h with ⟨h9, h⟩ | ⟨h9, h⟩
                · rcases cond_of h with ⟨h10, h⟩ | ⟨h10, h⟩
                  · cases t3 with
                    | nil =>
                      cases h
                    | mk n8 t6 t7 =>
                      rcases cond_of h with ⟨h11, h⟩ | ⟨h11, h⟩
                      · rcases cond_of h with ⟨h12, h⟩ | ⟨h12, h⟩
                        · rcases cond_of h with ⟨h13, h⟩ | ⟨h13, h⟩
                          · rcases cond_of h with ⟨h14, h⟩ | ⟨h14, h⟩
                            · have h := some_of h
                              subst h
                              exact runs_of (C := cfg) (objs := [[(.own 0 0 (l).length false), (.pv (.int .i64 n))]]) (sc := [.res (kinfolkref05_Get_out 2 n l (n2, l_, n3)), .br true, .lp (kinfolkref07_GetID_C21_ex depth n2 (decide ((n2 : Int) = 0)) l_ n3 (.inr (l_2, n4))).1 (kinfolkref07_GetID_C21_ex depth n2 (decide ((n2 : Int) = 0)) l_ n3 (.inr (l_2, n4))).2, .br false, .br false, .res (kinfolkref01_Zero_out t), .res (kinfolkref01_Zero_out t), .lp (kinfolkref07_GetID_C45_ex depth n2 t t (!(decide ((n2 : Int) = 1))) l_2 n4 (.inl ((T_kinfolkref01_ID.mk n7 t4 t5), l_3, n5))).1 (kinfolkref07_GetID_C45_ex depth n2 t t (!(decide ((n2 : Int) = 1))) l_2 n4 (.inl ((T_kinfolkref01_ID.mk n7 t4 t5), l_3, n5))).2, .lp (kinfolkref07_GetID_C58_ex depth n2 (T_kinfolkref01_ID.mk n7 t4 t5) t (!(decide ((n2 : Int) = 2))) l_3 n5 (.inl ((T_kinfolkref01_ID.mk n8 t6 t7), l_4, n6))).1 (kinfolkref07_GetID_C58_ex depth n2 (T_kinfolkref01_ID.mk n7 t4 t5) t (!(decide ((n2 : Int) = 2))) l_3 n5 (.inl ((T_kinfolkref01_ID.mk n8 t6 t7), l_4, n6))).2, .br true, .br false, .br true, .br false, .br true, .br true, .res (kinfolkref01_Zero_out t)]) (.k0 (an_ (kinfolkref05_Get_runs 2 n l _ h1) (an_ h2 (an_ (kinfolkref07_GetID_C21_runs depth n2 (decide ((n2 : Int) = 0)) l_ n3 _ h3) (an_ (not_of2 h4) (an_ h5 (an_ (kinfolkref01_Zero_runs _ h6) (an_ (kinfolkref01_Zero_runs _ h6) (an_ (kinfolkref07_GetID_C45_runs N depth n2 t t (!(decide ((n2 : Int) = 1))) l_2 n4 _ h7) (an_ (kinfolkref07_GetID_C58_runs (kinfolkref07_GetID_4 N) (kinfolkref07_GetID_4_runs N) depth n2 (T_kinfolkref01_ID.mk n7 t4 t5) t (!(decide ((n2 : Int) = 2))) l_3 n5 _ h8) (an_ h9 (an_ (not_of2 h10) (an_ h11 (an_ (not_of2 h12) (an_ h13 (an_ h14 (an_ (kinfolkref01_Zero_runs _ h6) trivial)))))))))))))))) (by kernel_rfl))
                            · have h := some_of h
                              subst h
                              have e_ : Runs Try.prog 74 [(.one (.ref 0 0)), (.one (.pv (.int .i64 depth)))] [[(.own 0 0 (l).length false), (.pv (.int .i64 n))]] [(.bools l)] ([(.one (.pv (.imm [(.int .i64 2), (T_kinfolkref01_ID.pv (T_kinfolkref01_ID.mk n7 t4 t5)), (T_kinfolkref01_ID.pv (T_kinfolkref01_ID.mk n8 t6 t7))] 0))), (.one (.pv (.int .i64 0)))], [[(.pv (.bools l_4 false)), (.pv (.int .i64 n6))]], []) := runs_of (C := cfg) (objs := [[(.own 0 0 (l).length false), (.pv (.int .i64 n))]]) (sc := [.res (kinfolkref05_Get_out 2 n l (n2, l_, n3)), .br true, .lp (kinfolkref07_GetID_C21_ex depth n2 (decide ((n2 : Int) = 0)) l_ n3 (.inr (l_2, n4))).1 (kinfolkref07_GetID_C21_ex depth n2 (decide ((n2 : Int) = 0)) l_ n3 (.inr (l_2, n4))).2, .br false, .br false, .res (kinfolkref01_Zero_out t), .res (kinfolkref01_Zero_out t), .lp (kinfolkref07_GetID_C45_ex depth n2 t t (!(decide ((n2 : Int) = 1))) l_2 n4 (.inl ((T_kinfolkref01_ID.mk n7 t4 t5), l_3, n5))).1 (kinfolkref07_GetID_C45_ex depth n2 t t (!(decide ((n2 : Int) = 1))) l_2 n4 (.inl ((T_kinfolkref01_ID.mk n7 t4 t5), l_3, n5))).2, .lp (kinfolkref07_GetID_C58_ex depth n2 (T_kinfolkref01_ID.mk n7 t4 t5) t (!(decide ((n2 : Int) = 2))) l_3 n5 (.inl ((T_kinfolkref01_ID.mk n8 t6 t7), l_4, n6))).1 (kinfolkref07_GetID_C58_ex depth n2 (T_kinfolkref01_ID.mk n7 t4 t5) t (!(decide ((n2 : Int) = 2))) l_3 n5 (.inl ((T_kinfolkref01_ID.mk n8 t6 t7), l_4, n6))).2, .br true, .br false, .br true, .br false, .br true, .br false]) (.k0 (an_ (kinfolkref05_Get_runs 2 n l _ h1) (an_ h2 (an_ (kinfolkref07_GetID_C21_runs depth n2 (decide ((n2 : Int) = 0)) l_ n3 _ h3) (an_ (not_of2 h4) (an_ h5 (an_ (kinfolkref01_Zero_runs _ h6) (an_ (kinfolkref01_Zero_runs _ h6) (an_ (kinfolkref07_GetID_C45_runs N depth n2 t t (!(decide ((n2 : Int) = 1))) l_2 n4 _ h7) (an_ (kinfolkref07_GetID_C58_runs (kinfolkref07_GetID_4 N) (kinfolkref07_GetID_4_runs N) depth n2 (T_kinfolkref01_ID.mk n7 t4 t5) t (!(decide ((n2 : Int) = 2))) l_3 n5 _ h8) (an_ h9 (an_ (not_of2 h10) (an_ h11 (an_ (not_of2 h12) (an_ h13 (an_ h14 trivial))))))))))))))) (by kernel_rfl))
                              exact e_.out ⟨.eq rfl, .eq rfl, trivial⟩ ⟨⟨.eq rfl, .eq rfl, trivial⟩, trivial⟩ trivial rfl
                          · have h := some_of h
                            subst h
                            have e_ : Runs Try.prog 74 [(.one (.ref 0 0)), (.one (.pv (.int .i64 depth)))] [[(.own 0 0 (l).length false), (.pv (.int .i64 n))]] [(.bools l)] ([(.one (.pv (.imm [(.int .i64 2), (T_kinfolkref01_ID.pv (T_kinfolkref01_ID.mk n7 t4 t5)), (T_kinfolkref01_ID.pv (T_kinfolkref01_ID.mk n8 t6 t7))] 0))), (.one (.pv (.int .i64 0)))], [[(.pv (.bools l_4 false)), (.pv (.int .i64 n6))]], []) := runs_of (C := cfg) (objs := [[(.own 0 0 (l).length false), (.pv (.int .i64 n))]]) (sc := [.res (kinfolkref05_Get_out 2 n l (n2, l_, n3)), .br true, .lp (kinfolkref07_GetID_C21_ex depth n2 (decide ((n2 : Int) = 0)) l_ n3 (.inr (l_2, n4))).1 (kinfolkref07_GetID_C21_ex depth n2 (decide ((n2 : Int) = 0)) l_ n3 (.inr (l_2, n4))).2, .br false, .br false, .res (kinfolkref01_Zero_out t), .res (kinfolkref01_Zero_out t), .lp (kinfolkref07_GetID_C45_ex depth n2 t t (!(decide ((n2 : Int) = 1))) l_2 n4 (.inl ((T_kinfolkref01_ID.mk n7 t4 t5), l_3, n5))).1 (kinfolkref07_GetID_C45_ex depth n2 t t (!(decide ((n2 : Int) = 1))) l_2 n4 (.inl ((T_kinfolkref01_ID.mk n7 t4 t5), l_3, n5))).2, .lp (kinfolkref07_GetID_C58_ex depth n2 (T_kinfolkref01_ID.mk n7 t4 t5) t (!(decide ((n2 : Int) = 2))) l_3 n5 (.inl ((T_kinfolkref01_ID.mk n8 t6 t7), l_4, n6))).1 (kinfolkref07_GetID_C58_ex depth n2 (T_kinfolkref01_ID.mk n7 t4 t5) t (!(decide ((n2 : Int) = 2))) l_3 n5 (.inl ((T_kinfolkref01_ID.mk n8 t6 t7), l_4, n6))).2, .br true, .br false, .br true, .br false, .br false, .br false]) (.k0 (an_ (kinfolkref05_Get_runs 2 n l _ h1) (an_ h2 (an_ (kinfolkref07_GetID_C21_runs depth n2 (decide ((n2 : Int) = 0)) l_ n3 _ h3) (an_ (not_of2 h4) (an_ h5 (an_ (kinfolkref01_Zero_runs _ h6) (an_ (kinfolkref01_Zero_runs _ h6) (an_ (kinfolkref07_GetID_C45_runs N depth n2 t t (!(decide ((n2 : Int) = 1))) l_2 n4 _ h7) (an_ (kinfolkref07_GetID_C58_runs (kinfolkref07_GetID_4 N) (kinfolkref07_GetID_4_runs N) depth n2 (T_kinfolkref01_ID.mk n7 t4 t5) t (!(decide ((n2 : Int) = 2))) l_3 n5 _ h8) (an_ h9 (an_ (not_of2 h10) (an_ h11 (an_ (not_of2 h12) (an_ h13 (an_ (rfl : false = false) trivial))))))))))))))) (by kernel_rfl))
                            exact e_.out ⟨.eq rfl, .eq rfl, trivial⟩ ⟨⟨.eq rfl, .eq rfl, trivial⟩, trivial⟩ trivial rfl
                        · have h := some_of h
                          subst h
                          exact runs_of (C := cfg) (objs := [[(.own 0 0 (l).length false), (.pv (.int .i64 n))]]) (sc := [.res (kinfolkref05_Get_out 2 n l (n2, l_, n3)), .br true, .lp (kinfolkref07_GetID_C21_ex depth n2 (decide ((n2 : Int) = 0)) l_ n3 (.inr (l_2, n4))).1 (kinfolkref07_GetID_C21_ex depth n2 (decide ((n2 : Int) = 0)) l_ n3 (.inr (l_2, n4))).2, .br false, .br false, .res (kinfolkref01_Zero_out t), .res (kinfolkref01_Zero_out t), .lp (kinfolkref07_GetID_C45_ex depth n2 t t (!(decide ((n2 : Int) = 1))) l_2 n4 (.inl ((T_kinfolkref01_ID.mk n7 t4 t5), l_3, n5))).1 (kinfolkref07_GetID_C45_ex depth n2 t t (!(decide ((n2 : Int) = 1))) l_2 n4 (.inl ((T_kinfolkref01_ID.mk n7 t4 t5), l_3, n5))).2, .lp (kinfolkref07_GetID_C58_ex depth n2 (T_kinfolkref01_ID.mk n7 t4 t5) t (!(decide ((n2 : Int) = 2))) l_3 n5 (.inl ((T_kinfolkref01_ID.mk n8 t6 t7), l_4, n6))).1 (kinfolkref07_GetID_C58_ex depth n2 (T_kinfolkref01_ID.mk n7 t4 t5) t (!(decide ((n2 : Int) = 2))) l_3 n5 (.inl ((T_kinfolkref01_ID.mk n8 t6 t7), l_4, n6))).2, .br true, .br false, .br true, .br true, .br true, .res (kinfolkref01_Zero_out t)]) (.k0 (an_ (kinfolkref05_Get_runs 2 n l _ h1) (an_ h2 (an_ (kinfolkref07_GetID_C21_runs depth n2 (decide ((n2 : Int) = 0)) l_ n3 _ h3) (an_ (not_of2 h4) (an_ h5 (an_ (kinfolkref01_Zero_runs _ h6) (an_ (kinfolkref01_Zero_runs _ h6) (an_ (kinfolkref07_GetID_C45_runs N depth n2 t t (!(decide ((n2 : Int) = 1))) l_2 n4 _ h7) (an_ (kinfolkref07_GetID_C58_runs (kinfolkref07_GetID_4 N) (kinfolkref07_GetID_4_runs N) depth n2 (T_kinfolkref01_ID.mk n7 t4 t5) t (!(decide ((n2 : Int) = 2))) l_3 n5 _ h8) (an_ h9 (an_ (not_of2 h10) (an_ h11 (an_ (not_of h12) (an_ (rfl : true = true) (an_ (kinfolkref01_Zero_runs _ h6) trivial))))))))))))))) (by kernel_rfl))
                      · rcases cond_of h with ⟨h12, h⟩ | ⟨h12, h⟩
                        · rcases cond_of h with ⟨h13, h⟩ | ⟨h13, h⟩
                          · have h := some_of h
                            subst h
                            exact runs_of (C := cfg) (objs := [[(.own 0 0 (l).length false), (.pv (.int .i64 n))]]) (sc := [.res (kinfolkref05_Get_out 2 n l (n2, l_, n3)), .br true, .lp (kinfolkref07_GetID_C21_ex depth n2 (decide ((n2 : Int) = 0)) l_ n3 (.inr (l_2, n4))).1 (kinfolkref07_GetID_C21_ex depth n2 (decide ((n2 : Int) = 0)) l_ n3 (.inr (l_2, n4))).2, .br false, .br false, .res (kinfolkref01_Zero_out t), .res (kinfolkref01_Zero_out t), .lp (kinfolkref07_GetID_C45_ex depth n2 t t (!(decide ((n2 : Int) = 1))) l_2 n4 (.inl ((T_kinfolkref01_ID.mk n7 t4 t5), l_3, n5))).1 (kinfolkref07_GetID_C45_ex depth n2 t t (!(decide ((n2 : Int) = 1))) l_2 n4 (.inl ((T_kinfolkref01_ID.mk n7 t4 t5), l_3, n5))).2, .lp (kinfolkref07_GetID_C58_ex depth n2 (T_kinfolkref01_ID.mk n7 t4 t5) t (!(decide ((n2 : Int) = 2))) l_3 n5 (.inl ((T_kinfolkref01_ID.mk n8 t6 t7), l_4, n6))).1 (kinfolkref07_GetID_C58_ex depth n2 (T_kinfolkref01_ID.mk n7 t4 t5) t (!(decide ((n2 : Int) = 2))) l_3 n5 (.inl ((T_kinfolkref01_ID.mk n8 t6 t7), l_4, n6))).2, .br true, .br false, .br false, .br false, .br true, .br true, .res (kinfolkref01_Zero_out t)]) (.k0 (an_ (kinfolkref05_Get_runs 2 n l _ h1) (an_ h2 (an_ (kinfolkref07_GetID_C21_runs depth n2 (decide ((n2 : Int) = 0)) l_ n3 _ h3) (an_ (not_of2 h4) (an_ h5 (an_ (kinfolkref01_Zero_runs _ h6) (an_ (kinfolkref01_Zero_runs _ h6) (an_ (kinfolkref07_GetID_C45_runs N depth n2 t t (!(decide ((n2 : Int) = 1))) l_2 n4 _ h7) (an_ (kinfolkref07_GetID_C58_runs (kinfolkref07_GetID_4 N) (kinfolkref07_GetID_4_runs N) depth n2 (T_kinfolkref01_ID.mk n7 t4 t5) t (!(decide ((n2 : Int) = 2))) l_3 n5 _ h8) (an_ h9 (an_ (not_of2 h10) (an_ h11 (an_ (rfl : false = false) (an_ h12 (an_ h13 (an_ (kinfolkref01_Zero_runs _ h6) trivial)))))))))))))))) (by kernel_rfl))
                          · have h := some_of h
                            subst h
                            have e_ : Runs Try.prog 74 [(.one (.ref 0 0)), (.one (.pv (.int .i64 depth)))] [[(.own 0 0 (l).length false), (.pv (.int .i64 n))]] [(.bools l)] ([(.one (.pv (.imm [(.int .i64 2), (T_kinfolkref01_ID.pv (T_kinfolkref01_ID.mk n7 t4 t5)), (T_kinfolkref01_ID.pv (T_kinfolkref01_ID.mk n8 t6 t7))] 0))), (.one (.pv (.int .i64 0)))], [[(.pv (.bools l_4 false)), (.pv (.int .i64 n6))]], []) := runs_of (C := cfg) (objs := [[(.own 0 0 (l).length false), (.pv (.int .i64 n))]]) (sc := [.res (kinfolkref05_Get_out 2 n l (n2, l_, n3)), .br true, .lp (kinfolkref07_GetID_C21_ex depth n2 (decide ((n2 : Int) = 0)) l_ n3 (.inr (l_2, n4))).1 (kinfolkref07_GetID_C21_ex depth n2 (decide ((n2 : Int) = 0)) l_ n3 (.inr (l_2, n4))).2, .br false, .br false, .res (kinfolkref01_Zero_out t), .res (kinfolkref01_Zero_out t), .lp (kinfolkref07_GetID_C45_ex depth n2 t t (!(decide ((n2 : Int) = 1))) l_2 n4 (.inl ((T_kinfolkref01_ID.mk n7 t4 t5), l_3, n5))).1 (kinfolkref07_GetID_C45_ex depth n2 t t (!(decide ((n2 : Int) = 1))) l_2 n4 (.inl ((T_kinfolkref01_ID.mk n7 t4 t5), l_3, n5))).2, .lp (kinfolkref07_GetID_C58_ex depth n2 (T_kinfolkref01_ID.mk n7 t4 t5) t (!(decide ((n2 : Int) = 2))) l_3 n5 (.inl ((T_kinfolkref01_ID.mk n8 t6 t7), l_4, n6))).1 (kinfolkref07_GetID_C58_ex depth n2 (T_kinfolkref01_ID.mk n7 t4 t5) t (!(decide ((n2 : Int) = 2))) l_3 n5 (.inl ((T_kinfolkref01_ID.mk n8 t6 t7), l_4, n6))).2, .br true, .br false, .br false, .br false, .br true, .br false]) (.k0 (an_ (kinfolkref05_Get_runs 2 n l _ h1) (an_ h2 (an_ (kinfolkref07_GetID_C21_runs depth n2 (decide ((n2 : Int) = 0)) l_ n3 _ h3) (an_ (not_of2 h4) (an_ h5 (an_ (kinfolkref01_Zero_runs _ h6) (an_ (kinfolkref01_Zero_runs _ h6) (an_ (kinfolkref07_GetID_C45_runs N depth n2 t t (!(decide ((n2 : Int) = 1))) l_2 n4 _ h7) (an_ (kinfolkref07_GetID_C58_runs (kinfolkref07_GetID_4 N) (kinfolkref07_GetID_4_runs N) depth n2 (T_kinfolkref01_ID.mk n7 t4 t5) t (!(decide ((n2 : Int) = 2))) l_3 n5 _ h8) (an_ h9 (an_ (not_of2 h10) (an_ h11 (an_ (rfl : false = false) (an_ h12 (an_ h13 trivial))))))))))))))) (by kernel_rfl))
                            exact e_.out ⟨.eq rfl, .eq rfl, trivial⟩ ⟨⟨.eq rfl, .eq rfl, trivial⟩, trivial⟩ trivial rfl
                        · have h := some_of h
                          subst h
                          have e_ : Runs Try.prog 74 [(.one (.ref 0 0)), (.one (.pv (.int .i64 depth)))] [[(.own 0 0 (l).length false), (.pv (.int .i64 n))]] [(.bools l)] ([(.one (.pv (.imm [(.int .i64 2), (T_kinfolkref01_ID.pv (T_kinfolkref01_ID.mk n7 t4 t5)), (T_kinfolkref01_ID.pv (T_kinfolkref01_ID.mk n8 t6 t7))] 0))), (.one (.pv (.int .i64 0)))], [[(.pv (.bools l_4 false)), (.pv (.int .i64 n6))]], []) := runs_of (C := cfg) (objs := [[(.own 0 0 (l).length false), (.pv (.int .i64 n))]]) (sc := [.res (kinfolkref05_Get_out 2 n l (n2, l_, n3)), .br true, .lp (kinfolkref07_GetID_C21_ex depth n2 (decide ((n2 : Int) = 0)) l_ n3 (.inr (l_2, n4))).1 (kinfolkref07_GetID_C21_ex depth n2 (decide ((n2 : Int) = 0)) l_ n3 (.inr (l_2, n4))).2, .br false, .br false, .res (kinfolkref01_Zero_out t), .res (kinfolkref01_Zero_out t), .lp (kinfolkref07_GetID_C45_ex depth n2 t t (!(decide ((n2 : Int) = 1))) l_2 n4 (.inl ((T_kinfolkref01_ID.mk n7 t4 t5), l_3, n5))).1 (kinfolkref07_GetID_C45_ex depth n2 t t (!(decide ((n2 : Int) = 1))) l_2 n4 (.inl ((T_kinfolkref01_ID.mk n7 t4 t5), l_3, n5))).2, .lp (kinfolkref07_GetID_C58_ex depth n2 (T_kinfolkref01_ID.mk n7 t4 t5) t (!(decide ((n2 : Int) = 2))) l_3 n5 (.inl ((T_kinfolkref01_ID.mk n8 t6 t7), l_4, n6))).1 (kinfolkref07_GetID_C58_ex depth n2 (T_kinfolkref01_ID.mk n7 t4 t5) t (!(decide ((n2 : Int) = 2))) l_3 n5 (.inl ((T_kinfolkref01_ID.mk n8 t6 t7), l_4, n6))).2, .br true, .br false, .br false, .br false, .br false, .br false]) (.k0 (an_ (kinfolkref05_Get_runs 2 n l _ h1) (an_ h2 (an_ (kinfolkref07_GetID_C21_runs depth n2 (decide ((n2 : Int) = 0)) l_ n3 _ h3) (an_ (not_of2 h4) (an_ h5 (an_ (kinfolkref01_Zero_runs _ h6) (an_ (kinfolkref01_Zero_runs _ h6) (an_ (kinfolkref07_GetID_C45_runs N depth n2 t t (!(decide ((n2 : Int) = 1))) l_2 n4 _ h7) (an_ (kinfolkref07_GetID_C58_runs (kinfolkref07_GetID_4 N) (kinfolkref07_GetID_4_runs N) depth n2 (T_kinfolkref01_ID.mk n7 t4 t5) t (!(decide ((n2 : Int) = 2))) l_3 n5 _ h8) (an_ h9 (an_ (not_of2 h10) (an_ h11 (an_ (rfl : false = false) (an_ h12 (an_ (rfl : false = false) trivial))))))))))))))) (by kernel_rfl))
                          exact e_.out ⟨.eq rfl, .eq rfl, trivial⟩ ⟨⟨.eq rfl, .eq rfl, trivial⟩, trivial⟩ trivial rfl
                  · have h := some_of h
                    subst h
                    exact runs_of (C := cfg) (objs := [[(.own 0 0 (l).length false), (.pv (.int .i64 n))]]) (sc := [.res (kinfolkref05_Get_out 2 n l (n2, l_, n3)), .br true, .lp (kinfolkref07_GetID_C21_ex depth n2 (decide ((n2 : Int) = 0)) l_ n3 (.inr (l_2, n4))).1 (kinfolkref07_GetID_C21_ex depth n2 (decide ((n2 : Int) = 0)) l_ n3 (.inr (l_2, n4))).2, .br false, .br false, .res (kinfolkref01_Zero_out t), .res (kinfolkref01_Zero_out t), .lp (kinfolkref07_GetID_C45_ex depth n2 t t (!(decide ((n2 : Int) = 1))) l_2 n4 (.inl ((T_kinfolkref01_ID.mk n7 t4 t5), l_3, n5))).1 (kinfolkref07_GetID_C45_ex depth n2 t t (!(decide ((n2 : Int) = 1))) l_2 n4 (.inl ((T_kinfolkref01_ID.mk n7 t4 t5), l_3, n5))).2, .lp (kinfolkref07_GetID_C58_ex depth n2 (T_kinfolkref01_ID.mk n7 t4 t5) t (!(decide ((n2 : Int) = 2))) l_3 n5 (.inl (t3, l_4, n6))).1 (kinfolkref07_GetID_C58_ex depth n2 (T_kinfolkref01_ID.mk n7 t4 t5) t (!(decide ((n2 : Int) = 2))) l_3 n5 (.inl (t3, l_4, n6))).2, .br true, .br true, .br true, .br true, .res (kinfolkref01_Zero_out t)]) (.k0 (an_ (kinfolkref05_Get_runs 2 n l _ h1) (an_ h2 (an_ (kinfolkref07_GetID_C21_runs depth n2 (decide ((n2 : Int) = 0)) l_ n3 _ h3) (an_ (not_of2 h4) (an_ h5 (an_ (kinfolkref01_Zero_runs _ h6) (an_ (kinfolkref01_Zero_runs _ h6) (an_ (kinfolkref07_GetID_C45_runs N depth n2 t t (!(decide ((n2 : Int) = 1))) l_2 n4 _ h7) (an_ (kinfolkref07_GetID_C58_runs (kinfolkref07_GetID_4 N) (kinfolkref07_GetID_4_runs N) depth n2 (T_kinfolkref01_ID.mk n7 t4 t5) t (!(decide ((n2 : Int) = 2))) l_3 n5 _ h8) (an_ h9 (an_ (not_of h10) (an_ (rfl : true = true) (an_ (rfl : true = true) (an_ (kinfolkref01_Zero_runs _ h6) trivial)))))))))))))) (by kernel_rfl))
                · cases t3 with
                  | nil =>
                    cases h
                  | mk n8 t6 t7 =>
                    rcases cond_of h with ⟨h10, h⟩ | ⟨h10, h⟩
                    · rcases cond_of h with ⟨h11, h⟩ | ⟨h11, h⟩
                      · rcases cond_of h with ⟨h12, h⟩ | ⟨h12, h⟩
                        · rcases cond_of h with ⟨h13, h⟩ | ⟨h13, h⟩
                          · have h := some_of h
                            subst h
                            exact runs_of (C := cfg) (objs := [[(.own 0 0 (l).length false), (.pv (.int .i64 n))]]) (sc := [.res (kinfolkref05_Get_out 2 n l (n2, l_, n3)), .br true, .lp (kinfolkref07_GetID_C21_ex depth n2 (decide ((n2 : Int) = 0)) l_ n3 (.inr (l_2, n4))).1 (kinfolkref07_GetID_C21_ex depth n2 (decide ((n2 : Int) = 0)) l_ n3 (.inr (l_2, n4))).2, .br false, .br false, .res (kinfolkref01_Zero_out t), .res (kinfolkref01_Zero_out t), .lp (kinfolkref07_GetID_C45_ex depth n2 t t (!(decide ((n2 : Int) = 1))) l_2 n4 (.inl ((T_kinfolkref01_ID.mk n7 t4 t5), l_3, n5))).1 (kinfolkref07_GetID_C45_ex depth n2 t t (!(decide ((n2 : Int) = 1))) l_2 n4 (.inl ((T_kinfolkref01_ID.mk n7 t4 t5), l_3, n5))).2, .lp (kinfolkref07_GetID_C58_ex depth n2 (T_kinfolkref01_ID.mk n7 t4 t5) t (!(decide ((n2 : Int) = 2))) l_3 n5 (.inl ((T_kinfolkref01_ID.mk n8 t6 t7), l_4, n6))).1 (kinfolkref07_GetID_C58_ex depth n2 (T_kinfolkref01_ID.mk n7 t4 t5) t (!(decide ((n2 : Int) = 2))) l_3 n5 (.inl ((T_kinfolkref01_ID.mk n8 t6 t7), l_4, n6))).2, .br false, .br false, .br true, .br false, .br true, .br true, .res (kinfolkref01_Zero_out t)]) (.k0 (an_ (kinfolkref05_Get_runs 2 n l _ h1) (an_ h2 (an_ (kinfolkref07_GetID_C21_runs depth n2 (decide ((n2 : Int) = 0)) l_ n3 _ h3) (an_ (not_of2 h4) (an_ h5 (an_ (kinfolkref01_Zero_runs _ h6) (an_ (kinfolkref01_Zero_runs _ h6) (an_ (kinfolkref07_GetID_C45_runs N depth n2 t t (!(decide ((n2 : Int) = 1))) l_2 n4 _ h7) (an_ (kinfolkref07_GetID_C58_runs (kinfolkref07_GetID_4 N) (kinfolkref07_GetID_4_runs N) depth n2 (T_kinfolkref01_ID.mk n7 t4 t5) t (!(decide ((n2 : Int) = 2))) l_3 n5 _ h8) (an_ h9 (an_ (rfl : false = false) (an_ h10 (an_ (not_of2 h11) (an_ h12 (an_ h13 (an_ (kinfolkref01_Zero_runs _ h6) trivial)))))))))))))))) (by kernel_rfl))
                          · have h := some_of h
                            subst h
                            have e_ : Runs Try.prog 74 [(.one (.ref 0 0)), (.one (.pv (.int .i64 depth)))] [[(.own 0 0 (l).length false), (.pv (.int .i64 n))]] [(.bools l)] ([(.one (.pv (.imm [(.int .i64 2), (T_kinfolkref01_ID.pv (T_kinfolkref01_ID.mk n7 t4 t5)), (T_kinfolkref01_ID.pv (T_kinfolkref01_ID.mk n8 t6 t7))] 0))), (.one (.pv (.int .i64 0)))], [[(.pv (.bools l_4 false)), (.pv (.int .i64 n6))]], []) := runs_of (C := cfg) (objs := [[(.own 0 0 (l).length false), (.pv (.int .i64 n))]]) (sc := [.res (kinfolkref05_Get_out 2 n l (n2, l_, n3)), .br true, .lp (kinfolkref07_GetID_C21_ex depth n2 (decide ((n2 : Int) = 0)) l_ n3 (.inr (l_2, n4))).1 (kinfolkref07_GetID_C21_ex depth n2 (decide ((n2 : Int) = 0)) l_ n3 (.inr (l_2, n4))).2, .br false, .br false, .res (kinfolkref01_Zero_out t), .res (kinfolkref01_Zero_out t), .lp (kinfolkref07_GetID_C45_ex depth n2 t t (!(decide ((n2 : Int) = 1))) l_2 n4 (.inl ((T_kinfolkref01_ID.mk n7 t4 t5), l_3, n5))).1 (kinfolkref07_GetID_C45_ex depth n2 t t (!(decide ((n2 : Int) = 1))) l_2 n4 (.inl ((T_kinfolkref01_ID.mk n7 t4 t5), l_3, n5))).2, .lp (kinfolkref07_GetID_C58_ex depth n2 (T_kinfolkref01_ID.mk n7 t4 t5) t (!(decide ((n2 : Int) = 2))) l_3 n5 (.inl ((T_kinfolkref01_ID.mk n8 t6 t7), l_4, n6))).1 (kinfolkref07_GetID_C58_ex depth n2 (T_kinfolkref01_ID.mk n7 t4 t5) t (!(decide ((n2 : Int) = 2))) l_3 n5 (.inl ((T_kinfolkref01_ID.mk n8 t6 t7), l_4, n6))).2, .br false, .br false, .br true, .br false, .br true, .br false]) (.k0 (an_ (kinfolkref05_Get_runs 2 n l _ h1) (an_ h2 (an_ (kinfolkref07_GetID_C21_runs depth n2 (decide ((n2 : Int) = 0)) l_ n3 _ h3) (an_ (not_of2 h4) (an_ h5 (an_ (kinfolkref01_Zero_runs _ h6) (an_ (kinfolkref01_Zero_runs _ h6) (an_ (kinfolkref07_GetID_C45_runs N depth n2 t t (!(decide ((n2 : Int) = 1))) l_2 n4 _ h7) (an_ (kinfolkref07_GetID_C58_runs (kinfolkref07_GetID_4 N) (kinfolkref07_GetID_4_runs N) depth n2 (T_kinfolkref01_ID.mk n7 t4 t5) t (!(decide ((n2 : Int) = 2))) l_3 n5 _ h8) (an_ h9 (an_ (rfl : false = false) (an_ h10 (an_ (not_of2 h11) (an_ h12 (an_ h13 trivial))))))))))))))) (by kernel_rfl))
                            exact e_.out ⟨.eq rfl, .eq rfl, trivial⟩ ⟨⟨.eq rfl, .eq rfl, trivial⟩, trivial⟩ trivial rfl
                        · have h := some_of h
                          subst h
                          have e_ : Runs Try.prog 74 [(.one (.ref 0 0)), (.one (.pv (.int .i64 depth)))] [[(.own 0 0 (l).length false), (.pv (.int .i64 n))]] [(.bools l)] ([(.one (.pv (.imm [(.int .i64 2), (T_kinfolkref01_ID.pv (T_kinfolkref01_ID.mk n7 t4 t5)), (T_kinfolkref01_ID.pv (T_kinfolkref01_ID.mk n8 t6 t7))] 0))), (.one (.pv (.int .i64 0)))], [[(.pv (.bools l_4 false)), (.pv (.int .i64 n6))]], []) := runs_of (C := cfg) (objs := [[(.own 0 0 (l).length false), (.pv (.int .i64 n))]]) (sc := [.res (kinfolkref05_Get_out 2 n l (n2, l_, n3)), .br true, .lp (kinfolkref07_GetID_C21_ex depth n2 (decide ((n2 : Int) = 0)) l_ n3 (.inr (l_2, n4))).1 (kinfolkref07_GetID_C21_ex depth n2 (decide ((n2 : Int) = 0)) l_ n3 (.inr (l_2, n4))).2, .br false, .br false, .res (kinfolkref01_Zero_out t), .res (kinfolkref01_Zero_out t), .lp (kinfolkref07_GetID_C45_ex depth n2 t t (!(decide ((n2 : Int) = 1))) l_2 n4 (.inl ((T_kinfolkref01_ID.mk n7 t4 t5), l_3, n5))).1 (kinfolkref07_GetID_C45_ex depth n2 t t (!(decide ((n2 : Int) = 1))) l_2 n4 (.inl ((T_kinfolkref01_ID.mk n7 t4 t5), l_3, n5))).2, .lp (kinfolkref07_GetID_C58_ex depth n2 (T_kinfolkref01_ID.mk n7 t4 t5) t (!(decide ((n2 : Int) = 2))) l_3 n5 (.inl ((T_kinfolkref01_ID.mk n8 t6 t7), l_4, n6))).1 (kinfolkref07_GetID_C58_ex depth n2 (T_kinfolkref01_ID.mk n7 t4 t5) t (!(decide ((n2 : Int) = 2))) l_3 n5 (.inl ((T_kinfolkref01_ID.mk n8 t6 t7), l_4, n6))).2, .br false, .br false, .br true, .br false, .br false, .br false]) (.k0 (an_ (kinfolkref05_Get_runs 2 n l _ h1) (an_ h2 (an_ (kinfolkref07_GetID_C21_runs depth n2 (decide ((n2 : Int) = 0)) l_ n3 _ h3) (an_ (not_of2 h4) (an_ h5 (an_ (kinfolkref01_Zero_runs _ h6) (an_ (kinfolkref01_Zero_runs _ h6) (an_ (kinfolkref07_GetID_C45_runs N depth n2 t t (!(decide ((n2 : Int) = 1))) l_2 n4 _ h7) (an_ (kinfolkref07_GetID_C58_runs (kinfolkref07_GetID_4 N) (kinfolkref07_GetID_4_runs N) depth n2 (T_kinfolkref01_ID.mk n7 t4 t5) t (!(decide ((n2 : Int) = 2))) l_3 n5 _ h8) (an_ h9 (an_ (rfl : false = false) (an_ h10 (an_ (not_of2 h11) (an_ h12 (an_ (rfl : false = false) trivial))))))))))))))) (by kernel_rfl))
                          exact e_.out ⟨.eq rfl, .eq rfl, trivial⟩ ⟨⟨.eq rfl, .eq rfl, trivial⟩, trivial⟩ trivial rfl
                      · have h := some_of h
                        subst h
                        exact runs_of (C := cfg) (objs := [[(.own 0 0 (l).length false), (.pv (.int .i64 n))]]) (sc := [.res (kinfolkref05_Get_out 2 n l (n2, l_, n3)), .br true, .lp (kinfolkref07_GetID_C21_ex depth n2 (decide ((n2 : Int) = 0)) l_ n3 (.inr (l_2, n4))).1 (kinfolkref07_GetID_C21_ex depth n2 (decide ((n2 : Int) = 0)) l_ n3 (.inr (l_2, n4))).2, .br false, .br false, .res (kinfolkref01_Zero_out t), .res (kinfolkref01_Zero_out t), .lp (kinfolkref07_GetID_C45_ex depth n2 t t (!(decide ((n2 : Int) = 1))) l_2 n4 (.inl ((T_kinfolkref01_ID.mk n7 t4 t5), l_3, n5))).1 (kinfolkref07_GetID_C45_ex depth n2 t t (!(decide ((n2 : Int) = 1))) l_2 n4 (.inl ((T_kinfolkref01_ID.mk n7 t4 t5), l_3, n5))).2, .lp (kinfolkref07_GetID_C58_ex depth n2 (T_kinfolkref01_ID.mk n7 t4 t5) t (!(decide ((n2 : Int) = 2))) l_3 n5 (.inl ((T_kinfolkref01_ID.mk n8 t6 t7), l_4, n6))).1 (kinfolkref07_GetID_C58_ex depth n2 (T_kinfolkref01_ID.mk n7 t4 t5) t (!(decide ((n2 : Int) = 2))) l_3 n5 (.inl ((T_kinfolkref01_ID.mk n8 t6 t7), l_4, n6))).2, .br false, .br false, .br true, .br true, .br true, .res (kinfolkref01_Zero_out t)]) (.k0 (an_ (kinfolkref05_Get_runs 2 n l _ h1) (an_ h2 (an_ (kinfolkref07_GetID_C21_runs depth n2 (decide ((n2 : Int) = 0)) l_ n3 _ h3) (an_ (not_of2 h4) (an_ h5 (an_ (kinfolkref01_Zero_runs _ h6) (an_ (kinfolkref01_Zero_runs _ h6) (an_ (kinfolkref07_GetID_C45_runs N depth n2 t t (!(decide ((n2 : Int) = 1))) l_2 n4 _ h7) (an_ (kinfolkref07_GetID_C58_runs (kinfolkref07_GetID_4 N) (kinfolkref07_GetID_4_runs N) depth n2 (T_kinfolkref01_ID.mk n7 t4 t5) t (!(decide ((n2 : Int) = 2))) l_3 n5 _ h8) (an_ h9 (an_ (rfl : false = false) (an_ h10 (an_ (not_of h11) (an_ (rfl : true = true) (an_ (kinfolkref01_Zero_runs _ h6) trivial))))))))))))))) (by kernel_rfl))
                    · rcases cond_of h with ⟨h11, h⟩ | ⟨h11, h⟩
                      · rcases cond_of h with ⟨h12, h⟩ | ⟨h12, h⟩
                        · have h := some_of h
                          subst h
                          exact runs_of (C := cfg) (objs := [[(.own 0 0 (l).length false), (.pv (.int .i64 n))]]) (sc := [.res (kinfolkref05_Get_out 2 n l (n2, l_, n3)), .br true, .lp (kinfolkref07_GetID_C21_ex depth n2 (decide ((n2 : Int) = 0)) l_ n3 (.inr (l_2, n4))).1 (kinfolkref07_GetID_C21_ex depth n2 (decide ((n2 : Int) = 0)) l_ n3 (.inr (l_2, n4))).2, .br false, .br false, .res (kinfolkref01_Zero_out t), .res (kinfolkref01_Zero_out t), .lp (kinfolkref07_GetID_C45_ex depth n2 t t (!(decide ((n2 : Int) = 1))) l_2 n4 (.inl ((T_kinfolkref01_ID.mk n7 t4 t5), l_3, n5))).1 (kinfolkref07_GetID_C45_ex depth n2 t t (!(decide ((n2 : Int) = 1))) l_2 n4 (.inl ((T_kinfolkref01_ID.mk n7 t4 t5), l_3, n5))).2, .lp (kinfolkref07_GetID_C58_ex depth n2 (T_kinfolkref01_ID.mk n7 t4 t5) t (!(decide ((n2 : Int) = 2))) l_3 n5 (.inl ((T_kinfolkref01_ID.mk n8 t6 t7), l_4, n6))).1 (kinfolkref07_GetID_C58_ex depth n2 (T_kinfolkref01_ID.mk n7 t4 t5) t (!(decide ((n2 : Int) = 2))) l_3 n5 (.inl ((T_kinfolkref01_ID.mk n8 t6 t7), l_4, n6))).2, .br false, .br false, .br false, .br false, .br true, .br true, .res (kinfolkref01_Zero_out t)]) (.k0 (an_ (kinfolkref05_Get_runs 2 n l _ h1) (an_ h2 (an_ (kinfolkref07_GetID_C21_runs depth n2 (decide ((n2 : Int) = 0)) l_ n3 _ h3) (an_ (not_of2 h4) (an_ h5 (an_ (kinfolkref01_Zero_runs _ h6) (an_ (kinfolkref01_Zero_runs _ h6) (an_ (kinfolkref07_GetID_C45_runs N depth n2 t t (!(decide ((n2 : Int) = 1))) l_2 n4 _ h7) (an_ (kinfolkref07_GetID_C58_runs (kinfolkref07_GetID_4 N) (kinfolkref07_GetID_4_runs N) depth n2 (T_kinfolkref01_ID.mk n7 t4 t5) t (!(decide ((n2 : Int) = 2))) l_3 n5 _ h8) (an_ h9 (an_ (rfl : false = false) (an_ h10 (an_ (rfl : false = false) (an_ h11 (an_ h12 (an_ (kinfolkref01_Zero_runs _ h6) trivial)))))))))))))))) (by kernel_rfl))
                        · have h := some_of h
                          subst h
                          have e_ : Runs Try.prog 74 [(.one (.ref 0 0)), (.one (.pv (.int .i64 depth)))] [[(.own 0 0 (l).length false), (.pv (.int .i64 n))]] [(.bools l)] ([(.one (.pv (.imm [(.int .i64 2), (T_kinfolkref01_ID.pv (T_kinfolkref01_ID.mk n7 t4 t5)), (T_kinfolkref01_ID.pv (T_kinfolkref01_ID.mk n8 t6 t7))] 0))), (.one (.pv (.int .i64 0)))], [[(.pv (.bools l_4 false)), (.pv (.int .i64 n6))]], []) := runs_of (C := cfg) (objs := [[(.own 0 0 (l).length false), (.pv (.int .i64 n))]]) (sc := [.res (kinfolkref05_Get_out 2 n l (n2, l_, n3)), .br true, .lp (kinfolkref07_GetID_C21_ex depth n2 (decide ((n2 : Int) = 0)) l_ n3 (.inr (l_2, n4))).1 (kinfolkref07_GetID_C21_ex depth n2 (decide ((n2 : Int) = 0)) l_ n3 (.inr (l_2, n4))).2, .br false, .br false, .res (kinfolkref01_Zero_out t), .res (kinfolkref01_Zero_out t), .lp (kinfolkref07_GetID_C45_ex depth n2 t t (!(decide ((n2 : Int) = 1))) l_2 n4 (.inl ((T_kinfolkref01_ID.mk n7 t4 t5), l_3, n5))).1 (kinfolkref07_GetID_C45_ex depth n2 t t (!(decide ((n2 : Int) = 1))) l_2 n4 (.inl ((T_kinfolkref01_ID.mk n7 t4 t5), l_3, n5))).2, .lp (kinfolkref07_GetID_C58_ex depth n2 (T_kinfolkref01_ID.mk n7 t4 t5) t (!(decide ((n2 : Int) = 2))) l_3 n5 (.inl ((T_kinfolkref01_ID.mk n8 t6 t7), l_4, n6))).1 (kinfolkref07_GetID_C58_ex depth n2 (T_kinfolkref01_ID.mk n7 t4 t5) t (!(decide ((n2 : Int) = 2))) l_3 n5 (.inl ((T_kinfolkref01_ID.mk n8 t6 t7), l_4, n6))).2, .br false, .br false, .br false, .br false, .br true, .br false]) (.k0 (an_ (kinfolkref05_Get_runs 2 n l _ h1) (an_ h2 (an_ (kinfolkref07_GetID_C21_runs depth n2 (decide ((n2 : Int) = 0)) l_ n3 _ h3) (an_ (not_of2 h4) (an_ h5 (an_ (kinfolkref01_Zero_runs _ h6) (an_ (kinfolkref01_Zero_runs _ h6) (an_ (kinfolkref07_GetID_C45_runs N depth n2 t t (!(decide ((n2 : Int) = 1))) l_2 n4 _ h7) (an_ (kinfolkref07_GetID_C58_runs (kinfolkref07_GetID_4 N) (kinfolkref07_GetID_4_runs N) depth n2 (T_kinfolkref01_ID.mk n7 t4 t5) t (!(decide ((n2 : Int) = 2))) l_3 n5 _ h8) (an_ h9 (an_ (rfl : false = false) (an_ h10 (an_ (rfl : false = false) (an_ h11 (an_ h12 trivial))))))))))))))) (by kernel_rfl))
                          exact e_.out ⟨.eq rfl, .eq rfl, trivial⟩ ⟨⟨.eq rfl, .eq rfl, trivial⟩, trivial⟩ trivial rfl
                      · have h := some_of h
                        subst h
                        have e_ : Runs Try.prog 74 [(.one (.ref 0 0)), (.one (.pv (.int .i64 depth)))] [[(.own 0 0 (l).length false), (.pv (.int .i64 n))]] [(.bools l)] ([(.one (.pv (.imm [(.int .i64 2), (T_kinfolkref01_ID.pv (T_kinfolkref01_ID.mk n7 t4 t5)), (T_kinfolkref01_ID.pv (T_kinfolkref01_ID.mk n8 t6 t7))] 0))), (.one (.pv (.int .i64 0)))], [[(.pv (.bools l_4 false)), (.pv (.int .i64 n6))]], []) := runs_of (C := cfg) (objs := [[(.own 0 0 (l).length false), (.pv (.int .i64 n))]]) (sc := [.res (kinfolkref05_Get_out 2 n l (n2, l_, n3)), .br true, .lp (kinfolkref07_GetID_C21_ex depth n2 (decide ((n2 : Int) = 0)) l_ n3 (.inr (l_2, n4))).1 (kinfolkref07_GetID_C21_ex depth n2 (decide ((n2 : Int) = 0)) l_ n3 (.inr (l_2, n4))).2, .br false, .br false, .res (kinfolkref01_Zero_out t), .res (kinfolkref01_Zero_out t), .lp (kinfolkref07_GetID_C45_ex depth n2 t t (!(decide ((n2 : Int) = 1))) l_2 n4 (.inl ((T_kinfolkref01_ID.mk n7 t4 t5), l_3, n5))).1 (kinfolkref07_GetID_C45_ex depth n2 t t (!(decide ((n2 : Int) = 1))) l_2 n4 (.inl ((T_kinfolkref01_ID.mk n7 t4 t5), l_3, n5))).2, .lp (kinfolkref07_GetID_C58_ex depth n2 (T_kinfolkref01_ID.mk n7 t4 t5) t (!(decide ((n2 : Int) = 2))) l_3 n5 (.inl ((T_kinfolkref01_ID.mk n8 t6 t7), l_4, n6))).1 (kinfolkref07_GetID_C58_ex depth n2 (T_kinfolkref01_ID.mk n7 t4 t5) t (!(decide ((n2 : Int) = 2))) l_3 n5 (.inl ((T_kinfolkref01_ID.mk n8 t6 t7), l_4, n6))).2, .br false, .br false, .br false, .br false, .br false, .br false]) (.k0 (an_ (kinfolkref05_Get_runs 2 n l _ h1) (an_ h2 (an_ (kinfolkref07_GetID_C21_runs depth n2 (decide ((n2 : Int) = 0)) l_ n3 _ h3) (an_ (not_of2 h4) (an_ h5 (an_ (kinfolkref01_Zero_runs _ h6) (an_ (kinfolkref01_Zero_runs _ h6) (an_ (kinfolkref07_GetID_C45_runs N depth n2 t t (!(decide ((n2 : Int) = 1))) l_2 n4 _ h7) (an_ (kinfolkref07_GetID_C58_runs (kinfolkref07_GetID_4 N) (kinfolkref07_GetID_4_runs N) depth n2 (T_kinfolkref01_ID.mk n7 t4 t5) t (!(decide ((n2 : Int) = 2))) l_3 n5 _ h8) (an_ h9 (an_ (rfl : false = false) (an_ h10 (an_ (rfl : false = false) (an_ h11 (an_ (rfl : false = false) trivial))))))))))))))) (by kernel_rfl))
                        exact e_.out ⟨.eq rfl, .eq rfl, trivial⟩ ⟨⟨.eq rfl, .eq rfl, trivial⟩, trivial⟩ trivial rfl
            · have h := some_of h
              subst h
              exact runs_of (C := cfg) (objs := [[(.own 0 0 (l).length false), (.pv (.int .i64 n))]]) (sc := [.res (kinfolkref05_Get_out 2 n l (n2, l_, n3)), .br true, .lp (kinfolkref07_GetID_C21_ex depth n2 (decide ((n2 : Int) = 0)) l_ n3 (.inr (l_2, n4))).1 (kinfolkref07_GetID_C21_ex depth n2 (decide ((n2 : Int) = 0)) l_ n3 (.inr (l_2, n4))).2, .br false, .br false, .res (kinfolkref01_Zero_out t), .res (kinfolkref01_Zero_out t), .lp (kinfolkref07_GetID_C45_ex depth n2 t t (!(decide ((n2 : Int) = 1))) l_2 n4 (.inl (t2, l_3, n5))).1 (kinfolkref07_GetID_C45_ex depth n2 t t (!(decide ((n2 : Int) = 1))) l_2 n4 (.inl (t2, l_3, n5))).2, .lp (kinfolkref07_GetID_C58_ex depth n2 t2 t (!(decide ((n2 : Int) = 2))) l_3 n5 (.inr (t3, n6, l_4, n7))).1 (kinfolkref07_GetID_C58_ex depth n2 t2 t (!(decide ((n2 : Int) = 2))) l_3 n5 (.inr (t3, n6, l_4, n7))).2]) (.k0 (an_ (kinfolkref05_Get_runs 2 n l _ h1) (an_ h2 (an_ (kinfolkref07_GetID_C21_runs depth n2 (decide ((n2 : Int) = 0)) l_ n3 _ h3) (an_ (not_of2 h4) (an_ h5 (an_ (kinfolkref01_Zero_runs _ h6) (an_ (kinfolkref01_Zero_runs _ h6) (an_ (kinfolkref07_GetID_C45_runs N depth n2 t t (!(decide ((n2 : Int) = 1))) l_2 n4 _ h7) (an_ (kinfolkref07_GetID_C58_runs (kinfolkref07_GetID_4 N) (kinfolkref07_GetID_4_runs N) depth n2 t2 t (!(decide ((n2 : Int) = 2))) l_3 n5 _ h8) trivial))))))))) (by kernel_rfl))
          · have h := some_of h
            subst h
            exact runs_of (C := cfg) (objs := [[(.own 0 0 (l).length false), (.pv (.int .i64 n))]]) (sc := [.res (kinfolkref05_Get_out 2 n l (n2, l_, n3)), .br true, .lp (kinfolkref07_GetID_C21_ex depth n2 (decide ((n2 : Int) = 0)) l_ n3 (.inr (l_2, n4))).1 (kinfolkref07_GetID_C21_ex depth n2 (decide ((n2 : Int) = 0)) l_ n3 (.inr (l_2, n4))).2, .br false, .br false, .res (kinfolkref01_Zero_out t), .res (kinfolkref01_Zero_out t), .lp (kinfolkref07_GetID_C45_ex depth n2 t t (!(decide ((n2 : Int) = 1))) l_2 n4 (.inr (t2, n5, l_3, n6))).1 (kinfolkref07_GetID_C45_ex depth n2 t t (!(decide ((n2 : Int) = 1))) l_2 n4 (.inr (t2, n5, l_3, n6))).2]) (.k0 (an_ (kinfolkref05_Get_runs 2 n l _ h1) (an_ h2 (an_ (kinfolkref07_GetID_C21_runs depth n2 (decide ((n2 : Int) = 0)) l_ n3 _ h3) (an_ (not_of2 h4) (an_ h5 (an_ (kinfolkref01_Zero_runs _ h6) (an_ (kinfolkref01_Zero_runs _ h6) (an_ (kinfolkref07_GetID_C45_runs N depth n2 t t (!(decide ((n2 : Int) = 1))) l_2 n4 _ h7) trivial)))))))) (by kernel_rfl))
      · obtain ⟨t, h5, h⟩ := bind_of h
        have h := some_of h
        subst h
        exact runs_of (C := cfg) (objs := [[(.own 0 0 (l).length false), (.pv (.int .i64 n))]]) (sc := [.res (kinfolkref05_Get_out 2 n l (n2, l_, n3)), .br true, .lp (kinfolkref07_GetID_C21_ex depth n2 (decide ((n2 : Int) = 0)) l_ n3 (.inr (l_2, n4))).1 (kinfolkref07_GetID_C21_ex depth n2 (decide ((n2 : Int) = 0)) l_ n3 (.inr (l_2, n4))).2, .br true, .res (kinfolkref01_Zero_out t)]) (.k0 (an_ (kinfolkref05_Get_runs 2 n l _ h1) (an_ h2 (an_ (kinfolkref07_GetID_C21_runs depth n2 (decide ((n2 : Int) = 0)) l_ n3 _ h3) (an_ (not_of h4) (an_ (kinfolkref01_Zero_runs _ h5) trivial))))) (by kernel_rfl))
  · obtain ⟨t, h3, h⟩ := bind_of h
    have h := some_of h
    subst h
    exact runs_of (C := cfg) (objs := [[(.own 0 0 (l).length false), (.pv (.int .i64 n))]]) (sc := [.res (kinfolkref05_Get_out 2 n l (n2, l_, n3)), .br false, .br false, .br true, .res (kinfolkref01_Zero_out t)]) (.k0 (an_ (kinfolkref05_Get_runs 2 n l _ h1) (an_ h2 (an_ (rfl : false = false) (an_ (not_of h2) (an_ (kinfolkref01_Zero_runs _ h3) trivial))))) (by kernel_rfl))
/-! ### kinfolkref05_End_out -/
def kinfolkref05_End_out (l : List Bool) (n : Int) : Int × Int → Res
  | (r1, r2) => ([(.one (.pv (.int .i64 r1)))], [[(.pv (.bools l false)), (.pv (.int .i64 r2))]], [])
/-! ### kinfolkref05_End_L0 -/
def kinfolkref05_End_L0_st (l : List Bool) (n : Int) (l2 : List Bool) : Int → St
  | n2 => ⟨[(0, (.av (.one (.ref 0 0)))), (22, (.av (.one (.pv (.bools l false))))), (23, (.av (.one (.pv (.int .i64 n))))), (24, (.av (.one (.pv (.int .i64 n2)))))], [(0, [(.pv (.bools l2 false)), (.pv (.int .i64 6))])], []⟩
def kinfolkref05_End_L0_ex (l : List Bool) (n : Int) (l2 : List Bool) : Unit → Ex × St
  | _ => ((.exit 0), ⟨[(0, (.av (.one (.ref 0 0))))], [(0, [(.pv (.bools l2 false)), (.pv (.int .i64 6))])], []⟩)
noncomputable def kinfolkref05_End_L0_step (l : List Bool) (n : Int) (l2 : List Bool) : Int → Option ((Int) ⊕ (Unit))
  | n2 =>
  bif (decide ((n2 : Int) < n)) then
    bif decide ((0 : Int) ≤ n2) && decide ((n2 : Int) < ((l).length : Int)) then
    bif (l.getD (n2).toNat false) then
      some (.inl (iadd .i64 n2 1))
    else
      some (.inl (iadd .i64 n2 1))
    else none
  else
    some (.inr ())
theorem kinfolkref05_End_L0_ok (l : List Bool) (n : Int) (l2 : List Bool) (n2 : Int) (z_ : (Int) ⊕ (Unit)) (h : kinfolkref05_End_L0_step l n l2 n2 = some z_) : RoundOk Try.prog cfg 75 1 (loopAt Try.prog 75 0) (kinfolkref05_End_L0_st l n l2) (kinfolkref05_End_L0_ex l n l2) n2 z_ := by
  rcases cond_of h with ⟨h1, h⟩ | ⟨h1, h⟩
  · obtain ⟨h2, h⟩ := need_of h
    rcases cond_of h with ⟨h3, h⟩ | ⟨h3, h⟩
    · have h := some_of h
      subst h
      exact ⟨[.br true, .br true], kinfolkref05_End_L0_st l n l2 (iadd .i64 n2 1), .k0 (an_ h1 (an_ h2 (an_ h3 trivial))) (by kernel_rfl), .same (by kernel_rfl)⟩
    · have h := some_of h
      subst h
      exact ⟨[.br true, .br false], kinfolkref05_End_L0_st l n l2 (iadd .i64 n2 1), .k0 (an_ h1 (an_ h2 (an_ h3 trivial))) (by kernel_rfl), .same (by kernel_rfl)⟩
  · have h := some_of h
    subst h
    exact ⟨[.br false], ⟨[(25, (.av (.one (.pv (.bool false))))), (0, (.av (.one (.ref 0 0)))), (22, (.av (.one (.pv (.bools l false))))), (23, (.av (.one (.pv (.int .i64 n))))), (24, (.av (.one (.pv (.int .i64 n2))))), (25, (.av (.one (.pv (.bool (decide ((n2 : Int) < n)))))))], [(0, [(.pv (.bools l2 false)), (.pv (.int .i64 6))])], []⟩, .k0 (an_ h1 trivial) (by kernel_rfl), ⟨⟨⟨_, rfl, .eq rfl⟩, trivial⟩, ⟨⟨rfl, ⟨.eq rfl, .eq rfl, trivial⟩⟩, trivial⟩, trivial⟩⟩
theorem kinfolkref05_End_L0_runs (l : List Bool) (n : Int) (l2 : List Bool) (s_ : Int) (r_ : Unit) (h : runL (kinfolkref05_End_L0_step l n l2) s_ = some r_) : LRuns Try.prog (lEnv Try.prog cfg 75 1).nt 1 (.loop (loopAt Try.prog 75 0)) (kinfolkref05_End_L0_st l n l2 s_) (kinfolkref05_End_L0_ex l n l2 r_).1 (kinfolkref05_End_L0_ex l n l2 r_).2 :=
  loop_run h (kinfolkref05_End_L0_ok l n l2) (by intro r_; rcases r_ with _ <;> simp [kinfolkref05_End_L0_ex])
/-! ### kinfolkref05_End_L0_2 -/
def kinfolkref05_End_L0_2_st (l : List Bool) (n : Int) (l2 : List Bool) : Int × Int → St
  | (n3, n2) => ⟨[(0, (.av (.one (.ref 0 0)))), (22, (.av (.one (.pv (.bools l false))))), (23, (.av (.one (.pv (.int .i64 n))))), (24, (.av (.one (.pv (.int .i64 n3)))))], [(0, [(.pv (.bools l2 false)), (.pv (.int .i64 n2))])], []⟩
def kinfolkref05_End_L0_2_ex (l : List Bool) (n : Int) (l2 : List Bool) : Int → Ex × St
  | r1 => ((.exit 0), ⟨[(0, (.av (.one (.ref 0 0))))], [(0, [(.pv (.bools l2 false)), (.pv (.int .i64 r1))])], []⟩)
noncomputable def kinfolkref05_End_L0_2_step (l : List Bool) (n : Int) (l2 : List Bool) : Int × Int → Option ((Int × Int) ⊕ (Int))
  | (n3, n2) =>
  bif (decide ((n3 : Int) < n)) then
    bif decide ((0 : Int) ≤ n3) && decide ((n3 : Int) < ((l).length : Int)) then
    bif (l.getD (n3).toNat false) then
      some (.inl ((iadd .i64 n3 1), 6))
    else
      some (.inl ((iadd .i64 n3 1), n2))
    else none
  else
    some (.inr n2)
theorem kinfolkref05_End_L0_2_ok (l : List Bool) (n : Int) (l2 : List Bool) (s_ : Int × Int) (z_ : (Int × Int) ⊕ (Int)) (h : kinfolkref05_End_L0_2_step l n l2 s_ = some z_) : RoundOk Try.prog cfg 75 1 (loopAt Try.prog 75 0) (kinfolkref05_End_L0_2_st l n l2) (kinfolkref05_End_L0_2_ex l n l2) s_ z_ := by
  rcases s_ with ⟨n3, n2⟩
  rcases cond_of h with ⟨h1, h⟩ | ⟨h1, h⟩
  · obtain ⟨h2, h⟩ := need_of h
    rcases cond_of h with ⟨h3, h⟩ | ⟨h3, h⟩
    · have h := some_of h
      subst h
      exact ⟨[.br true, .br true], kinfolkref05_End_L0_2_st l n l2 ((iadd .i64 n3 1), 6), .k0 (an_ h1 (an_ h2 (an_ h3 trivial))) (by kernel_rfl), .same (by kernel_rfl)⟩
    · have h := some_of h
      subst h
      exact ⟨[.br true, .br false], kinfolkref05_End_L0_2_st l n l2 ((iadd .i64 n3 1), n2), .k0 (an_ h1 (an_ h2 (an_ h3 trivial))) (by kernel_rfl), .same (by kernel_rfl)⟩
  · have h := some_of h
    subst h
    exact ⟨[.br false], ⟨[(25, (.av (.one (.pv (.bool false))))), (0, (.av (.one (.ref 0 0)))), (22, (.av (.one (.pv (.bools l false))))), (23, (.av (.one (.pv (.int .i64 n))))), (24, (.av (.one (.pv (.int .i64 n3))))), (25, (.av (.one (.pv (.bool (decide ((n3 : Int) < n)))))))], [(0, [(.pv (.bools l2 false)), (.pv (.int .i64 n2))])], []⟩, .k0 (an_ h1 trivial) (by kernel_rfl), ⟨⟨⟨_, rfl, .eq rfl⟩, trivial⟩, ⟨⟨rfl, ⟨.eq rfl, .eq rfl, trivial⟩⟩, trivial⟩, trivial⟩⟩
theorem kinfolkref05_End_L0_2_runs (l : List Bool) (n : Int) (l2 : List Bool) (s_ : Int × Int) (r_ : Int) (h : runL (kinfolkref05_End_L0_2_step l n l2) s_ = some r_) : LRuns Try.prog (lEnv Try.prog cfg 75 1).nt 1 (.loop (loopAt Try.prog 75 0)) (kinfolkref05_End_L0_2_st l n l2 s_) (kinfolkref05_End_L0_2_ex l n l2 r_).1 (kinfolkref05_End_L0_2_ex l n l2 r_).2 :=
  loop_run h (kinfolkref05_End_L0_2_ok l n l2) (by intro r_; rcases r_ with r1 <;> simp [kinfolkref05_End_L0_2_ex])
/-! ### kinfolkref05_End -/
noncomputable def kinfolkref05_End (l : List Bool) (n : Int) : Option (Int × Int) :=
  bif (decide ((n : Int) = 0)) then
    bif (decide ((8 : Int) ≤ ((l).length : Int))) then
      (runL (kinfolkref05_End_L0_step l ((l).length : Int) l) 0).bind fun _ =>
      some (6, 6)
    else
      (runL (kinfolkref05_End_L0_2_step l ((l).length : Int) l) (0, n)).bind fun n2 =>
      some (n2, n2)
  else
    some (n, n)
theorem kinfolkref05_End_runs (l : List Bool) (n : Int) (r_ : Int × Int) (h : kinfolkref05_End l n = some r_) : Runs Try.prog 75 [(.one (.ref 0 0))] [[(.pv (.bools l false)), (.pv (.int .i64 n))]] [] (kinfolkref05_End_out l n r_) := by
  unfold kinfolkref05_End at h
  rcases cond_of h with ⟨h1, h⟩ | ⟨h1, h⟩
  · rcases cond_of h with ⟨h2, h⟩ | ⟨h2, h⟩
    · obtain ⟨_, h3, h⟩ := bind_of h
      have h := some_of h
      subst h
      exact runs_of (C := cfg) (objs := [[(.pv (.bools l false)), (.pv (.int .i64 n))]]) (sc := [.br true, .br true, .lp (kinfolkref05_End_L0_ex l ((l).length : Int) l ()).1 (kinfolkref05_End_L0_ex l ((l).length : Int) l ()).2]) (.k0 (an_ h1 (an_ h2 (an_ (kinfolkref05_End_L0_runs l ((l).length : Int) l _ _ h3) trivial))) (by kernel_rfl))
    · obtain ⟨n2, h3, h⟩ := bind_of h
      have h := some_of h
      subst h
      exact runs_of (C := cfg) (objs := [[(.pv (.bools l false)), (.pv (.int .i64 n))]]) (sc := [.br true, .br false, .lp (kinfolkref05_End_L0_2_ex l ((l).length : Int) l n2).1 (kinfolkref05_End_L0_2_ex l ((l).length : Int) l n2).2]) (.k0 (an_ h1 (an_ h2 (an_ (kinfolkref05_End_L0_2_runs l ((l).length : Int) l _ _ h3) trivial))) (by kernel_rfl))
  · have h := some_of h
    subst h
    exact runs_of (C := cfg) (objs := [[(.pv (.bools l false)), (.pv (.int .i64 n))]]) (sc := [.br false]) (.k0 (an_ h1 trivial) (by kernel_rfl))
/-! ### kinfolkref15_ReadID -/
noncomputable def kinfolkref15_ReadID (N : Nat) (p : List Int) : Option (T_kinfolkref01_ID × Int) :=
  (kinfolkref05_Bits p).bind fun l_ =>
  (kinfolkref07_GetID_3 N 0 0 l_).bind fun (t, n, l_2, n2) =>
  bif (decide ((n : Int) = 0)) then
    (kinfolkref05_End l_2 n2).bind fun (n3, n4) =>
    bif (decide ((n3 : Int) = 0)) then
      some (t, 0)
    else
      (kinfolkref01_Zero).bind fun t2 =>
      some (t2, n3)
  else
    (kinfolkref01_Zero).bind fun t2 =>
    some (t2, n)
theorem kinfolkref15_ReadID_runs (N : Nat) (p : List Int) (r_ : T_kinfolkref01_ID × Int) (h : kinfolkref15_ReadID N p = some r_) : Runs Try.prog 44 [(.one (.pv (.ints .u8 p false)))] [] [] (kinfolkref15_ReadID_out p r_) := by
  unfold kinfolkref15_ReadID at h
  obtain ⟨l_, h1, h⟩ := bind_of h
  obtain ⟨⟨t, n, l_2, n2⟩, h2, h⟩ := bind_of h
  rcases cond_of h with ⟨h3, h⟩ | ⟨h3, h⟩
  · obtain ⟨⟨n3, n4⟩, h4, h⟩ := bind_of h
    rcases cond_of h with ⟨h5, h⟩ | ⟨h5, h⟩
    · have h := some_of h
      subst h
      exact runs_of (C := cfg) (objs := []) (sc := [.res (kinfolkref05_Bits_out p l_), .res (kinfolkref07_GetID_3_out 0 0 l_ (t, n, l_2, n2)), .br true, .res (kinfolkref05_End_out l_2 n2 (n3, n4)), .br false]) (.k0 (an_ (kinfolkref05_Bits_runs p _ h1) (an_ (kinfolkref07_GetID_3_runs N 0 0 l_ _ h2) (an_ h3 (an_ (kinfolkref05_End_runs l_2 n2 _ h4) (an_ (not_of2 h5) trivial))))) (by kernel_rfl))
    · obtain ⟨t2, h6, h⟩ := bind_of h
      have h := some_of h
      subst h
      exact runs_of (C := cfg) (objs := []) (sc := [.res (kinfolkref05_Bits_out p l_), .res (kinfolkref07_GetID_3_out 0 0 l_ (t, n, l_2, n2)), .br true, .res (kinfolkref05_End_out l_2 n2 (n3, n4)), .br true, .res (kinfolkref01_Zero_out t2)]) (.k0 (an_ (kinfolkref05_Bits_runs p _ h1) (an_ (kinfolkref07_GetID_3_runs N 0 0 l_ _ h2) (an_ h3 (an_ (kinfolkref05_End_runs l_2 n2 _ h4) (an_ (not_of h5) (an_ (kinfolkref01_Zero_runs _ h6) trivial)))))) (by kernel_rfl))
  · obtain ⟨t2, h4, h⟩ := bind_of h
    have h := some_of h
    subst h
    exact runs_of (C := cfg) (objs := []) (sc := [.res (kinfolkref05_Bits_out p l_), .res (kinfolkref07_GetID_3_out 0 0 l_ (t, n, l_2, n2)), .br false, .br true, .res (kinfolkref01_Zero_out t2)]) (.k0 (an_ (kinfolkref05_Bits_runs p _ h1) (an_ (kinfolkref07_GetID_3_runs N 0 0 l_ _ h2) (an_ h3 (an_ (not_of h3) (an_ (kinfolkref01_Zero_runs _ h4) trivial))))) (by kernel_rfl))
/-! ### kinfolkref15_GetGift -/
noncomputable def kinfolkref15_GetGift (N : Nat) (l : List Int) (n : Int) (n2 : Int) : Option (Int × Int × Int × T_kinfolkref01_ID × Int × Int) :=
  (kinfolkref06_GetNum l n n2).bind fun (n3, n4, n5) =>
  (kinfolkref15_number l n4 n5).bind fun (n6, n7, n8) =>
  (kinfolkref15_number l n7 n8).bind fun (n9, n10, n11) =>
  (kinfolkref06_GetText 4096 l n10 n11).bind fun (s, n12, n13) =>
  bif (decide ((n13 : Int) = 0)) then
    bif decide (s.size ≤ 140737488355328) then
    (kinfolkref15_ReadID N (bytesL s)).bind fun (t, n14) =>
    bif (decide ((n14 : Int) = 0)) then
      some (n3, n6, n9, t, n12, n13)
    else
      (kinfolkref01_Zero).bind fun t2 =>
      some (0, 0, 0, t2, n12, n14)
    else none
  else
    (kinfolkref01_Zero).bind fun t =>
    some (0, 0, 0, t, n12, n13)
theorem kinfolkref15_GetGift_runs (N : Nat) (l : List Int) (n : Int) (n2 : Int) (r_ : Int × Int × Int × T_kinfolkref01_ID × Int × Int) (h : kinfolkref15_GetGift N l n n2 = some r_) : Runs Try.prog 11 [(.one (.ref 0 0))] [[(.pv (.ints .u8 l false)), (.pv (.int .i64 n)), (.pv (.int .i64 n2))]] [] (kinfolkref15_GetGift_out l n n2 r_) := by
  unfold kinfolkref15_GetGift at h
  obtain ⟨⟨n3, n4, n5⟩, h1, h⟩ := bind_of h
  obtain ⟨⟨n6, n7, n8⟩, h2, h⟩ := bind_of h
  obtain ⟨⟨n9, n10, n11⟩, h3, h⟩ := bind_of h
  obtain ⟨⟨s, n12, n13⟩, h4, h⟩ := bind_of h
  rcases cond_of h with ⟨h5, h⟩ | ⟨h5, h⟩
  · obtain ⟨h6, h⟩ := need_of h
    obtain ⟨⟨t, n14⟩, h7, h⟩ := bind_of h
    rcases cond_of h with ⟨h8, h⟩ | ⟨h8, h⟩
    · have h := some_of h
      subst h
      exact runs_of (C := cfg) (objs := [[(.pv (.ints .u8 l false)), (.pv (.int .i64 n)), (.pv (.int .i64 n2))]]) (sc := [.res (kinfolkref06_GetNum_out l n n2 (n3, n4, n5)), .res (kinfolkref15_number_out l n4 n5 (n6, n7, n8)), .res (kinfolkref15_number_out l n7 n8 (n9, n10, n11)), .res (kinfolkref06_GetText_out 4096 l n10 n11 (s, n12, n13)), .br false, .res (kinfolkref15_ReadID_out (bytesL s) (t, n14)), .br false]) (.k0 (an_ (kinfolkref06_GetNum_runs l n n2 _ h1) (an_ (kinfolkref15_number_runs l n4 n5 _ h2) (an_ (kinfolkref15_number_runs l n7 n8 _ h3) (an_ (kinfolkref06_GetText_runs 4096 l n10 n11 _ h4) (an_ (not_of2 h5) (an_ h6 (an_ (Runs.coe (as' := [(.one (.pv (.ints .u8 (List.take (bytesL s).length (bytesL s)) false)))]) (objs' := []) (rows' := []) (kinfolkref15_ReadID_runs N (bytesL s) _ h7) ⟨.pv (.ints (by first | rfl | (simp only [List.take_length]; done) | (simp only [List.take_length, List.length_append, List.drop_zero, List.map_append, List.map_take, List.map_drop, List.map_replicate, List.map_cons, List.map_nil, List.append_nil, List.nil_append, E_deed_Gift.pv, E_deed_Gift.upd]; done) | (simp; done) | (simp only [List.length_map, List.take_length, List.length_append, List.drop_zero, List.map_append, List.map_take, List.map_drop, List.map_replicate, List.map_cons, List.map_nil, List.append_nil, List.nil_append, E_deed_Gift.pv, E_deed_Gift.upd]; done))), trivial⟩ trivial trivial) (an_ (not_of2 h8) trivial)))))))) (by kernel_rfl))
    · obtain ⟨t2, h9, h⟩ := bind_of h
      have h := some_of h
      subst h
      exact runs_of (C := cfg) (objs := [[(.pv (.ints .u8 l false)), (.pv (.int .i64 n)), (.pv (.int .i64 n2))]]) (sc := [.res (kinfolkref06_GetNum_out l n n2 (n3, n4, n5)), .res (kinfolkref15_number_out l n4 n5 (n6, n7, n8)), .res (kinfolkref15_number_out l n7 n8 (n9, n10, n11)), .res (kinfolkref06_GetText_out 4096 l n10 n11 (s, n12, n13)), .br false, .res (kinfolkref15_ReadID_out (bytesL s) (t, n14)), .br true, .res (kinfolkref01_Zero_out t2)]) (.k0 (an_ (kinfolkref06_GetNum_runs l n n2 _ h1) (an_ (kinfolkref15_number_runs l n4 n5 _ h2) (an_ (kinfolkref15_number_runs l n7 n8 _ h3) (an_ (kinfolkref06_GetText_runs 4096 l n10 n11 _ h4) (an_ (not_of2 h5) (an_ h6 (an_ (Runs.coe (as' := [(.one (.pv (.ints .u8 (List.take (bytesL s).length (bytesL s)) false)))]) (objs' := []) (rows' := []) (kinfolkref15_ReadID_runs N (bytesL s) _ h7) ⟨.pv (.ints (by first | rfl | (simp only [List.take_length]; done) | (simp only [List.take_length, List.length_append, List.drop_zero, List.map_append, List.map_take, List.map_drop, List.map_replicate, List.map_cons, List.map_nil, List.append_nil, List.nil_append, E_deed_Gift.pv, E_deed_Gift.upd]; done) | (simp; done) | (simp only [List.length_map, List.take_length, List.length_append, List.drop_zero, List.map_append, List.map_take, List.map_drop, List.map_replicate, List.map_cons, List.map_nil, List.append_nil, List.nil_append, E_deed_Gift.pv, E_deed_Gift.upd]; done))), trivial⟩ trivial trivial) (an_ (not_of h8) (an_ (kinfolkref01_Zero_runs _ h9) trivial))))))))) (by kernel_rfl))
  · obtain ⟨t, h6, h⟩ := bind_of h
    have h := some_of h
    subst h
    exact runs_of (C := cfg) (objs := [[(.pv (.ints .u8 l false)), (.pv (.int .i64 n)), (.pv (.int .i64 n2))]]) (sc := [.res (kinfolkref06_GetNum_out l n n2 (n3, n4, n5)), .res (kinfolkref15_number_out l n4 n5 (n6, n7, n8)), .res (kinfolkref15_number_out l n7 n8 (n9, n10, n11)), .res (kinfolkref06_GetText_out 4096 l n10 n11 (s, n12, n13)), .br true, .res (kinfolkref01_Zero_out t)]) (.k0 (an_ (kinfolkref06_GetNum_runs l n n2 _ h1) (an_ (kinfolkref15_number_runs l n4 n5 _ h2) (an_ (kinfolkref15_number_runs l n7 n8 _ h3) (an_ (kinfolkref06_GetText_runs 4096 l n10 n11 _ h4) (an_ (not_of h5) (an_ (kinfolkref01_Zero_runs _ h6) trivial)))))) (by kernel_rfl))
/-! ### kinfolkref15_PutGift_out -/
def kinfolkref15_PutGift_out (g : Int) (g2 : Int) (g3 : Int) (g4 : T_kinfolkref01_ID) : List Int → Res
  | r1 => ([(.one (.own 0 0 (r1).length false))], [], [(.ints .u8 r1)])
/-! ### kinfolkref06_Num_out -/
def kinfolkref06_Num_out (n : Int) : List Int → Res
  | r1 => ([(.one (.own 0 0 (r1).length false))], [], [(.ints .u8 r1)])
/-! ### kinfolkref06_Num -/
noncomputable def kinfolkref06_Num_b (rec_kinfolkref06_Num : Int → Option (List Int)) (n : Int) : Option (List Int) :=
  bif (decide ((n : Int) < 128)) then
    some [(IntKind.u8.wrap n)]
  else
    (rec_kinfolkref06_Num (iquo .u64 n 128)).bind fun l_ =>
    bif Nat.beq ((List.take (l_).length l_)).length 0 then
      some [(IntKind.u8.wrap (iadd .u64 (irem .u64 n 128) 128))]
    else
      bif fits (([(IntKind.u8.wrap (iadd .u64 (irem .u64 n 128) 128))] ++ (List.take (l_).length l_))).length then
      some ([(IntKind.u8.wrap (iadd .u64 (irem .u64 n 128) 128))] ++ l_)
      else none
theorem kinfolkref06_Num_b_runs (rec_kinfolkref06_Num : Int → Option (List Int)) (hrec_kinfolkref06_Num : ∀ n r_, rec_kinfolkref06_Num n = some r_ → Runs Try.prog 45 [(.one (.pv (.int .u64 n)))] [] [] (kinfolkref06_Num_out n r_)) (n : Int) (r_ : List Int) (h : kinfolkref06_Num_b rec_kinfolkref06_Num n = some r_) : Runs Try.prog 45 [(.one (.pv (.int .u64 n)))] [] [] (kinfolkref06_Num_out n r_) := by
  unfold kinfolkref06_Num_b at h
  rcases cond_of h with ⟨h1, h⟩ | ⟨h1, h⟩
  · have h := some_of h
    subst h
    have e_ : Runs Try.prog 45 [(.one (.pv (.int .u64 n)))] [] [] ([(.one (.own 0 0 1 true))], [], [(.ints .u8 [(IntKind.u8.wrap n)])]) := runs_of (C := cfg) (objs := []) (sc := [.br true]) (.k0 (an_ h1 trivial) (by kernel_rfl))
    exact e_.out ⟨.ownF (by first | rfl | (simp only [List.take_length]; done) | (simp only [List.take_length, List.length_append, List.drop_zero, List.map_append, List.map_take, List.map_drop, List.map_replicate, List.map_cons, List.map_nil, List.append_nil, List.nil_append, E_deed_Gift.pv, E_deed_Gift.upd]; done) | (simp; done) | (simp only [List.length_map, List.take_length, List.length_append, List.drop_zero, List.map_append, List.map_take, List.map_drop, List.map_replicate, List.map_cons, List.map_nil, List.append_nil, List.nil_append, E_deed_Gift.pv, E_deed_Gift.upd]; done)), trivial⟩ trivial ⟨.eq rfl, trivial⟩ rfl
  · obtain ⟨l_, h2, h⟩ := bind_of h
    rcases cond_of h with ⟨h3, h⟩ | ⟨h3, h⟩
    · have h := some_of h
      subst h
      have e_ : Runs Try.prog 45 [(.one (.pv (.int .u64 n)))] [] [] ([(.one (.own 0 0 1 false))], [], [(.ints .u8 [(IntKind.u8.wrap (iadd .u64 (irem .u64 n 128) 128))])]) := runs_of (C := cfg) (objs := []) (sc := [.br false, .res (kinfolkref06_Num_out (iquo .u64 n 128) l_), .br true]) (.k0 (an_ h1 (an_ (rfl : true = true) (an_ (rfl : true = true) (an_ (hrec_kinfolkref06_Num (iquo .u64 n 128) _ h2) (an_ h3 trivial))))) (by kernel_rfl))
      exact e_.out ⟨.own (by first | rfl | (simp only [List.take_length]; done) | (simp only [List.take_length, List.length_append, List.drop_zero, List.map_append, List.map_take, List.map_drop, List.map_replicate, List.map_cons, List.map_nil, List.append_nil, List.nil_append, E_deed_Gift.pv, E_deed_Gift.upd]; done) | (simp; done) | (simp only [List.length_map, List.take_length, List.length_append, List.drop_zero, List.map_append, List.map_take, List.map_drop, List.map_replicate, List.map_cons, List.map_nil, List.append_nil, List.nil_append, E_deed_Gift.pv, E_deed_Gift.upd]; done)), trivial⟩ trivial ⟨.eq rfl, trivial⟩ rfl
    · obtain ⟨h4, h⟩ := need_of h
      have h := some_of h
      subst h
      have e_ : Runs Try.prog 45 [(.one (.pv (.int .u64 n)))] [] [] ([(.one (.own 0 0 (([(IntKind.u8.wrap (iadd .u64 (irem .u64 n 128) 128))] ++ (List.take (l_).length l_))).length false))], [], [(.ints .u8 ([(IntKind.u8.wrap (iadd .u64 (irem .u64 n 128) 128))] ++ (List.take (l_).length l_)))]) := runs_of (C := cfg) (objs := []) (sc := [.br false, .res (kinfolkref06_Num_out (iquo .u64 n 128) l_), .br false]) (.k0 (an_ h1 (an_ (rfl : true = true) (an_ (rfl : true = true) (an_ (hrec_kinfolkref06_Num (iquo .u64 n 128) _ h2) (an_ (not_of h3) (an_ h4 trivial)))))) (by kernel_rfl))
      exact e_.out ⟨.own (by first | rfl | (simp only [List.take_length]; done) | (simp only [List.take_length, List.length_append, List.drop_zero, List.map_append, List.map_take, List.map_drop, List.map_replicate, List.map_cons, List.map_nil, List.append_nil, List.nil_append, E_deed_Gift.pv, E_deed_Gift.upd]; done) | (simp; done) | (simp only [List.length_map, List.take_length, List.length_append, List.drop_zero, List.map_append, List.map_take, List.map_drop, List.map_replicate, List.map_cons, List.map_nil, List.append_nil, List.nil_append, E_deed_Gift.pv, E_deed_Gift.upd]; done)), trivial⟩ trivial ⟨.eq (by first | rfl | (simp only [List.take_length]; done) | (simp only [List.take_length, List.length_append, List.drop_zero, List.map_append, List.map_take, List.map_drop, List.map_replicate, List.map_cons, List.map_nil, List.append_nil, List.nil_append, E_deed_Gift.pv, E_deed_Gift.upd]; done) | (simp; done) | (simp only [List.length_map, List.take_length, List.length_append, List.drop_zero, List.map_append, List.map_take, List.map_drop, List.map_replicate, List.map_cons, List.map_nil, List.append_nil, List.nil_append, E_deed_Gift.pv, E_deed_Gift.upd]; done)), trivial⟩ rfl
noncomputable def kinfolkref06_Num : Nat → Int → Option (List Int)
  | 0, _ => none
  | N + 1, n => kinfolkref06_Num_b (kinfolkref06_Num N) n
theorem kinfolkref06_Num_runs : ∀ (N : Nat) (n : Int) (r_ : List Int), kinfolkref06_Num N n = some r_ → Runs Try.prog 45 [(.one (.pv (.int .u64 n)))] [] [] (kinfolkref06_Num_out n r_)
  | 0, _, _, h => by cases h
  | N + 1, n, r_, h => kinfolkref06_Num_b_runs (kinfolkref06_Num N) (kinfolkref06_Num_runs N) n r_ h
/-! ### kinfolkref07_ID_out -/
def kinfolkref07_ID_out (l : List Bool) (i : T_kinfolkref01_ID) : List Bool → Res
  | r1 => ([(.one (.own 0 0 (r1).length false))], [], [(.bools r1)])
/-! ### kinfolkref05_Put_out -/
def kinfolkref05_Put_out (l : List Bool) (n : Int) (k : Int) : List Bool → Res
  | r1 => ([(.one (.own 0 0 (r1).length false))], [], [(.bools r1)])

end Go.Proofs.Ytjjcmgdgifcmgaa
