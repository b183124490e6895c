/- What functions compute, and that they do. -/
import Derived.Test.YtjjakdmcnkldoaaDoorCA4
set_option linter.unusedVariables false
set_option linter.unusedSimpArgs false
set_option maxRecDepth 100000
namespace Go.Proofs.YtjjakdmcnkldoaaDoor
open Go.Ev

/-! ### kinfolkref07_GetEvent_2 -/
noncomputable def kinfolkref07_GetEvent_2_b (N : Nat) (rec_kinfolkref07_GetEvent_2 : Int → List Bool → Int → Option (T_kinfolkref02_Event × Int × List Bool × Int)) (depth : Int) (l : List Bool) (n : Int) : Option (T_kinfolkref02_Event × Int × List Bool × Int) :=
  (kinfolkref02_Leaf 0).bind fun t =>
  (kinfolkref05_Get_2 1 l n).bind fun (n2, l_, n3) =>
  bif (decide ((n3 : Int) = 0)) then
    bif (decide ((n2 : Int) = 1)) then
      (kinfolkref07_number l_ n3).bind fun (n4, n5, l_2, n6) =>
      bif (decide ((n5 : Int) = 0)) then
        (kinfolkref02_Leaf n4).bind fun t2 =>
        some (t2, 0, l_2, n6)
      else
        some (t, n5, l_2, n6)
    else
      bif (decide ((depth : Int) = 16)) then
        some (t, 3, l_, n3)
      else
        (kinfolkref05_Get_2 2 l_ n3).bind fun (n4, l_2, n5) =>
        (kinfolkref07_GetEvent_C53 depth t (!(decide ((n4 : Int) = 0))) (!(decide ((n4 : Int) = 1))) (decide ((n4 : Int) = 3)) l_2 n5).bind fun z_ => match z_ with
        | .inl (n6, l_3, n7) =>
          some (t, n6, l_3, n7)
        | .inr (b, b2, n6, l_3, n7) =>
          bif (decide ((n7 : Int) = 0)) then
            (kinfolkref07_GetEvent_C84 rec_kinfolkref07_GetEvent_2 depth t b b2 n6 t t b l_3 n7).bind fun z_ => match z_ with
            | .inl (t2, l_4, n8) =>
              (kinfolkref07_GetEvent_C96 rec_kinfolkref07_GetEvent_2 depth t b b2 n6 t2 t b2 l_4 n8).bind fun z_ => match z_ with
              | .inl (t3, l_5, n9) =>
                bif b then
                  (kinfolkref07_zero t2).bind fun b3 =>
                  bif b3 then
                    some (t, 6, l_5, n9)
                  else
                    bif b2 then
                      (kinfolkref07_zero t3).bind fun b4 =>
                      bif b4 then
                        some (t, 6, l_5, n9)
                      else
                        match t2 with
                        | .nil =>
                          none
                        | .mk n10 t4 t5 =>
                          bif (decide ((0 : Int) < n10)) then
                            match t3 with
                            | .nil =>
                              none
                            | .mk n11 t6 t7 =>
                              bif (decide ((0 : Int) < n11)) then
                                some (t, 6, l_5, n9)
                              else
                                match t4 with
                                | .nil =>
                                  match t6 with
                                  | .nil =>
                                    bif (decide ((n10 : Int) = n11)) then
                                      some (t, 6, l_5, n9)
                                    else
                                      (kinfolkref02_Max N (T_kinfolkref02_Event.mk n6 t2 t3)).bind fun n12 =>
                                      bif (decide ((1048576 : Int) < n12)) then
                                        some (t, 4, l_5, n9)
                                      else
                                        some ((T_kinfolkref02_Event.mk n6 t2 t3), 0, l_5, n9)
                                  | .mk n12 t8 t9 =>
                                    (kinfolkref02_Max N (T_kinfolkref02_Event.mk n6 t2 t3)).bind fun n13 =>
                                    bif (decide ((1048576 : Int) < n13)) then
                                      some (t, 4, l_5, n9)
                                    else
                                      some ((T_kinfolkref02_Event.mk n6 t2 t3), 0, l_5, n9)
                                | .mk n12 t8 t9 =>
                                  (kinfolkref02_Max N (T_kinfolkref02_Event.mk n6 t2 t3)).bind fun n13 =>
                                  bif (decide ((1048576 : Int) < n13)) then
                                    some (t, 4, l_5, n9)
                                  else
                                    some ((T_kinfolkref02_Event.mk n6 t2 t3), 0, l_5, n9)
                          else
                            match t4 with
                            | .nil =>
                              match t3 with
                              | .nil =>
                                none
                              | .mk n11 t6 t7 =>
                                match t6 with
                                | .nil =>
                                  bif (decide ((n10 : Int) = n11)) then
                                    some (t, 6, l_5, n9)
                                  else
                                    (kinfolkref02_Max N (T_kinfolkref02_Event.mk n6 t2 t3)).bind fun n12 =>
                                    bif (decide ((1048576 : Int) < n12)) then
                                      some (t, 4, l_5, n9)
                                    else
                                      some ((T_kinfolkref02_Event.mk n6 t2 t3), 0, l_5, n9)
                                | .mk n12 t8 t9 =>
                                  (kinfolkref02_Max N (T_kinfolkref02_Event.mk n6 t2 t3)).bind fun n13 =>
                                  bif (decide ((1048576 : Int) < n13)) then
                                    some (t, 4, l_5, n9)
                                  else
                                    some ((T_kinfolkref02_Event.mk n6 t2 t3), 0, l_5, n9)
                            | .mk n11 t6 t7 =>
                              (kinfolkref02_Max N (T_kinfolkref02_Event.mk n6 t2 t3)).bind fun n12 =>
                              bif (decide ((1048576 : Int) < n12)) then
                                some (t, 4, l_5, n9)
                              else
                                some ((T_kinfolkref02_Event.mk n6 t2 t3), 0, l_5, n9)
                    else
                      match t2 with
                      | .nil =>
                        none
                      | .mk n10 t4 t5 =>
                        bif (decide ((0 : Int) < n10)) then
                          match t3 with
                          | .nil =>
                            none
                          | .mk n11 t6 t7 =>
                            bif (decide ((0 : Int) < n11)) then
                              some (t, 6, l_5, n9)
                            else
                              match t4 with
                              | .nil =>
                                match t6 with
                                | .nil =>
                                  bif (decide ((n10 : Int) = n11)) then
                                    some (t, 6, l_5, n9)
                                  else
                                    (kinfolkref02_Max N (T_kinfolkref02_Event.mk n6 t2 t3)).bind fun n12 =>
                                    bif (decide ((1048576 : Int) < n12)) then
                                      some (t, 4, l_5, n9)
                                    else
                                      some ((T_kinfolkref02_Event.mk n6 t2 t3), 0, l_5, n9)
                                | .mk n12 t8 t9 =>
                                  (kinfolkref02_Max N (T_kinfolkref02_Event.mk n6 t2 t3)).bind fun n13 =>
                                  bif (decide ((1048576 : Int) < n13)) then
                                    some (t, 4, l_5, n9)
                                  else
                                    some ((T_kinfolkref02_Event.mk n6 t2 t3), 0, l_5, n9)
                              | .mk n12 t8 t9 =>
                                (kinfolkref02_Max N (T_kinfolkref02_Event.mk n6 t2 t3)).bind fun n13 =>
                                bif (decide ((1048576 : Int) < n13)) then
                                  some (t, 4, l_5, n9)
                                else
                                  some ((T_kinfolkref02_Event.mk n6 t2 t3), 0, l_5, n9)
                        else
                          match t4 with
                          | .nil =>
                            match t3 with
                            | .nil =>
                              none
                            | .mk n11 t6 t7 =>
                              match t6 with
                              | .nil =>
                                bif (decide ((n10 : Int) = n11)) then
                                  some (t, 6, l_5, n9)
                                else
                                  (kinfolkref02_Max N (T_kinfolkref02_Event.mk n6 t2 t3)).bind fun n12 =>
                                  bif (decide ((1048576 : Int) < n12)) then
                                    some (t, 4, l_5, n9)
                                  else
                                    some ((T_kinfolkref02_Event.mk n6 t2 t3), 0, l_5, n9)
                              | .mk n12 t8 t9 =>
                                (kinfolkref02_Max N (T_kinfolkref02_Event.mk n6 t2 t3)).bind fun n13 =>
                                bif (decide ((1048576 : Int) < n13)) then
                                  some (t, 4, l_5, n9)
                                else
                                  some ((T_kinfolkref02_Event.mk n6 t2 t3), 0, l_5, n9)
                          | .mk n11 t6 t7 =>
                            (kinfolkref02_Max N (T_kinfolkref02_Event.mk n6 t2 t3)).bind fun n12 =>
                            bif (decide ((1048576 : Int) < n12)) then
                              some (t, 4, l_5, n9)
                            else
                              some ((T_kinfolkref02_Event.mk n6 t2 t3), 0, l_5, n9)
                else
                  bif b2 then
                    (kinfolkref07_zero t3).bind fun b3 =>
                    bif b3 then
                      some (t, 6, l_5, n9)
                    else
                      match t2 with
                      | .nil =>
                        none
                      | .mk n10 t4 t5 =>
                        bif (decide ((0 : Int) < n10)) then
                          match t3 with
                          | .nil =>
                            none
                          | .mk n11 t6 t7 =>
                            bif (decide ((0 : Int) < n11)) then
                              some (t, 6, l_5, n9)
                            else
                              match t4 with
                              | .nil =>
                                match t6 with
                                | .nil =>
                                  bif (decide ((n10 : Int) = n11)) then
                                    some (t, 6, l_5, n9)
                                  else
                                    (kinfolkref02_Max N (T_kinfolkref02_Event.mk n6 t2 t3)).bind fun n12 =>
                                    bif (decide ((1048576 : Int) < n12)) then
                                      some (t, 4, l_5, n9)
                                    else
                                      some ((T_kinfolkref02_Event.mk n6 t2 t3), 0, l_5, n9)
                                | .mk n12 t8 t9 =>
                                  (kinfolkref02_Max N (T_kinfolkref02_Event.mk n6 t2 t3)).bind fun n13 =>
                                  bif (decide ((1048576 : Int) < n13)) then
                                    some (t, 4, l_5, n9)
                                  else
                                    some ((T_kinfolkref02_Event.mk n6 t2 t3), 0, l_5, n9)
                              | .mk n12 t8 t9 =>
                                (kinfolkref02_Max N (T_kinfolkref02_Event.mk n6 t2 t3)).bind fun n13 =>
                                bif (decide ((1048576 : Int) < n13)) then
                                  some (t, 4, l_5, n9)
                                else
                                  some ((T_kinfolkref02_Event.mk n6 t2 t3), 0, l_5, n9)
                        else
                          match t4 with
                          | .nil =>
                            match t3 with
                            | .nil =>
                              none
                            | .mk n11 t6 t7 =>
                              match t6 with
                              | .nil =>
                                bif (decide ((n10 : Int) = n11)) then
                                  some (t, 6, l_5, n9)
                                else
                                  (kinfolkref02_Max N (T_kinfolkref02_Event.mk n6 t2 t3)).bind fun n12 =>
                                  bif (decide ((1048576 : Int) < n12)) then
                                    some (t, 4, l_5, n9)
                                  else
                                    some ((T_kinfolkref02_Event.mk n6 t2 t3), 0, l_5, n9)
                              | .mk n12 t8 t9 =>
                                (kinfolkref02_Max N (T_kinfolkref02_Event.mk n6 t2 t3)).bind fun n13 =>
                                bif (decide ((1048576 : Int) < n13)) then
                                  some (t, 4, l_5, n9)
                                else
                                  some ((T_kinfolkref02_Event.mk n6 t2 t3), 0, l_5, n9)
                          | .mk n11 t6 t7 =>
                            (kinfolkref02_Max N (T_kinfolkref02_Event.mk n6 t2 t3)).bind fun n12 =>
                            bif (decide ((1048576 : Int) < n12)) then
                              some (t, 4, l_5, n9)
                            else
                              some ((T_kinfolkref02_Event.mk n6 t2 t3), 0, l_5, n9)
                  else
                    match t2 with
                    | .nil =>
                      none
                    | .mk n10 t4 t5 =>
                      bif (decide ((0 : Int) < n10)) then
                        match t3 with
                        | .nil =>
                          none
                        | .mk n11 t6 t7 =>
                          bif (decide ((0 : Int) < n11)) then
                            some (t, 6, l_5, n9)
                          else
                            match t4 with
                            | .nil =>
                              match t6 with
                              | .nil =>
                                bif (decide ((n10 : Int) = n11)) then
                                  some (t, 6, l_5, n9)
                                else
                                  (kinfolkref02_Max N (T_kinfolkref02_Event.mk n6 t2 t3)).bind fun n12 =>
                                  bif (decide ((1048576 : Int) < n12)) then
                                    some (t, 4, l_5, n9)
                                  else
                                    some ((T_kinfolkref02_Event.mk n6 t2 t3), 0, l_5, n9)
                              | .mk n12 t8 t9 =>
                                (kinfolkref02_Max N (T_kinfolkref02_Event.mk n6 t2 t3)).bind fun n13 =>
                                bif (decide ((1048576 : Int) < n13)) then
                                  some (t, 4, l_5, n9)
                                else
                                  some ((T_kinfolkref02_Event.mk n6 t2 t3), 0, l_5, n9)
                            | .mk n12 t8 t9 =>
                              (kinfolkref02_Max N (T_kinfolkref02_Event.mk n6 t2 t3)).bind fun n13 =>
                              bif (decide ((1048576 : Int) < n13)) then
                                some (t, 4, l_5, n9)
                              else
                                some ((T_kinfolkref02_Event.mk n6 t2 t3), 0, l_5, n9)
                      else
                        match t4 with
                        | .nil =>
                          match t3 with
                          | .nil =>
                            none
                          | .mk n11 t6 t7 =>
                            match t6 with
                            | .nil =>
                              bif (decide ((n10 : Int) = n11)) then
                                some (t, 6, l_5, n9)
                              else
                                (kinfolkref02_Max N (T_kinfolkref02_Event.mk n6 t2 t3)).bind fun n12 =>
                                bif (decide ((1048576 : Int) < n12)) then
                                  some (t, 4, l_5, n9)
                                else
                                  some ((T_kinfolkref02_Event.mk n6 t2 t3), 0, l_5, n9)
                            | .mk n12 t8 t9 =>
                              (kinfolkref02_Max N (T_kinfolkref02_Event.mk n6 t2 t3)).bind fun n13 =>
                              bif (decide ((1048576 : Int) < n13)) then
                                some (t, 4, l_5, n9)
                              else
                                some ((T_kinfolkref02_Event.mk n6 t2 t3), 0, l_5, n9)
                        | .mk n11 t6 t7 =>
                          (kinfolkref02_Max N (T_kinfolkref02_Event.mk n6 t2 t3)).bind fun n12 =>
                          bif (decide ((1048576 : Int) < n12)) then
                            some (t, 4, l_5, n9)
                          else
                            some ((T_kinfolkref02_Event.mk n6 t2 t3), 0, l_5, n9)
              | .inr (n9, l_5, n10) =>
                some (t, n9, l_5, n10)
            | .inr (n8, l_4, n9) =>
              some (t, n8, l_4, n9)
          else
            some (t, 6, l_3, n7)
  else
    some (t, 6, l_, n3)
theorem kinfolkref07_GetEvent_2_b_runs (N : Nat) (rec_kinfolkref07_GetEvent_2 : Int → List Bool → Int → Option (T_kinfolkref02_Event × Int × List Bool × Int)) (hrec_kinfolkref07_GetEvent_2 : ∀ depth l n r_, rec_kinfolkref07_GetEvent_2 depth l n = some r_ → Runs Tryd.prog 77 [(.one (.ref 0 0)), (.one (.pv (.int .i64 depth)))] [[(.pv (.bools l false)), (.pv (.int .i64 n))]] [] (kinfolkref07_GetEvent_2_out depth l n r_)) (depth : Int) (l : List Bool) (n : Int) (r_ : T_kinfolkref02_Event × Int × List Bool × Int) (h : kinfolkref07_GetEvent_2_b N rec_kinfolkref07_GetEvent_2 depth l n = some r_) : Runs Tryd.prog 77 [(.one (.ref 0 0)), (.one (.pv (.int .i64 depth)))] [[(.pv (.bools l false)), (.pv (.int .i64 n))]] [] (kinfolkref07_GetEvent_2_out depth l n r_) := by
  unfold kinfolkref07_GetEvent_2_b at h
  obtain ⟨t, h1, h⟩ := bind_of h
  obtain ⟨⟨n2, l_, n3⟩, h2, h⟩ := bind_of h
  rcases cond_of h with ⟨h3, h⟩ | ⟨h3, h⟩
  · rcases cond_of h with ⟨h4, h⟩ | ⟨h4, h⟩
    · obtain ⟨⟨n4, n5, l_2, n6⟩, h5, h⟩ := bind_of h
      rcases cond_of h with ⟨h6, h⟩ | ⟨h6, h⟩
      · obtain ⟨t2, h7, h⟩ := bind_of h
        have h := some_of h
        subst h
        have t_ := tR (kinfolkref02_Leaf_runs 0 _ h1) <| tR (kinfolkref05_Get_2_runs 1 l n _ h2) <| tF (not_of2 h3) <| tT h4 <| tR (kinfolkref07_number_runs l_ n3 _ h5) <| tF (not_of2 h6) <| tR (kinfolkref02_Leaf_runs n4 _ h7) <| tN
        exact runs_of (C := cfg) (objs := [[(.pv (.bools l false)), (.pv (.int .i64 n))]]) (sc := t_.ev) (.k0 t_.pf (by kernel_rfl))
      · have h := some_of h
        subst h
        have t_ := tR (kinfolkref02_Leaf_runs 0 _ h1) <| tR (kinfolkref05_Get_2_runs 1 l n _ h2) <| tF (not_of2 h3) <| tT h4 <| tR (kinfolkref07_number_runs l_ n3 _ h5) <| tT (not_of h6) <| tN
        exact runs_of (C := cfg) (objs := [[(.pv (.bools l false)), (.pv (.int .i64 n))]]) (sc := t_.ev) (.k0 t_.pf (by kernel_rfl))
    · rcases cond_of h with ⟨h5, h⟩ | ⟨h5, h⟩
      · have h := some_of h
        subst h
        have t_ := tR (kinfolkref02_Leaf_runs 0 _ h1) <| tR (kinfolkref05_Get_2_runs 1 l n _ h2) <| tF (not_of2 h3) <| tF h4 <| tT h5 <| tN
        exact runs_of (C := cfg) (objs := [[(.pv (.bools l false)), (.pv (.int .i64 n))]]) (sc := t_.ev) (.k0 t_.pf (by kernel_rfl))
      · obtain ⟨⟨n4, l_2, n5⟩, h6, h⟩ := bind_of h
        obtain ⟨z_, h7, h⟩ := bind_of h
        rcases z_ with ⟨n6, l_3, n7⟩ | ⟨b, b2, n6, l_3, n7⟩
        · have h := some_of h
          subst h
          have t_ := tR (kinfolkref02_Leaf_runs 0 _ h1) <| tR (kinfolkref05_Get_2_runs 1 l n _ h2) <| tF (not_of2 h3) <| tF h4 <| tF h5 <| tR (kinfolkref05_Get_2_runs 2 l_ n3 _ h6) <| tL (kinfolkref07_GetEvent_C53_runs depth t (!(decide ((n4 : Int) = 0))) (!(decide ((n4 : Int) = 1))) (decide ((n4 : Int) = 3)) l_2 n5 _ h7) <| tN
          exact runs_of (C := cfg) (objs := [[(.pv (.bools l false)), (.pv (.int .i64 n))]]) (sc := t_.ev) (.k0 t_.pf (by kernel_rfl))
        · have q_7 := (kinfolkref07_GetEvent_C53_runs depth t (!(decide ((n4 : Int) = 0))) (!(decide ((n4 : Int) = 1))) (decide ((n4 : Int) = 3)) l_2 n5 _ h7)
          rcases cond_of h with ⟨h8, h⟩ | ⟨h8, h⟩
          · obtain ⟨z_, h9, h⟩ := bind_of h
            rcases z_ with ⟨t2, l_4, n8⟩ | ⟨n8, l_4, n9⟩
            · have q_9 := (kinfolkref07_GetEvent_C84_runs rec_kinfolkref07_GetEvent_2 hrec_kinfolkref07_GetEvent_2 depth t b b2 n6 t t b l_3 n7 _ h9)
              obtain ⟨z_, h10, h⟩ := bind_of h
              rcases z_ with ⟨t3, l_5, n9⟩ | ⟨n9, l_5, n10⟩
              · have q_10 := (kinfolkref07_GetEvent_C96_runs rec_kinfolkref07_GetEvent_2 hrec_kinfolkref07_GetEvent_2 depth t b b2 n6 t2 t b2 l_4 n8 _ h10)
                rcases cond_of h with ⟨h11, h⟩ | ⟨h11, h⟩
                · obtain ⟨b3, h12, h⟩ := bind_of h
                  rcases cond_of h with ⟨h13, h⟩ | ⟨h13, h⟩
                  · have h := some_of h
                    subst h
                    have t_ := tR (kinfolkref02_Leaf_runs 0 _ h1) <| tR (kinfolkref05_Get_2_runs 1 l n _ h2) <| tF (not_of2 h3) <| tF h4 <| tF h5 <| tR (kinfolkref05_Get_2_runs 2 l_ n3 _ h6) <| tL q_7 <| tF (not_of2 h8) <| tL q_9 <| tL q_10 <| tT h11 <| tR (kinfolkref07_zero_runs t2 _ h12) <| tT h13 <| tT (rfl : true = true) <| tT (rfl : true = true) <| tT (rfl : true = true) <| tN
                    exact runs_of (C := cfg) (objs := [[(.pv (.bools l false)), (.pv (.int .i64 n))]]) (sc := t_.ev) (.k1 t_.pf (by kernel_rfl) (by kernel_rfl))
                  · rcases cond_of h with ⟨h14, h⟩ | ⟨h14, h⟩
                    · obtain ⟨b4, h15, h⟩ := bind_of h
                      rcases cond_of h with ⟨h16, h⟩ | ⟨h16, h⟩
                      · have h := some_of h
                        subst h
                        have t_ := tR (kinfolkref02_Leaf_runs 0 _ h1) <| tR (kinfolkref05_Get_2_runs 1 l n _ h2) <| tF (not_of2 h3) <| tF h4 <| tF h5 <| tR (kinfolkref05_Get_2_runs 2 l_ n3 _ h6) <| tL q_7 <| tF (not_of2 h8) <| tL q_9 <| tL q_10 <| tT h11 <| tR (kinfolkref07_zero_runs t2 _ h12) <| tF h13 <| tT h14 <| tR (kinfolkref07_zero_runs t3 _ h15) <| tT h16 <| tT (rfl : true = true) <| tT (rfl : true = true) <| tN
                        exact runs_of (C := cfg) (objs := [[(.pv (.bools l false)), (.pv (.int .i64 n))]]) (sc := t_.ev) (.k1 t_.pf (by kernel_rfl) (by kernel_rfl))
                      · cases t2 with
                        | nil =>
                          cases h
                        | mk n10 t4 t5 =>
                          rcases cond_of h with ⟨h17, h⟩ | ⟨h17, h⟩
                          · cases t3 with
                            | nil =>
                              cases h
                            | mk n11 t6 t7 =>
                              rcases cond_of h with ⟨h18, h⟩ | ⟨h18, h⟩
                              · have h := some_of h
                                subst h
                                have t_ := tR (kinfolkref02_Leaf_runs 0 _ h1) <| tR (kinfolkref05_Get_2_runs 1 l n _ h2) <| tF (not_of2 h3) <| tF h4 <| tF h5 <| tR (kinfolkref05_Get_2_runs 2 l_ n3 _ h6) <| tL q_7 <| tF (not_of2 h8) <| tL q_9 <| tL q_10 <| tT h11 <| tR (kinfolkref07_zero_runs (T_kinfolkref02_Event.mk n10 t4 t5) _ h12) <| tF h13 <| tT h14 <| tR (kinfolkref07_zero_runs (T_kinfolkref02_Event.mk n11 t6 t7) _ h15) <| tF h16 <| tT h17 <| tT h18 <| tT (rfl : true = true) <| tN
                                exact runs_of (C := cfg) (objs := [[(.pv (.bools l false)), (.pv (.int .i64 n))]]) (sc := t_.ev) (.k1 t_.pf (by kernel_rfl) (by kernel_rfl))
                              · cases t4 with
                                | nil =>
                                  cases t6 with
                                  | nil =>
                                    rcases cond_of h with ⟨h19, h⟩ | ⟨h19, h⟩
                                    · have h := some_of h
                                      subst h
                                      have t_ := tR (kinfolkref02_Leaf_runs 0 _ h1) <| tR (kinfolkref05_Get_2_runs 1 l n _ h2) <| tF (not_of2 h3) <| tF h4 <| tF h5 <| tR (kinfolkref05_Get_2_runs 2 l_ n3 _ h6) <| tL q_7 <| tF (not_of2 h8) <| tL q_9 <| tL q_10 <| tT h11 <| tR (kinfolkref07_zero_runs (T_kinfolkref02_Event.mk n10 T_kinfolkref02_Event.nil t5) _ h12) <| tF h13 <| tT h14 <| tR (kinfolkref07_zero_runs (T_kinfolkref02_Event.mk n11 T_kinfolkref02_Event.nil t7) _ h15) <| tF h16 <| tT h17 <| tF h18 <| tT (rfl : true = true) <| tT (rfl : true = true) <| tT h19 <| tN
                                      exact runs_of (C := cfg) (objs := [[(.pv (.bools l false)), (.pv (.int .i64 n))]]) (sc := t_.ev) (.k0 t_.pf (by kernel_rfl))
                                    · obtain ⟨n12, h20, h⟩ := bind_of h
                                      have q_20 := (Runs.coe (as' := [(.one (.pv (.imm [(.int .u64 n6), (T_kinfolkref02_Event.pv (T_kinfolkref02_Event.mk n10 T_kinfolkref02_Event.nil t5)), (T_kinfolkref02_Event.pv (T_kinfolkref02_Event.mk n11 T_kinfolkref02_Event.nil t7))] 0)))]) (objs' := []) (rows' := []) (kinfolkref02_Max_runs N (T_kinfolkref02_Event.mk n6 (T_kinfolkref02_Event.mk n10 T_kinfolkref02_Event.nil t5) (T_kinfolkref02_Event.mk n11 T_kinfolkref02_Event.nil t7)) _ h20) ⟨.eq rfl, trivial⟩ trivial trivial)
                                      rcases cond_of h with ⟨h21, h⟩ | ⟨h21, h⟩
                                      · have h := some_of h
                                        subst h
                                        have t_ := tR (kinfolkref02_Leaf_runs 0 _ h1) <| tR (kinfolkref05_Get_2_runs 1 l n _ h2) <| tF (not_of2 h3) <| tF h4 <| tF h5 <| tR (kinfolkref05_Get_2_runs 2 l_ n3 _ h6) <| tL q_7 <| tF (not_of2 h8) <| tL q_9 <| tL q_10 <| tT h11 <| tR (kinfolkref07_zero_runs (T_kinfolkref02_Event.mk n10 T_kinfolkref02_Event.nil t5) _ h12) <| tF h13 <| tT h14 <| tR (kinfolkref07_zero_runs (T_kinfolkref02_Event.mk n11 T_kinfolkref02_Event.nil t7) _ h15) <| tF h16 <| tT h17 <| tF h18 <| tT (rfl : true = true) <| tT (rfl : true = true) <| tF h19 <| tR q_20 <| tT h21 <| tN
                                        exact runs_of (C := cfg) (objs := [[(.pv (.bools l false)), (.pv (.int .i64 n))]]) (sc := t_.ev) (.k0 t_.pf (by kernel_rfl))
                                      · have h := some_of h
                                        subst h
                                        have t_ := tR (kinfolkref02_Leaf_runs 0 _ h1) <| tR (kinfolkref05_Get_2_runs 1 l n _ h2) <| tF (not_of2 h3) <| tF h4 <| tF h5 <| tR (kinfolkref05_Get_2_runs 2 l_ n3 _ h6) <| tL q_7 <| tF (not_of2 h8) <| tL q_9 <| tL q_10 <| tT h11 <| tR (kinfolkref07_zero_runs (T_kinfolkref02_Event.mk n10 T_kinfolkref02_Event.nil t5) _ h12) <| tF h13 <| tT h14 <| tR (kinfolkref07_zero_runs (T_kinfolkref02_Event.mk n11 T_kinfolkref02_Event.nil t7) _ h15) <| tF h16 <| tT h17 <| tF h18 <| tT (rfl : true = true) <| tT (rfl : true = true) <| tF h19 <| tR q_20 <| tF h21 <| tN
                                        have e_ : Runs Tryd.prog 77 [(.one (.ref 0 0)), (.one (.pv (.int .i64 depth)))] [[(.pv (.bools l false)), (.pv (.int .i64 n))]] [] ([(.one (.pv (.imm [(.int .u64 n6), (T_kinfolkref02_Event.pv (T_kinfolkref02_Event.mk n10 T_kinfolkref02_Event.nil t5)), (T_kinfolkref02_Event.pv (T_kinfolkref02_Event.mk n11 T_kinfolkref02_Event.nil t7))] 0))), (.one (.pv (.int .i64 0)))], [[(.pv (.bools l_5 false)), (.pv (.int .i64 n9))]], []) := runs_of (C := cfg) (objs := [[(.pv (.bools l false)), (.pv (.int .i64 n))]]) (sc := t_.ev) (.k0 t_.pf (by kernel_rfl))
                                        exact e_.out ⟨.eq rfl, .eq rfl, trivial⟩ ⟨⟨.eq rfl, .eq rfl, trivial⟩, trivial⟩ trivial rfl
                                  | mk n12 t8 t9 =>
                                    obtain ⟨n13, h19, h⟩ := bind_of h
                                    have q_19 := (Runs.coe (as' := [(.one (.pv (.imm [(.int .u64 n6), (T_kinfolkref02_Event.pv (T_kinfolkref02_Event.mk n10 T_kinfolkref02_Event.nil t5)), (T_kinfolkref02_Event.pv (T_kinfolkref02_Event.mk n11 (T_kinfolkref02_Event.mk n12 t8 t9) t7))] 0)))]) (objs' := []) (rows' := []) (kinfolkref02_Max_runs N (T_kinfolkref02_Event.mk n6 (T_kinfolkref02_Event.mk n10 T_kinfolkref02_Event.nil t5) (T_kinfolkref02_Event.mk n11 (T_kinfolkref02_Event.mk n12 t8 t9) t7)) _ h19) ⟨.eq rfl, trivial⟩ trivial trivial)
                                    rcases cond_of h with ⟨h20, h⟩ | ⟨h20, h⟩
                                    · have h := some_of h
                                      subst h
                                      have t_ := tR (kinfolkref02_Leaf_runs 0 _ h1) <| tR (kinfolkref05_Get_2_runs 1 l n _ h2) <| tF (not_of2 h3) <| tF h4 <| tF h5 <| tR (kinfolkref05_Get_2_runs 2 l_ n3 _ h6) <| tL q_7 <| tF (not_of2 h8) <| tL q_9 <| tL q_10 <| tT h11 <| tR (kinfolkref07_zero_runs (T_kinfolkref02_Event.mk n10 T_kinfolkref02_Event.nil t5) _ h12) <| tF h13 <| tT h14 <| tR (kinfolkref07_zero_runs (T_kinfolkref02_Event.mk n11 (T_kinfolkref02_Event.mk n12 t8 t9) t7) _ h15) <| tF h16 <| tT h17 <| tF h18 <| tT (rfl : true = true) <| tF (rfl : false = false) <| tF (rfl : false = false) <| tR q_19 <| tT h20 <| tN
                                      exact runs_of (C := cfg) (objs := [[(.pv (.bools l false)), (.pv (.int .i64 n))]]) (sc := t_.ev) (.k1 t_.pf (by kernel_rfl) (by kernel_rfl))
                                    · have h := some_of h
                                      subst h
                                      have t_ := tR (kinfolkref02_Leaf_runs 0 _ h1) <| tR (kinfolkref05_Get_2_runs 1 l n _ h2) <| tF (not_of2 h3) <| tF h4 <| tF h5 <| tR (kinfolkref05_Get_2_runs 2 l_ n3 _ h6) <| tL q_7 <| tF (not_of2 h8) <| tL q_9 <| tL q_10 <| tT h11 <| tR (kinfolkref07_zero_runs (T_kinfolkref02_Event.mk n10 T_kinfolkref02_Event.nil t5) _ h12) <| tF h13 <| tT h14 <| tR (kinfolkref07_zero_runs (T_kinfolkref02_Event.mk n11 (T_kinfolkref02_Event.mk n12 t8 t9) t7) _ h15) <| tF h16 <| tT h17 <| tF h18 <| tT (rfl : true = true) <| tF (rfl : false = false) <| tF (rfl : false = false) <| tR q_19 <| tF h20 <| tN
                                      have e_ : Runs Tryd.prog 77 [(.one (.ref 0 0)), (.one (.pv (.int .i64 depth)))] [[(.pv (.bools l false)), (.pv (.int .i64 n))]] [] ([(.one (.pv (.imm [(.int .u64 n6), (T_kinfolkref02_Event.pv (T_kinfolkref02_Event.mk n10 T_kinfolkref02_Event.nil t5)), (T_kinfolkref02_Event.pv (T_kinfolkref02_Event.mk n11 (T_kinfolkref02_Event.mk n12 t8 t9) t7))] 0))), (.one (.pv (.int .i64 0)))], [[(.pv (.bools l_5 false)), (.pv (.int .i64 n9))]], []) := runs_of (C := cfg) (objs := [[(.pv (.bools l false)), (.pv (.int .i64 n))]]) (sc := t_.ev) (.k1 t_.pf (by kernel_rfl) (by kernel_rfl))
                                      exact e_.out ⟨.eq rfl, .eq rfl, trivial⟩ ⟨⟨.eq rfl, .eq rfl, trivial⟩, trivial⟩ trivial rfl
                                | mk n12 t8 t9 =>
                                  obtain ⟨n13, h19, h⟩ := bind_of h
                                  have q_19 := (Runs.coe (as' := [(.one (.pv (.imm [(.int .u64 n6), (T_kinfolkref02_Event.pv (T_kinfolkref02_Event.mk n10 (T_kinfolkref02_Event.mk n12 t8 t9) t5)), (T_kinfolkref02_Event.pv (T_kinfolkref02_Event.mk n11 t6 t7))] 0)))]) (objs' := []) (rows' := []) (kinfolkref02_Max_runs N (T_kinfolkref02_Event.mk n6 (T_kinfolkref02_Event.mk n10 (T_kinfolkref02_Event.mk n12 t8 t9) t5) (T_kinfolkref02_Event.mk n11 t6 t7)) _ h19) ⟨.eq rfl, trivial⟩ trivial trivial)
                                  rcases cond_of h with ⟨h20, h⟩ | ⟨h20, h⟩
                                  · have h := some_of h
                                    subst h
                                    have t_ := tR (kinfolkref02_Leaf_runs 0 _ h1) <| tR (kinfolkref05_Get_2_runs 1 l n _ h2) <| tF (not_of2 h3) <| tF h4 <| tF h5 <| tR (kinfolkref05_Get_2_runs 2 l_ n3 _ h6) <| tL q_7 <| tF (not_of2 h8) <| tL q_9 <| tL q_10 <| tT h11 <| tR (kinfolkref07_zero_runs (T_kinfolkref02_Event.mk n10 (T_kinfolkref02_Event.mk n12 t8 t9) t5) _ h12) <| tF h13 <| tT h14 <| tR (kinfolkref07_zero_runs (T_kinfolkref02_Event.mk n11 t6 t7) _ h15) <| tF h16 <| tT h17 <| tF h18 <| tF (rfl : false = false) <| tF (rfl : false = false) <| tF (rfl : false = false) <| tR q_19 <| tT h20 <| tN
                                    exact runs_of (C := cfg) (objs := [[(.pv (.bools l false)), (.pv (.int .i64 n))]]) (sc := t_.ev) (.k1 t_.pf (by kernel_rfl) (by kernel_rfl))
                                  · have h := some_of h
                                    subst h
                                    have t_ := tR (kinfolkref02_Leaf_runs 0 _ h1) <| tR (kinfolkref05_Get_2_runs 1 l n _ h2) <| tF (not_of2 h3) <| tF h4 <| tF h5 <| tR (kinfolkref05_Get_2_runs 2 l_ n3 _ h6) <| tL q_7 <| tF (not_of2 h8) <| tL q_9 <| tL q_10 <| tT h11 <| tR (kinfolkref07_zero_runs (T_kinfolkref02_Event.mk n10 (T_kinfolkref02_Event.mk n12 t8 t9) t5) _ h12) <| tF h13 <| tT h14 <| tR (kinfolkref07_zero_runs (T_kinfolkref02_Event.mk n11 t6 t7) _ h15) <| tF h16 <| tT h17 <| tF h18 <| tF (rfl : false = false) <| tF (rfl : false = false) <| tF (rfl : false = false) <| tR q_19 <| tF h20 <| tN
                                    have e_ : Runs Tryd.prog 77 [(.one (.ref 0 0)), (.one (.pv (.int .i64 depth)))] [[(.pv (.bools l false)), (.pv (.int .i64 n))]] [] ([(.one (.pv (.imm [(.int .u64 n6), (T_kinfolkref02_Event.pv (T_kinfolkref02_Event.mk n10 (T_kinfolkref02_Event.mk n12 t8 t9) t5)), (T_kinfolkref02_Event.pv (T_kinfolkref02_Event.mk n11 t6 t7))] 0))), (.one (.pv (.int .i64 0)))], [[(.pv (.bools l_5 false)), (.pv (.int .i64 n9))]], []) := runs_of (C := cfg) (objs := [[(.pv (.bools l false)), (.pv (.int .i64 n))]]) (sc := t_.ev) (.k1 t_.pf (by kernel_rfl) (by kernel_rfl))
                                    exact e_.out ⟨.eq rfl, .eq rfl, trivial⟩ ⟨⟨.eq rfl, .eq rfl, trivial⟩, trivial⟩ trivial rfl
                          · cases t4 with
                            | nil =>
                              cases t3 with
                              | nil =>
                                cases h
                              | mk n11 t6 t7 =>
                                cases t6 with
                                | nil =>
                                  rcases cond_of h with ⟨h18, h⟩ | ⟨h18, h⟩
                                  · have h := some_of h
                                    subst h
                                    have t_ := tR (kinfolkref02_Leaf_runs 0 _ h1) <| tR (kinfolkref05_Get_2_runs 1 l n _ h2) <| tF (not_of2 h3) <| tF h4 <| tF h5 <| tR (kinfolkref05_Get_2_runs 2 l_ n3 _ h6) <| tL q_7 <| tF (not_of2 h8) <| tL q_9 <| tL q_10 <| tT h11 <| tR (kinfolkref07_zero_runs (T_kinfolkref02_Event.mk n10 T_kinfolkref02_Event.nil t5) _ h12) <| tF h13 <| tT h14 <| tR (kinfolkref07_zero_runs (T_kinfolkref02_Event.mk n11 T_kinfolkref02_Event.nil t7) _ h15) <| tF h16 <| tF h17 <| tF (rfl : false = false) <| tT (rfl : true = true) <| tT (rfl : true = true) <| tT h18 <| tN
                                    exact runs_of (C := cfg) (objs := [[(.pv (.bools l false)), (.pv (.int .i64 n))]]) (sc := t_.ev) (.k0 t_.pf (by kernel_rfl))
                                  · obtain ⟨n12, h19, h⟩ := bind_of h
                                    have q_19 := (Runs.coe (as' := [(.one (.pv (.imm [(.int .u64 n6), (T_kinfolkref02_Event.pv (T_kinfolkref02_Event.mk n10 T_kinfolkref02_Event.nil t5)), (T_kinfolkref02_Event.pv (T_kinfolkref02_Event.mk n11 T_kinfolkref02_Event.nil t7))] 0)))]) (objs' := []) (rows' := []) (kinfolkref02_Max_runs N (T_kinfolkref02_Event.mk n6 (T_kinfolkref02_Event.mk n10 T_kinfolkref02_Event.nil t5) (T_kinfolkref02_Event.mk n11 T_kinfolkref02_Event.nil t7)) _ h19) ⟨.eq rfl, trivial⟩ trivial trivial)
                                    rcases cond_of h with ⟨h20, h⟩ | ⟨h20, h⟩
                                    · have h := some_of h
                                      subst h
                                      have t_ := tR (kinfolkref02_Leaf_runs 0 _ h1) <| tR (kinfolkref05_Get_2_runs 1 l n _ h2) <| tF (not_of2 h3) <| tF h4 <| tF h5 <| tR (kinfolkref05_Get_2_runs 2 l_ n3 _ h6) <| tL q_7 <| tF (not_of2 h8) <| tL q_9 <| tL q_10 <| tT h11 <| tR (kinfolkref07_zero_runs (T_kinfolkref02_Event.mk n10 T_kinfolkref02_Event.nil t5) _ h12) <| tF h13 <| tT h14 <| tR (kinfolkref07_zero_runs (T_kinfolkref02_Event.mk n11 T_kinfolkref02_Event.nil t7) _ h15) <| tF h16 <| tF h17 <| tF (rfl : false = false) <| tT (rfl : true = true) <| tT (rfl : true = true) <| tF h18 <| tR q_19 <| tT h20 <| tN
                                      exact runs_of (C := cfg) (objs := [[(.pv (.bools l false)), (.pv (.int .i64 n))]]) (sc := t_.ev) (.k0 t_.pf (by kernel_rfl))
                                    · have h := some_of h
                                      subst h
                                      have t_ := tR (kinfolkref02_Leaf_runs 0 _ h1) <| tR (kinfolkref05_Get_2_runs 1 l n _ h2) <| tF (not_of2 h3) <| tF h4 <| tF h5 <| tR (kinfolkref05_Get_2_runs 2 l_ n3 _ h6) <| tL q_7 <| tF (not_of2 h8) <| tL q_9 <| tL q_10 <| tT h11 <| tR (kinfolkref07_zero_runs (T_kinfolkref02_Event.mk n10 T_kinfolkref02_Event.nil t5) _ h12) <| tF h13 <| tT h14 <| tR (kinfolkref07_zero_runs (T_kinfolkref02_Event.mk n11 T_kinfolkref02_Event.nil t7) _ h15) <| tF h16 <| tF h17 <| tF (rfl : false = false) <| tT (rfl : true = true) <| tT (rfl : true = true) <| tF h18 <| tR q_19 <| tF h20 <| tN
                                      have e_ : Runs Tryd.prog 77 [(.one (.ref 0 0)), (.one (.pv (.int .i64 depth)))] [[(.pv (.bools l false)), (.pv (.int .i64 n))]] [] ([(.one (.pv (.imm [(.int .u64 n6), (T_kinfolkref02_Event.pv (T_kinfolkref02_Event.mk n10 T_kinfolkref02_Event.nil t5)), (T_kinfolkref02_Event.pv (T_kinfolkref02_Event.mk n11 T_kinfolkref02_Event.nil t7))] 0))), (.one (.pv (.int .i64 0)))], [[(.pv (.bools l_5 false)), (.pv (.int .i64 n9))]], []) := runs_of (C := cfg) (objs := [[(.pv (.bools l false)), (.pv (.int .i64 n))]]) (sc := t_.ev) (.k0 t_.pf (by kernel_rfl))
                                      exact e_.out ⟨.eq rfl, .eq rfl, trivial⟩ ⟨⟨.eq rfl, .eq rfl, trivial⟩, trivial⟩ trivial rfl
                                | mk n12 t8 t9 =>
                                  obtain ⟨n13, h18, h⟩ := bind_of h
                                  have q_18 := (Runs.coe (as' := [(.one (.pv (.imm [(.int .u64 n6), (T_kinfolkref02_Event.pv (T_kinfolkref02_Event.mk n10 T_kinfolkref02_Event.nil t5)), (T_kinfolkref02_Event.pv (T_kinfolkref02_Event.mk n11 (T_kinfolkref02_Event.mk n12 t8 t9) t7))] 0)))]) (objs' := []) (rows' := []) (kinfolkref02_Max_runs N (T_kinfolkref02_Event.mk n6 (T_kinfolkref02_Event.mk n10 T_kinfolkref02_Event.nil t5) (T_kinfolkref02_Event.mk n11 (T_kinfolkref02_Event.mk n12 t8 t9) t7)) _ h18) ⟨.eq rfl, trivial⟩ trivial trivial)
                                  rcases cond_of h with ⟨h19, h⟩ | ⟨h19, h⟩
                                  · have h := some_of h
                                    subst h
                                    have t_ := tR (kinfolkref02_Leaf_runs 0 _ h1) <| tR (kinfolkref05_Get_2_runs 1 l n _ h2) <| tF (not_of2 h3) <| tF h4 <| tF h5 <| tR (kinfolkref05_Get_2_runs 2 l_ n3 _ h6) <| tL q_7 <| tF (not_of2 h8) <| tL q_9 <| tL q_10 <| tT h11 <| tR (kinfolkref07_zero_runs (T_kinfolkref02_Event.mk n10 T_kinfolkref02_Event.nil t5) _ h12) <| tF h13 <| tT h14 <| tR (kinfolkref07_zero_runs (T_kinfolkref02_Event.mk n11 (T_kinfolkref02_Event.mk n12 t8 t9) t7) _ h15) <| tF h16 <| tF h17 <| tF (rfl : false = false) <| tT (rfl : true = true) <| tF (rfl : false = false) <| tF (rfl : false = false) <| tR q_18 <| tT h19 <| tN
                                    exact runs_of (C := cfg) (objs := [[(.pv (.bools l false)), (.pv (.int .i64 n))]]) (sc := t_.ev) (.k1 t_.pf (by kernel_rfl) (by kernel_rfl))
                                  · have h := some_of h
                                    subst h
                                    have t_ := tR (kinfolkref02_Leaf_runs 0 _ h1) <| tR (kinfolkref05_Get_2_runs 1 l n _ h2) <| tF (not_of2 h3) <| tF h4 <| tF h5 <| tR (kinfolkref05_Get_2_runs 2 l_ n3 _ h6) <| tL q_7 <| tF (not_of2 h8) <| tL q_9 <| tL q_10 <| tT h11 <| tR (kinfolkref07_zero_runs (T_kinfolkref02_Event.mk n10 T_kinfolkref02_Event.nil t5) _ h12) <| tF h13 <| tT h14 <| tR (kinfolkref07_zero_runs (T_kinfolkref02_Event.mk n11 (T_kinfolkref02_Event.mk n12 t8 t9) t7) _ h15) <| tF h16 <| tF h17 <| tF (rfl : false = false) <| tT (rfl : true = true) <| tF (rfl : false = false) <| tF (rfl : false = false) <| tR q_18 <| tF h19 <| tN
                                    have e_ : Runs Tryd.prog 77 [(.one (.ref 0 0)), (.one (.pv (.int .i64 depth)))] [[(.pv (.bools l false)), (.pv (.int .i64 n))]] [] ([(.one (.pv (.imm [(.int .u64 n6), (T_kinfolkref02_Event.pv (T_kinfolkref02_Event.mk n10 T_kinfolkref02_Event.nil t5)), (T_kinfolkref02_Event.pv (T_kinfolkref02_Event.mk n11 (T_kinfolkref02_Event.mk n12 t8 t9) t7))] 0))), (.one (.pv (.int .i64 0)))], [[(.pv (.bools l_5 false)), (.pv (.int .i64 n9))]], []) := runs_of (C := cfg) (objs := [[(.pv (.bools l false)), (.pv (.int .i64 n))]]) (sc := t_.ev) (.k1 t_.pf (by kernel_rfl) (by kernel_rfl))
                                    exact e_.out ⟨.eq rfl, .eq rfl, trivial⟩ ⟨⟨.eq rfl, .eq rfl, trivial⟩, trivial⟩ trivial rfl
                            | mk n11 t6 t7 =>
                              obtain ⟨n12, h18, h⟩ := bind_of h
                              have q_18 := (Runs.coe (as' := [(.one (.pv (.imm [(.int .u64 n6), (T_kinfolkref02_Event.pv (T_kinfolkref02_Event.mk n10 (T_kinfolkref02_Event.mk n11 t6 t7) t5)), (T_kinfolkref02_Event.pv t3)] 0)))]) (objs' := []) (rows' := []) (kinfolkref02_Max_runs N (T_kinfolkref02_Event.mk n6 (T_kinfolkref02_Event.mk n10 (T_kinfolkref02_Event.mk n11 t6 t7) t5) t3) _ h18) ⟨.eq rfl, trivial⟩ trivial trivial)
                              rcases cond_of h with ⟨h19, h⟩ | ⟨h19, h⟩
                              · have h := some_of h
                                subst h
                                have t_ := tR (kinfolkref02_Leaf_runs 0 _ h1) <| tR (kinfolkref05_Get_2_runs 1 l n _ h2) <| tF (not_of2 h3) <| tF h4 <| tF h5 <| tR (kinfolkref05_Get_2_runs 2 l_ n3 _ h6) <| tL q_7 <| tF (not_of2 h8) <| tL q_9 <| tL q_10 <| tT h11 <| tR (kinfolkref07_zero_runs (T_kinfolkref02_Event.mk n10 (T_kinfolkref02_Event.mk n11 t6 t7) t5) _ h12) <| tF h13 <| tT h14 <| tR (kinfolkref07_zero_runs t3 _ h15) <| tF h16 <| tF h17 <| tF (rfl : false = false) <| tF (rfl : false = false) <| tF (rfl : false = false) <| tF (rfl : false = false) <| tR q_18 <| tT h19 <| tN
                                exact runs_of (C := cfg) (objs := [[(.pv (.bools l false)), (.pv (.int .i64 n))]]) (sc := t_.ev) (.k1 t_.pf (by kernel_rfl) (by kernel_rfl))
                              · have h := some_of h
                                subst h
                                have t_ := tR (kinfolkref02_Leaf_runs 0 _ h1) <| tR (kinfolkref05_Get_2_runs 1 l n _ h2) <| tF (not_of2 h3) <| tF h4 <| tF h5 <| tR (kinfolkref05_Get_2_runs 2 l_ n3 _ h6) <| tL q_7 <| tF (not_of2 h8) <| tL q_9 <| tL q_10 <| tT h11 <| tR (kinfolkref07_zero_runs (T_kinfolkref02_Event.mk n10 (T_kinfolkref02_Event.mk n11 t6 t7) t5) _ h12) <| tF h13 <| tT h14 <| tR (kinfolkref07_zero_runs t3 _ h15) <| tF h16 <| tF h17 <| tF (rfl : false = false) <| tF (rfl : false = false) <| tF (rfl : false = false) <| tF (rfl : false = false) <| tR q_18 <| tF h19 <| tN
                                have e_ : Runs Tryd.prog 77 [(.one (.ref 0 0)), (.one (.pv (.int .i64 depth)))] [[(.pv (.bools l false)), (.pv (.int .i64 n))]] [] ([(.one (.pv (.imm [(.int .u64 n6), (T_kinfolkref02_Event.pv (T_kinfolkref02_Event.mk n10 (T_kinfolkref02_Event.mk n11 t6 t7) t5)), (T_kinfolkref02_Event.pv t3)] 0))), (.one (.pv (.int .i64 0)))], [[(.pv (.bools l_5 false)), (.pv (.int .i64 n9))]], []) := runs_of (C := cfg) (objs := [[(.pv (.bools l false)), (.pv (.int .i64 n))]]) (sc := t_.ev) (.k1 t_.pf (by kernel_rfl) (by kernel_rfl))
                                exact e_.out ⟨.eq rfl, .eq rfl, trivial⟩ ⟨⟨.eq rfl, .eq rfl, trivial⟩, trivial⟩ trivial rfl
                    · cases t2 with
                      | nil =>
                        cases h
                      | mk n10 t4 t5 =>
                        rcases cond_of h with ⟨h15, h⟩ | ⟨h15, h⟩
                        · cases t3 with
                          | nil =>
                            cases h
                          | mk n11 t6 t7 =>
                            rcases cond_of h with ⟨h16, h⟩ | ⟨h16, h⟩
                            · have h := some_of h
                              subst h
                              have t_ := tR (kinfolkref02_Leaf_runs 0 _ h1) <| tR (kinfolkref05_Get_2_runs 1 l n _ h2) <| tF (not_of2 h3) <| tF h4 <| tF h5 <| tR (kinfolkref05_Get_2_runs 2 l_ n3 _ h6) <| tL q_7 <| tF (not_of2 h8) <| tL q_9 <| tL q_10 <| tT h11 <| tR (kinfolkref07_zero_runs (T_kinfolkref02_Event.mk n10 t4 t5) _ h12) <| tF h13 <| tF h14 <| tF (rfl : false = false) <| tT h15 <| tT h16 <| tT (rfl : true = true) <| tN
                              exact runs_of (C := cfg) (objs := [[(.pv (.bools l false)), (.pv (.int .i64 n))]]) (sc := t_.ev) (.k1 t_.pf (by kernel_rfl) (by kernel_rfl))
                            · cases t4 with
                              | nil =>
                                cases t6 with
                                | nil =>
                                  rcases cond_of h with ⟨h17, h⟩ | ⟨h17, h⟩
                                  · have h := some_of h
                                    subst h
                                    have t_ := tR (kinfolkref02_Leaf_runs 0 _ h1) <| tR (kinfolkref05_Get_2_runs 1 l n _ h2) <| tF (not_of2 h3) <| tF h4 <| tF h5 <| tR (kinfolkref05_Get_2_runs 2 l_ n3 _ h6) <| tL q_7 <| tF (not_of2 h8) <| tL q_9 <| tL q_10 <| tT h11 <| tR (kinfolkref07_zero_runs (T_kinfolkref02_Event.mk n10 T_kinfolkref02_Event.nil t5) _ h12) <| tF h13 <| tF h14 <| tF (rfl : false = false) <| tT h15 <| tF h16 <| tT (rfl : true = true) <| tT (rfl : true = true) <| tT h17 <| tN
                                    exact runs_of (C := cfg) (objs := [[(.pv (.bools l false)), (.pv (.int .i64 n))]]) (sc := t_.ev) (.k0 t_.pf (by kernel_rfl))
                                  · obtain ⟨n12, h18, h⟩ := bind_of h
                                    have q_18 := (Runs.coe (as' := [(.one (.pv (.imm [(.int .u64 n6), (T_kinfolkref02_Event.pv (T_kinfolkref02_Event.mk n10 T_kinfolkref02_Event.nil t5)), (T_kinfolkref02_Event.pv (T_kinfolkref02_Event.mk n11 T_kinfolkref02_Event.nil t7))] 0)))]) (objs' := []) (rows' := []) (kinfolkref02_Max_runs N (T_kinfolkref02_Event.mk n6 (T_kinfolkref02_Event.mk n10 T_kinfolkref02_Event.nil t5) (T_kinfolkref02_Event.mk n11 T_kinfolkref02_Event.nil t7)) _ h18) ⟨.eq rfl, trivial⟩ trivial trivial)
                                    rcases cond_of h with ⟨h19, h⟩ | ⟨h19, h⟩
                                    · have h := some_of h
                                      subst h
                                      have t_ := tR (kinfolkref02_Leaf_runs 0 _ h1) <| tR (kinfolkref05_Get_2_runs 1 l n _ h2) <| tF (not_of2 h3) <| tF h4 <| tF h5 <| tR (kinfolkref05_Get_2_runs 2 l_ n3 _ h6) <| tL q_7 <| tF (not_of2 h8) <| tL q_9 <| tL q_10 <| tT h11 <| tR (kinfolkref07_zero_runs (T_kinfolkref02_Event.mk n10 T_kinfolkref02_Event.nil t5) _ h12) <| tF h13 <| tF h14 <| tF (rfl : false = false) <| tT h15 <| tF h16 <| tT (rfl : true = true) <| tT (rfl : true = true) <| tF h17 <| tR q_18 <| tT h19 <| tN
                                      exact runs_of (C := cfg) (objs := [[(.pv (.bools l false)), (.pv (.int .i64 n))]]) (sc := t_.ev) (.k0 t_.pf (by kernel_rfl))
                                    · have h := some_of h
                                      subst h
                                      have t_ := tR (kinfolkref02_Leaf_runs 0 _ h1) <| tR (kinfolkref05_Get_2_runs 1 l n _ h2) <| tF (not_of2 h3) <| tF h4 <| tF h5 <| tR (kinfolkref05_Get_2_runs 2 l_ n3 _ h6) <| tL q_7 <| tF (not_of2 h8) <| tL q_9 <| tL q_10 <| tT h11 <| tR (kinfolkref07_zero_runs (T_kinfolkref02_Event.mk n10 T_kinfolkref02_Event.nil t5) _ h12) <| tF h13 <| tF h14 <| tF (rfl : false = false) <| tT h15 <| tF h16 <| tT (rfl : true = true) <| tT (rfl : true = true) <| tF h17 <| tR q_18 <| tF h19 <| tN
                                      have e_ : Runs Tryd.prog 77 [(.one (.ref 0 0)), (.one (.pv (.int .i64 depth)))] [[(.pv (.bools l false)), (.pv (.int .i64 n))]] [] ([(.one (.pv (.imm [(.int .u64 n6), (T_kinfolkref02_Event.pv (T_kinfolkref02_Event.mk n10 T_kinfolkref02_Event.nil t5)), (T_kinfolkref02_Event.pv (T_kinfolkref02_Event.mk n11 T_kinfolkref02_Event.nil t7))] 0))), (.one (.pv (.int .i64 0)))], [[(.pv (.bools l_5 false)), (.pv (.int .i64 n9))]], []) := runs_of (C := cfg) (objs := [[(.pv (.bools l false)), (.pv (.int .i64 n))]]) (sc := t_.ev) (.k0 t_.pf (by kernel_rfl))
                                      exact e_.out ⟨.eq rfl, .eq rfl, trivial⟩ ⟨⟨.eq rfl, .eq rfl, trivial⟩, trivial⟩ trivial rfl
                                | mk n12 t8 t9 =>
                                  obtain ⟨n13, h17, h⟩ := bind_of h
                                  have q_17 := (Runs.coe (as' := [(.one (.pv (.imm [(.int .u64 n6), (T_kinfolkref02_Event.pv (T_kinfolkref02_Event.mk n10 T_kinfolkref02_Event.nil t5)), (T_kinfolkref02_Event.pv (T_kinfolkref02_Event.mk n11 (T_kinfolkref02_Event.mk n12 t8 t9) t7))] 0)))]) (objs' := []) (rows' := []) (kinfolkref02_Max_runs N (T_kinfolkref02_Event.mk n6 (T_kinfolkref02_Event.mk n10 T_kinfolkref02_Event.nil t5) (T_kinfolkref02_Event.mk n11 (T_kinfolkref02_Event.mk n12 t8 t9) t7)) _ h17) ⟨.eq rfl, trivial⟩ trivial trivial)
                                  rcases cond_of h with ⟨h18, h⟩ | ⟨h18, h⟩
                                  · have h := some_of h
                                    subst h
                                    have t_ := tR (kinfolkref02_Leaf_runs 0 _ h1) <| tR (kinfolkref05_Get_2_runs 1 l n _ h2) <| tF (not_of2 h3) <| tF h4 <| tF h5 <| tR (kinfolkref05_Get_2_runs 2 l_ n3 _ h6) <| tL q_7 <| tF (not_of2 h8) <| tL q_9 <| tL q_10 <| tT h11 <| tR (kinfolkref07_zero_runs (T_kinfolkref02_Event.mk n10 T_kinfolkref02_Event.nil t5) _ h12) <| tF h13 <| tF h14 <| tF (rfl : false = false) <| tT h15 <| tF h16 <| tT (rfl : true = true) <| tF (rfl : false = false) <| tF (rfl : false = false) <| tR q_17 <| tT h18 <| tN
                                    exact runs_of (C := cfg) (objs := [[(.pv (.bools l false)), (.pv (.int .i64 n))]]) (sc := t_.ev) (.k1 t_.pf (by kernel_rfl) (by kernel_rfl))
                                  · have h := some_of h
                                    subst h
                                    have t_ := tR (kinfolkref02_Leaf_runs 0 _ h1) <| tR (kinfolkref05_Get_2_runs 1 l n _ h2) <| tF (not_of2 h3) <| tF h4 <| tF h5 <| tR (kinfolkref05_Get_2_runs 2 l_ n3 _ h6) <| tL q_7 <| tF (not_of2 h8) <| tL q_9 <| tL q_10 <| tT h11 <| tR (kinfolkref07_zero_runs (T_kinfolkref02_Event.mk n10 T_kinfolkref02_Event.nil t5) _ h12) <| tF h13 <| tF h14 <| tF (rfl : false = false) <| tT h15 <| tF h16 <| tT (rfl : true = true) <| tF (rfl : false = false) <| tF (rfl : false = false) <| tR q_17 <| tF h18 <| tN
                                    have e_ : Runs Tryd.prog 77 [(.one (.ref 0 0)), (.one (.pv (.int .i64 depth)))] [[(.pv (.bools l false)), (.pv (.int .i64 n))]] [] ([(.one (.pv (.imm [(.int .u64 n6), (T_kinfolkref02_Event.pv (T_kinfolkref02_Event.mk n10 T_kinfolkref02_Event.nil t5)), (T_kinfolkref02_Event.pv (T_kinfolkref02_Event.mk n11 (T_kinfolkref02_Event.mk n12 t8 t9) t7))] 0))), (.one (.pv (.int .i64 0)))], [[(.pv (.bools l_5 false)), (.pv (.int .i64 n9))]], []) := runs_of (C := cfg) (objs := [[(.pv (.bools l false)), (.pv (.int .i64 n))]]) (sc := t_.ev) (.k1 t_.pf (by kernel_rfl) (by kernel_rfl))
                                    exact e_.out ⟨.eq rfl, .eq rfl, trivial⟩ ⟨⟨.eq rfl, .eq rfl, trivial⟩, trivial⟩ trivial rfl
                              | mk n12 t8 t9 =>
                                obtain ⟨n13, h17, h⟩ := bind_of h
                                have q_17 := (Runs.coe (as' := [(.one (.pv (.imm [(.int .u64 n6), (T_kinfolkref02_Event.pv (T_kinfolkref02_Event.mk n10 (T_kinfolkref02_Event.mk n12 t8 t9) t5)), (T_kinfolkref02_Event.pv (T_kinfolkref02_Event.mk n11 t6 t7))] 0)))]) (objs' := []) (rows' := []) (kinfolkref02_Max_runs N (T_kinfolkref02_Event.mk n6 (T_kinfolkref02_Event.mk n10 (T_kinfolkref02_Event.mk n12 t8 t9) t5) (T_kinfolkref02_Event.mk n11 t6 t7)) _ h17) ⟨.eq rfl, trivial⟩ trivial trivial)
                                rcases cond_of h with ⟨h18, h⟩ | ⟨h18, h⟩
                                · have h := some_of h
                                  subst h
                                  have t_ := tR (kinfolkref02_Leaf_runs 0 _ h1) <| tR (kinfolkref05_Get_2_runs 1 l n _ h2) <| tF (not_of2 h3) <| tF h4 <| tF h5 <| tR (kinfolkref05_Get_2_runs 2 l_ n3 _ h6) <| tL q_7 <| tF (not_of2 h8) <| tL q_9 <| tL q_10 <| tT h11 <| tR (kinfolkref07_zero_runs (T_kinfolkref02_Event.mk n10 (T_kinfolkref02_Event.mk n12 t8 t9) t5) _ h12) <| tF h13 <| tF h14 <| tF (rfl : false = false) <| tT h15 <| tF h16 <| tF (rfl : false = false) <| tF (rfl : false = false) <| tF (rfl : false = false) <| tR q_17 <| tT h18 <| tN
                                  exact runs_of (C := cfg) (objs := [[(.pv (.bools l false)), (.pv (.int .i64 n))]]) (sc := t_.ev) (.k1 t_.pf (by kernel_rfl) (by kernel_rfl))
                                · have h := some_of h
                                  subst h
                                  have t_ := tR (kinfolkref02_Leaf_runs 0 _ h1) <| tR (kinfolkref05_Get_2_runs 1 l n _ h2) <| tF (not_of2 h3) <| tF h4 <| tF h5 <| tR (kinfolkref05_Get_2_runs 2 l_ n3 _ h6) <| tL q_7 <| tF (not_of2 h8) <| tL q_9 <| tL q_10 <| tT h11 <| tR (kinfolkref07_zero_runs (T_kinfolkref02_Event.mk n10 (T_kinfolkref02_Event.mk n12 t8 t9) t5) _ h12) <| tF h13 <| tF h14 <| tF (rfl : false = false) <| tT h15 <| tF h16 <| tF (rfl : false = false) <| tF (rfl : false = false) <| tF (rfl : false = false) <| tR q_17 <| tF h18 <| tN
                                  have e_ : Runs Tryd.prog 77 [(.one (.ref 0 0)), (.one (.pv (.int .i64 depth)))] [[(.pv (.bools l false)), (.pv (.int .i64 n))]] [] ([(.one (.pv (.imm [(.int .u64 n6), (T_kinfolkref02_Event.pv (T_kinfolkref02_Event.mk n10 (T_kinfolkref02_Event.mk n12 t8 t9) t5)), (T_kinfolkref02_Event.pv (T_kinfolkref02_Event.mk n11 t6 t7))] 0))), (.one (.pv (.int .i64 0)))], [[(.pv (.bools l_5 false)), (.pv (.int .i64 n9))]], []) := runs_of (C := cfg) (objs := [[(.pv (.bools l false)), (.pv (.int .i64 n))]]) (sc := t_.ev) (.k1 t_.pf (by kernel_rfl) (by kernel_rfl))
                                  exact e_.out ⟨.eq rfl, .eq rfl, trivial⟩ ⟨⟨.eq rfl, .eq rfl, trivial⟩, trivial⟩ trivial rfl
                        · cases t4 with
                          | nil =>
                            cases t3 with
                            | nil =>
                              cases h
                            | mk n11 t6 t7 =>
                              cases t6 with
                              | nil =>
                                rcases cond_of h with ⟨h16, h⟩ | ⟨h16, h⟩
                                · have h := some_of h
                                  subst h
                                  have t_ := tR (kinfolkref02_Leaf_runs 0 _ h1) <| tR (kinfolkref05_Get_2_runs 1 l n _ h2) <| tF (not_of2 h3) <| tF h4 <| tF h5 <| tR (kinfolkref05_Get_2_runs 2 l_ n3 _ h6) <| tL q_7 <| tF (not_of2 h8) <| tL q_9 <| tL q_10 <| tT h11 <| tR (kinfolkref07_zero_runs (T_kinfolkref02_Event.mk n10 T_kinfolkref02_Event.nil t5) _ h12) <| tF h13 <| tF h14 <| tF (rfl : false = false) <| tF h15 <| tF (rfl : false = false) <| tT (rfl : true = true) <| tT (rfl : true = true) <| tT h16 <| tN
                                  exact runs_of (C := cfg) (objs := [[(.pv (.bools l false)), (.pv (.int .i64 n))]]) (sc := t_.ev) (.k0 t_.pf (by kernel_rfl))
                                · obtain ⟨n12, h17, h⟩ := bind_of h
                                  have q_17 := (Runs.coe (as' := [(.one (.pv (.imm [(.int .u64 n6), (T_kinfolkref02_Event.pv (T_kinfolkref02_Event.mk n10 T_kinfolkref02_Event.nil t5)), (T_kinfolkref02_Event.pv (T_kinfolkref02_Event.mk n11 T_kinfolkref02_Event.nil t7))] 0)))]) (objs' := []) (rows' := []) (kinfolkref02_Max_runs N (T_kinfolkref02_Event.mk n6 (T_kinfolkref02_Event.mk n10 T_kinfolkref02_Event.nil t5) (T_kinfolkref02_Event.mk n11 T_kinfolkref02_Event.nil t7)) _ h17) ⟨.eq rfl, trivial⟩ trivial trivial)
                                  rcases cond_of h with ⟨h18, h⟩ | ⟨h18, h⟩
                                  · have h := some_of h
                                    subst h
                                    have t_ := tR (kinfolkref02_Leaf_runs 0 _ h1) <| tR (kinfolkref05_Get_2_runs 1 l n _ h2) <| tF (not_of2 h3) <| tF h4 <| tF h5 <| tR (kinfolkref05_Get_2_runs 2 l_ n3 _ h6) <| tL q_7 <| tF (not_of2 h8) <| tL q_9 <| tL q_10 <| tT h11 <| tR (kinfolkref07_zero_runs (T_kinfolkref02_Event.mk n10 T_kinfolkref02_Event.nil t5) _ h12) <| tF h13 <| tF h14 <| tF (rfl : false = false) <| tF h15 <| tF (rfl : false = false) <| tT (rfl : true = true) <| tT (rfl : true = true) <| tF h16 <| tR q_17 <| tT h18 <| tN
                                    exact runs_of (C := cfg) (objs := [[(.pv (.bools l false)), (.pv (.int .i64 n))]]) (sc := t_.ev) (.k0 t_.pf (by kernel_rfl))
                                  · have h := some_of h
                                    subst h
                                    have t_ := tR (kinfolkref02_Leaf_runs 0 _ h1) <| tR (kinfolkref05_Get_2_runs 1 l n _ h2) <| tF (not_of2 h3) <| tF h4 <| tF h5 <| tR (kinfolkref05_Get_2_runs 2 l_ n3 _ h6) <| tL q_7 <| tF (not_of2 h8) <| tL q_9 <| tL q_10 <| tT h11 <| tR (kinfolkref07_zero_runs (T_kinfolkref02_Event.mk n10 T_kinfolkref02_Event.nil t5) _ h12) <| tF h13 <| tF h14 <| tF (rfl : false = false) <| tF h15 <| tF (rfl : false = false) <| tT (rfl : true = true) <| tT (rfl : true = true) <| tF h16 <| tR q_17 <| tF h18 <| tN
                                    have e_ : Runs Tryd.prog 77 [(.one (.ref 0 0)), (.one (.pv (.int .i64 depth)))] [[(.pv (.bools l false)), (.pv (.int .i64 n))]] [] ([(.one (.pv (.imm [(.int .u64 n6), (T_kinfolkref02_Event.pv (T_kinfolkref02_Event.mk n10 T_kinfolkref02_Event.nil t5)), (T_kinfolkref02_Event.pv (T_kinfolkref02_Event.mk n11 T_kinfolkref02_Event.nil t7))] 0))), (.one (.pv (.int .i64 0)))], [[(.pv (.bools l_5 false)), (.pv (.int .i64 n9))]], []) := runs_of (C := cfg) (objs := [[(.pv (.bools l false)), (.pv (.int .i64 n))]]) (sc := t_.ev) (.k0 t_.pf (by kernel_rfl))
                                    exact e_.out ⟨.eq rfl, .eq rfl, trivial⟩ ⟨⟨.eq rfl, .eq rfl, trivial⟩, trivial⟩ trivial rfl
                              | mk n12 t8 t9 =>
                                obtain ⟨n13, h16, h⟩ := bind_of h
                                have q_16 := (Runs.coe (as' := [(.one (.pv (.imm [(.int .u64 n6), (T_kinfolkref02_Event.pv (T_kinfolkref02_Event.mk n10 T_kinfolkref02_Event.nil t5)), (T_kinfolkref02_Event.pv (T_kinfolkref02_Event.mk n11 (T_kinfolkref02_Event.mk n12 t8 t9) t7))] 0)))]) (objs' := []) (rows' := []) (kinfolkref02_Max_runs N (T_kinfolkref02_Event.mk n6 (T_kinfolkref02_Event.mk n10 T_kinfolkref02_Event.nil t5) (T_kinfolkref02_Event.mk n11 (T_kinfolkref02_Event.mk n12 t8 t9) t7)) _ h16) ⟨.eq rfl, trivial⟩ trivial trivial)
                                rcases cond_of h with ⟨h17, h⟩ | ⟨h17, h⟩
                                · have h := some_of h
                                  subst h
                                  have t_ := tR (kinfolkref02_Leaf_runs 0 _ h1) <| tR (kinfolkref05_Get_2_runs 1 l n _ h2) <| tF (not_of2 h3) <| tF h4 <| tF h5 <| tR (kinfolkref05_Get_2_runs 2 l_ n3 _ h6) <| tL q_7 <| tF (not_of2 h8) <| tL q_9 <| tL q_10 <| tT h11 <| tR (kinfolkref07_zero_runs (T_kinfolkref02_Event.mk n10 T_kinfolkref02_Event.nil t5) _ h12) <| tF h13 <| tF h14 <| tF (rfl : false = false) <| tF h15 <| tF (rfl : false = false) <| tT (rfl : true = true) <| tF (rfl : false = false) <| tF (rfl : false = false) <| tR q_16 <| tT h17 <| tN
                                  exact runs_of (C := cfg) (objs := [[(.pv (.bools l false)), (.pv (.int .i64 n))]]) (sc := t_.ev) (.k1 t_.pf (by kernel_rfl) (by kernel_rfl))
                                · have h := some_of h
                                  subst h
                                  have t_ := tR (kinfolkref02_Leaf_runs 0 _ h1) <| tR (kinfolkref05_Get_2_runs 1 l n _ h2) <| tF (not_of2 h3) <| tF h4 <| tF h5 <| tR (kinfolkref05_Get_2_runs 2 l_ n3 _ h6) <| tL q_7 <| tF (not_of2 h8) <| tL q_9 <| tL q_10 <| tT h11 <| tR (kinfolkref07_zero_runs (T_kinfolkref02_Event.mk n10 T_kinfolkref02_Event.nil t5) _ h12) <| tF h13 <| tF h14 <| tF (rfl : false = false) <| tF h15 <| tF (rfl : false = false) <| tT (rfl : true = true) <| tF (rfl : false = false) <| tF (rfl : false = false) <| tR q_16 <| tF h17 <| tN
                                  have e_ : Runs Tryd.prog 77 [(.one (.ref 0 0)), (.one (.pv (.int .i64 depth)))] [[(.pv (.bools l false)), (.pv (.int .i64 n))]] [] ([(.one (.pv (.imm [(.int .u64 n6), (T_kinfolkref02_Event.pv (T_kinfolkref02_Event.mk n10 T_kinfolkref02_Event.nil t5)), (T_kinfolkref02_Event.pv (T_kinfolkref02_Event.mk n11 (T_kinfolkref02_Event.mk n12 t8 t9) t7))] 0))), (.one (.pv (.int .i64 0)))], [[(.pv (.bools l_5 false)), (.pv (.int .i64 n9))]], []) := runs_of (C := cfg) (objs := [[(.pv (.bools l false)), (.pv (.int .i64 n))]]) (sc := t_.ev) (.k1 t_.pf (by kernel_rfl) (by kernel_rfl))
                                  exact e_.out ⟨.eq rfl, .eq rfl, trivial⟩ ⟨⟨.eq rfl, .eq rfl, trivial⟩, trivial⟩ trivial rfl
                          | mk n11 t6 t7 =>
                            obtain ⟨n12, h16, h⟩ := bind_of h
                            have q_16 := (Runs.coe (as' := [(.one (.pv (.imm [(.int .u64 n6), (T_kinfolkref02_Event.pv (T_kinfolkref02_Event.mk n10 (T_kinfolkref02_Event.mk n11 t6 t7) t5)), (T_kinfolkref02_Event.pv t3)] 0)))]) (objs' := []) (rows' := []) (kinfolkref02_Max_runs N (T_kinfolkref02_Event.mk n6 (T_kinfolkref02_Event.mk n10 (T_kinfolkref02_Event.mk n11 t6 t7) t5) t3) _ h16) ⟨.eq rfl, trivial⟩ trivial trivial)
                            rcases cond_of h with ⟨h17, h⟩ | ⟨h17, h⟩
                            · have h := some_of h
                              subst h
                              have t_ := tR (kinfolkref02_Leaf_runs 0 _ h1) <| tR (kinfolkref05_Get_2_runs 1 l n _ h2) <| tF (not_of2 h3) <| tF h4 <| tF h5 <| tR (kinfolkref05_Get_2_runs 2 l_ n3 _ h6) <| tL q_7 <| tF (not_of2 h8) <| tL q_9 <| tL q_10 <| tT h11 <| tR (kinfolkref07_zero_runs (T_kinfolkref02_Event.mk n10 (T_kinfolkref02_Event.mk n11 t6 t7) t5) _ h12) <| tF h13 <| tF h14 <| tF (rfl : false = false) <| tF h15 <| tF (rfl : false = false) <| tF (rfl : false = false) <| tF (rfl : false = false) <| tF (rfl : false = false) <| tR q_16 <| tT h17 <| tN
                              exact runs_of (C := cfg) (objs := [[(.pv (.bools l false)), (.pv (.int .i64 n))]]) (sc := t_.ev) (.k1 t_.pf (by kernel_rfl) (by kernel_rfl))
                            · have h := some_of h
                              subst h
                              have t_ := tR (kinfolkref02_Leaf_runs 0 _ h1) <| tR (kinfolkref05_Get_2_runs 1 l n _ h2) <| tF (not_of2 h3) <| tF h4 <| tF h5 <| tR (kinfolkref05_Get_2_runs 2 l_ n3 _ h6) <| tL q_7 <| tF (not_of2 h8) <| tL q_9 <| tL q_10 <| tT h11 <| tR (kinfolkref07_zero_runs (T_kinfolkref02_Event.mk n10 (T_kinfolkref02_Event.mk n11 t6 t7) t5) _ h12) <| tF h13 <| tF h14 <| tF (rfl : false = false) <| tF h15 <| tF (rfl : false = false) <| tF (rfl : false = false) <| tF (rfl : false = false) <| tF (rfl : false = false) <| tR q_16 <| tF h17 <| tN
                              have e_ : Runs Tryd.prog 77 [(.one (.ref 0 0)), (.one (.pv (.int .i64 depth)))] [[(.pv (.bools l false)), (.pv (.int .i64 n))]] [] ([(.one (.pv (.imm [(.int .u64 n6), (T_kinfolkref02_Event.pv (T_kinfolkref02_Event.mk n10 (T_kinfolkref02_Event.mk n11 t6 t7) t5)), (T_kinfolkref02_Event.pv t3)] 0))), (.one (.pv (.int .i64 0)))], [[(.pv (.bools l_5 false)), (.pv (.int .i64 n9))]], []) := runs_of (C := cfg) (objs := [[(.pv (.bools l false)), (.pv (.int .i64 n))]]) (sc := t_.ev) (.k1 t_.pf (by kernel_rfl) (by kernel_rfl))
                              exact e_.out ⟨.eq rfl, .eq rfl, trivial⟩ ⟨⟨.eq rfl, .eq rfl, trivial⟩, trivial⟩ trivial rfl
                · rcases cond_of h with ⟨h12, h⟩ | ⟨h12, h⟩
                  · obtain ⟨b3, h13, h⟩ := bind_of h
                    rcases cond_of h with ⟨h14, h⟩ | ⟨h14, h⟩
                    · have h := some_of h
                      subst h
                      have t_ := tR (kinfolkref02_Leaf_runs 0 _ h1) <| tR (kinfolkref05_Get_2_runs 1 l n _ h2) <| tF (not_of2 h3) <| tF h4 <| tF h5 <| tR (kinfolkref05_Get_2_runs 2 l_ n3 _ h6) <| tL q_7 <| tF (not_of2 h8) <| tL q_9 <| tL q_10 <| tF h11 <| tF (rfl : false = false) <| tT h12 <| tR (kinfolkref07_zero_runs t3 _ h13) <| tT h14 <| tT (rfl : true = true) <| tT (rfl : true = true) <| tN
                      exact runs_of (C := cfg) (objs := [[(.pv (.bools l false)), (.pv (.int .i64 n))]]) (sc := t_.ev) (.k1 t_.pf (by kernel_rfl) (by kernel_rfl))
                    · cases t2 with
                      | nil =>
                        cases h
                      | mk n10 t4 t5 =>
                        rcases cond_of h with ⟨h15, h⟩ | ⟨h15, h⟩
                        · cases t3 with
                          | nil =>
                            cases h
                          | mk n11 t6 t7 =>
                            rcases cond_of h with ⟨h16, h⟩ | ⟨h16, h⟩
                            · have h := some_of h
                              subst h
                              have t_ := tR (kinfolkref02_Leaf_runs 0 _ h1) <| tR (kinfolkref05_Get_2_runs 1 l n _ h2) <| tF (not_of2 h3) <| tF h4 <| tF h5 <| tR (kinfolkref05_Get_2_runs 2 l_ n3 _ h6) <| tL q_7 <| tF (not_of2 h8) <| tL q_9 <| tL q_10 <| tF h11 <| tF (rfl : false = false) <| tT h12 <| tR (kinfolkref07_zero_runs (T_kinfolkref02_Event.mk n11 t6 t7) _ h13) <| tF h14 <| tT h15 <| tT h16 <| tT (rfl : true = true) <| tN
                              exact runs_of (C := cfg) (objs := [[(.pv (.bools l false)), (.pv (.int .i64 n))]]) (sc := t_.ev) (.k1 t_.pf (by kernel_rfl) (by kernel_rfl))
                            · cases t4 with
                              | nil =>
                                cases t6 with
                                | nil =>
                                  rcases cond_of h with ⟨h17, h⟩ | ⟨h17, h⟩
                                  · have h := some_of h
                                    subst h
                                    have t_ := tR (kinfolkref02_Leaf_runs 0 _ h1) <| tR (kinfolkref05_Get_2_runs 1 l n _ h2) <| tF (not_of2 h3) <| tF h4 <| tF h5 <| tR (kinfolkref05_Get_2_runs 2 l_ n3 _ h6) <| tL q_7 <| tF (not_of2 h8) <| tL q_9 <| tL q_10 <| tF h11 <| tF (rfl : false = false) <| tT h12 <| tR (kinfolkref07_zero_runs (T_kinfolkref02_Event.mk n11 T_kinfolkref02_Event.nil t7) _ h13) <| tF h14 <| tT h15 <| tF h16 <| tT (rfl : true = true) <| tT (rfl : true = true) <| tT h17 <| tN
                                    exact runs_of (C := cfg) (objs := [[(.pv (.bools l false)), (.pv (.int .i64 n))]]) (sc := t_.ev) (.k0 t_.pf (by kernel_rfl))
                                  · obtain ⟨n12, h18, h⟩ := bind_of h
                                    have q_18 := (Runs.coe (as' := [(.one (.pv (.imm [(.int .u64 n6), (T_kinfolkref02_Event.pv (T_kinfolkref02_Event.mk n10 T_kinfolkref02_Event.nil t5)), (T_kinfolkref02_Event.pv (T_kinfolkref02_Event.mk n11 T_kinfolkref02_Event.nil t7))] 0)))]) (objs' := []) (rows' := []) (kinfolkref02_Max_runs N (T_kinfolkref02_Event.mk n6 (T_kinfolkref02_Event.mk n10 T_kinfolkref02_Event.nil t5) (T_kinfolkref02_Event.mk n11 T_kinfolkref02_Event.nil t7)) _ h18) ⟨.eq rfl, trivial⟩ trivial trivial)
                                    rcases cond_of h with ⟨h19, h⟩ | ⟨h19, h⟩
                                    · have h := some_of h
                                      subst h
                                      have t_ := tR (kinfolkref02_Leaf_runs 0 _ h1) <| tR (kinfolkref05_Get_2_runs 1 l n _ h2) <| tF (not_of2 h3) <| tF h4 <| tF h5 <| tR (kinfolkref05_Get_2_runs 2 l_ n3 _ h6) <| tL q_7 <| tF (not_of2 h8) <| tL q_9 <| tL q_10 <| tF h11 <| tF (rfl : false = false) <| tT h12 <| tR (kinfolkref07_zero_runs (T_kinfolkref02_Event.mk n11 T_kinfolkref02_Event.nil t7) _ h13) <| tF h14 <| tT h15 <| tF h16 <| tT (rfl : true = true) <| tT (rfl : true = true) <| tF h17 <| tR q_18 <| tT h19 <| tN
                                      exact runs_of (C := cfg) (objs := [[(.pv (.bools l false)), (.pv (.int .i64 n))]]) (sc := t_.ev) (.k0 t_.pf (by kernel_rfl))
                                    · have h := some_of h
                                      subst h
                                      have t_ := tR (kinfolkref02_Leaf_runs 0 _ h1) <| tR (kinfolkref05_Get_2_runs 1 l n _ h2) <| tF (not_of2 h3) <| tF h4 <| tF h5 <| tR (kinfolkref05_Get_2_runs 2 l_ n3 _ h6) <| tL q_7 <| tF (not_of2 h8) <| tL q_9 <| tL q_10 <| tF h11 <| tF (rfl : false = false) <| tT h12 <| tR (kinfolkref07_zero_runs (T_kinfolkref02_Event.mk n11 T_kinfolkref02_Event.nil t7) _ h13) <| tF h14 <| tT h15 <| tF h16 <| tT (rfl : true = true) <| tT (rfl : true = true) <| tF h17 <| tR q_18 <| tF h19 <| tN
                                      have e_ : Runs Tryd.prog 77 [(.one (.ref 0 0)), (.one (.pv (.int .i64 depth)))] [[(.pv (.bools l false)), (.pv (.int .i64 n))]] [] ([(.one (.pv (.imm [(.int .u64 n6), (T_kinfolkref02_Event.pv (T_kinfolkref02_Event.mk n10 T_kinfolkref02_Event.nil t5)), (T_kinfolkref02_Event.pv (T_kinfolkref02_Event.mk n11 T_kinfolkref02_Event.nil t7))] 0))), (.one (.pv (.int .i64 0)))], [[(.pv (.bools l_5 false)), (.pv (.int .i64 n9))]], []) := runs_of (C := cfg) (objs := [[(.pv (.bools l false)), (.pv (.int .i64 n))]]) (sc := t_.ev) (.k0 t_.pf (by kernel_rfl))
                                      exact e_.out ⟨.eq rfl, .eq rfl, trivial⟩ ⟨⟨.eq rfl, .eq rfl, trivial⟩, trivial⟩ trivial rfl
                                | mk n12 t8 t9 =>
                                  obtain ⟨n13, h17, h⟩ := bind_of h
                                  have q_17 := (Runs.coe (as' := [(.one (.pv (.imm [(.int .u64 n6), (T_kinfolkref02_Event.pv (T_kinfolkref02_Event.mk n10 T_kinfolkref02_Event.nil t5)), (T_kinfolkref02_Event.pv (T_kinfolkref02_Event.mk n11 (T_kinfolkref02_Event.mk n12 t8 t9) t7))] 0)))]) (objs' := []) (rows' := []) (kinfolkref02_Max_runs N (T_kinfolkref02_Event.mk n6 (T_kinfolkref02_Event.mk n10 T_kinfolkref02_Event.nil t5) (T_kinfolkref02_Event.mk n11 (T_kinfolkref02_Event.mk n12 t8 t9) t7)) _ h17) ⟨.eq rfl, trivial⟩ trivial trivial)
                                  rcases cond_of h with ⟨h18, h⟩ | ⟨h18, h⟩
                                  · have h := some_of h
                                    subst h
                                    have t_ := tR (kinfolkref02_Leaf_runs 0 _ h1) <| tR (kinfolkref05_Get_2_runs 1 l n _ h2) <| tF (not_of2 h3) <| tF h4 <| tF h5 <| tR (kinfolkref05_Get_2_runs 2 l_ n3 _ h6) <| tL q_7 <| tF (not_of2 h8) <| tL q_9 <| tL q_10 <| tF h11 <| tF (rfl : false = false) <| tT h12 <| tR (kinfolkref07_zero_runs (T_kinfolkref02_Event.mk n11 (T_kinfolkref02_Event.mk n12 t8 t9) t7) _ h13) <| tF h14 <| tT h15 <| tF h16 <| tT (rfl : true = true) <| tF (rfl : false = false) <| tF (rfl : false = false) <| tR q_17 <| tT h18 <| tN
                                    exact runs_of (C := cfg) (objs := [[(.pv (.bools l false)), (.pv (.int .i64 n))]]) (sc := t_.ev) (.k1 t_.pf (by kernel_rfl) (by kernel_rfl))
                                  · have h := some_of h
                                    subst h
                                    have t_ := tR (kinfolkref02_Leaf_runs 0 _ h1) <| tR (kinfolkref05_Get_2_runs 1 l n _ h2) <| tF (not_of2 h3) <| tF h4 <| tF h5 <| tR (kinfolkref05_Get_2_runs 2 l_ n3 _ h6) <| tL q_7 <| tF (not_of2 h8) <| tL q_9 <| tL q_10 <| tF h11 <| tF (rfl : false = false) <| tT h12 <| tR (kinfolkref07_zero_runs (T_kinfolkref02_Event.mk n11 (T_kinfolkref02_Event.mk n12 t8 t9) t7) _ h13) <| tF h14 <| tT h15 <| tF h16 <| tT (rfl : true = true) <| tF (rfl : false = false) <| tF (rfl : false = false) <| tR q_17 <| tF h18 <| tN
                                    have e_ : Runs Tryd.prog 77 [(.one (.ref 0 0)), (.one (.pv (.int .i64 depth)))] [[(.pv (.bools l false)), (.pv (.int .i64 n))]] [] ([(.one (.pv (.imm [(.int .u64 n6), (T_kinfolkref02_Event.pv (T_kinfolkref02_Event.mk n10 T_kinfolkref02_Event.nil t5)), (T_kinfolkref02_Event.pv (T_kinfolkref02_Event.mk n11 (T_kinfolkref02_Event.mk n12 t8 t9) t7))] 0))), (.one (.pv (.int .i64 0)))], [[(.pv (.bools l_5 false)), (.pv (.int .i64 n9))]], []) := runs_of (C := cfg) (objs := [[(.pv (.bools l false)), (.pv (.int .i64 n))]]) (sc := t_.ev) (.k1 t_.pf (by kernel_rfl) (by kernel_rfl))
                                    exact e_.out ⟨.eq rfl, .eq rfl, trivial⟩ ⟨⟨.eq rfl, .eq rfl, trivial⟩, trivial⟩ trivial rfl
                              | mk n12 t8 t9 =>
                                obtain ⟨n13, h17, h⟩ := bind_of h
                                have q_17 := (Runs.coe (as' := [(.one (.pv (.imm [(.int .u64 n6), (T_kinfolkref02_Event.pv (T_kinfolkref02_Event.mk n10 (T_kinfolkref02_Event.mk n12 t8 t9) t5)), (T_kinfolkref02_Event.pv (T_kinfolkref02_Event.mk n11 t6 t7))] 0)))]) (objs' := []) (rows' := []) (kinfolkref02_Max_runs N (T_kinfolkref02_Event.mk n6 (T_kinfolkref02_Event.mk n10 (T_kinfolkref02_Event.mk n12 t8 t9) t5) (T_kinfolkref02_Event.mk n11 t6 t7)) _ h17) ⟨.eq rfl, trivial⟩ trivial trivial)
                                rcases cond_of h with ⟨h18, h⟩ | ⟨h18, h⟩
                                · have h := some_of h
                                  subst h
                                  have t_ := tR (kinfolkref02_Leaf_runs 0 _ h1) <| tR (kinfolkref05_Get_2_runs 1 l n _ h2) <| tF (not_of2 h3) <| tF h4 <| tF h5 <| tR (kinfolkref05_Get_2_runs 2 l_ n3 _ h6) <| tL q_7 <| tF (not_of2 h8) <| tL q_9 <| tL q_10 <| tF h11 <| tF (rfl : false = false) <| tT h12 <| tR (kinfolkref07_zero_runs (T_kinfolkref02_Event.mk n11 t6 t7) _ h13) <| tF h14 <| tT h15 <| tF h16 <| tF (rfl : false = false) <| tF (rfl : false = false) <| tF (rfl : false = false) <| tR q_17 <| tT h18 <| tN
                                  exact runs_of (C := cfg) (objs := [[(.pv (.bools l false)), (.pv (.int .i64 n))]]) (sc := t_.ev) (.k1 t_.pf (by kernel_rfl) (by kernel_rfl))
                                · have h := some_of h
                                  subst h
                                  have t_ := tR (kinfolkref02_Leaf_runs 0 _ h1) <| tR (kinfolkref05_Get_2_runs 1 l n _ h2) <| tF (not_of2 h3) <| tF h4 <| tF h5 <| tR (kinfolkref05_Get_2_runs 2 l_ n3 _ h6) <| tL q_7 <| tF (not_of2 h8) <| tL q_9 <| tL q_10 <| tF h11 <| tF (rfl : false = false) <| tT h12 <| tR (kinfolkref07_zero_runs (T_kinfolkref02_Event.mk n11 t6 t7) _ h13) <| tF h14 <| tT h15 <| tF h16 <| tF (rfl : false = false) <| tF (rfl : false = false) <| tF (rfl : false = false) <| tR q_17 <| tF h18 <| tN
                                  have e_ : Runs Tryd.prog 77 [(.one (.ref 0 0)), (.one (.pv (.int .i64 depth)))] [[(.pv (.bools l false)), (.pv (.int .i64 n))]] [] ([(.one (.pv (.imm [(.int .u64 n6), (T_kinfolkref02_Event.pv (T_kinfolkref02_Event.mk n10 (T_kinfolkref02_Event.mk n12 t8 t9) t5)), (T_kinfolkref02_Event.pv (T_kinfolkref02_Event.mk n11 t6 t7))] 0))), (.one (.pv (.int .i64 0)))], [[(.pv (.bools l_5 false)), (.pv (.int .i64 n9))]], []) := runs_of (C := cfg) (objs := [[(.pv (.bools l false)), (.pv (.int .i64 n))]]) (sc := t_.ev) (.k1 t_.pf (by kernel_rfl) (by kernel_rfl))
                                  exact e_.out ⟨.eq rfl, .eq rfl, trivial⟩ ⟨⟨.eq rfl, .eq rfl, trivial⟩, trivial⟩ trivial rfl
                        · cases t4 with
                          | nil =>
                            cases t3 with
                            | nil =>
                              cases h
                            | mk n11 t6 t7 =>
                              cases t6 with
                              | nil =>
                                rcases cond_of h with ⟨h16, h⟩ | ⟨h16, h⟩
                                · have h := some_of h
                                  subst h
                                  have t_ := tR (kinfolkref02_Leaf_runs 0 _ h1) <| tR (kinfolkref05_Get_2_runs 1 l n _ h2) <| tF (not_of2 h3) <| tF h4 <| tF h5 <| tR (kinfolkref05_Get_2_runs 2 l_ n3 _ h6) <| tL q_7 <| tF (not_of2 h8) <| tL q_9 <| tL q_10 <| tF h11 <| tF (rfl : false = false) <| tT h12 <| tR (kinfolkref07_zero_runs (T_kinfolkref02_Event.mk n11 T_kinfolkref02_Event.nil t7) _ h13) <| tF h14 <| tF h15 <| tF (rfl : false = false) <| tT (rfl : true = true) <| tT (rfl : true = true) <| tT h16 <| tN
                                  exact runs_of (C := cfg) (objs := [[(.pv (.bools l false)), (.pv (.int .i64 n))]]) (sc := t_.ev) (.k0 t_.pf (by kernel_rfl))
                                · obtain ⟨n12, h17, h⟩ := bind_of h
                                  have q_17 := (Runs.coe (as' := [(.one (.pv (.imm [(.int .u64 n6), (T_kinfolkref02_Event.pv (T_kinfolkref02_Event.mk n10 T_kinfolkref02_Event.nil t5)), (T_kinfolkref02_Event.pv (T_kinfolkref02_Event.mk n11 T_kinfolkref02_Event.nil t7))] 0)))]) (objs' := []) (rows' := []) (kinfolkref02_Max_runs N (T_kinfolkref02_Event.mk n6 (T_kinfolkref02_Event.mk n10 T_kinfolkref02_Event.nil t5) (T_kinfolkref02_Event.mk n11 T_kinfolkref02_Event.nil t7)) _ h17) ⟨.eq rfl, trivial⟩ trivial trivial)
                                  rcases cond_of h with ⟨h18, h⟩ | ⟨h18, h⟩
                                  · have h := some_of h
                                    subst h
                                    have t_ := tR (kinfolkref02_Leaf_runs 0 _ h1) <| tR (kinfolkref05_Get_2_runs 1 l n _ h2) <| tF (not_of2 h3) <| tF h4 <| tF h5 <| tR (kinfolkref05_Get_2_runs 2 l_ n3 _ h6) <| tL q_7 <| tF (not_of2 h8) <| tL q_9 <| tL q_10 <| tF h11 <| tF (rfl : false = false) <| tT h12 <| tR (kinfolkref07_zero_runs (T_kinfolkref02_Event.mk n11 T_kinfolkref02_Event.nil t7) _ h13) <| tF h14 <| tF h15 <| tF (rfl : false = false) <| tT (rfl : true = true) <| tT (rfl : true = true) <| tF h16 <| tR q_17 <| tT h18 <| tN
                                    exact runs_of (C := cfg) (objs := [[(.pv (.bools l false)), (.pv (.int .i64 n))]]) (sc := t_.ev) (.k0 t_.pf (by kernel_rfl))
                                  · have h := some_of h
                                    subst h
                                    have t_ := tR (kinfolkref02_Leaf_runs 0 _ h1) <| tR (kinfolkref05_Get_2_runs 1 l n _ h2) <| tF (not_of2 h3) <| tF h4 <| tF h5 <| tR (kinfolkref05_Get_2_runs 2 l_ n3 _ h6) <| tL q_7 <| tF (not_of2 h8) <| tL q_9 <| tL q_10 <| tF h11 <| tF (rfl : false = false) <| tT h12 <| tR (kinfolkref07_zero_runs (T_kinfolkref02_Event.mk n11 T_kinfolkref02_Event.nil t7) _ h13) <| tF h14 <| tF h15 <| tF (rfl : false = false) <| tT (rfl : true = true) <| tT (rfl : true = true) <| tF h16 <| tR q_17 <| tF h18 <| tN
                                    have e_ : Runs Tryd.prog 77 [(.one (.ref 0 0)), (.one (.pv (.int .i64 depth)))] [[(.pv (.bools l false)), (.pv (.int .i64 n))]] [] ([(.one (.pv (.imm [(.int .u64 n6), (T_kinfolkref02_Event.pv (T_kinfolkref02_Event.mk n10 T_kinfolkref02_Event.nil t5)), (T_kinfolkref02_Event.pv (T_kinfolkref02_Event.mk n11 T_kinfolkref02_Event.nil t7))] 0))), (.one (.pv (.int .i64 0)))], [[(.pv (.bools l_5 false)), (.pv (.int .i64 n9))]], []) := runs_of (C := cfg) (objs := [[(.pv (.bools l false)), (.pv (.int .i64 n))]]) (sc := t_.ev) (.k0 t_.pf (by kernel_rfl))
                                    exact e_.out ⟨.eq rfl, .eq rfl, trivial⟩ ⟨⟨.eq rfl, .eq rfl, trivial⟩, trivial⟩ trivial rfl
                              | mk n12 t8 t9 =>
                                obtain ⟨n13, h16, h⟩ := bind_of h
                                have q_16 := (Runs.coe (as' := [(.one (.pv (.imm [(.int .u64 n6), (T_kinfolkref02_Event.pv (T_kinfolkref02_Event.mk n10 T_kinfolkref02_Event.nil t5)), (T_kinfolkref02_Event.pv (T_kinfolkref02_Event.mk n11 (T_kinfolkref02_Event.mk n12 t8 t9) t7))] 0)))]) (objs' := []) (rows' := []) (kinfolkref02_Max_runs N (T_kinfolkref02_Event.mk n6 (T_kinfolkref02_Event.mk n10 T_kinfolkref02_Event.nil t5) (T_kinfolkref02_Event.mk n11 (T_kinfolkref02_Event.mk n12 t8 t9) t7)) _ h16) ⟨.eq rfl, trivial⟩ trivial trivial)
                                rcases cond_of h with ⟨h17, h⟩ | ⟨h17, h⟩
                                · have h := some_of h
                                  subst h
                                  have t_ := tR (kinfolkref02_Leaf_runs 0 _ h1) <| tR (kinfolkref05_Get_2_runs 1 l n _ h2) <| tF (not_of2 h3) <| tF h4 <| tF h5 <| tR (kinfolkref05_Get_2_runs 2 l_ n3 _ h6) <| tL q_7 <| tF (not_of2 h8) <| tL q_9 <| tL q_10 <| tF h11 <| tF (rfl : false = false) <| tT h12 <| tR (kinfolkref07_zero_runs (T_kinfolkref02_Event.mk n11 (T_kinfolkref02_Event.mk n12 t8 t9) t7) _ h13) <| tF h14 <| tF h15 <| tF (rfl : false = false) <| tT (rfl : true = true) <| tF (rfl : false = false) <| tF (rfl : false = false) <| tR q_16 <| tT h17 <| tN
                                  exact runs_of (C := cfg) (objs := [[(.pv (.bools l false)), (.pv (.int .i64 n))]]) (sc := t_.ev) (.k1 t_.pf (by kernel_rfl) (by kernel_rfl))
                                · have h := some_of h
                                  subst h
                                  have t_ := tR (kinfolkref02_Leaf_runs 0 _ h1) <| tR (kinfolkref05_Get_2_runs 1 l n _ h2) <| tF (not_of2 h3) <| tF h4 <| tF h5 <| tR (kinfolkref05_Get_2_runs 2 l_ n3 _ h6) <| tL q_7 <| tF (not_of2 h8) <| tL q_9 <| tL q_10 <| tF h11 <| tF (rfl : false = false) <| tT h12 <| tR (kinfolkref07_zero_runs (T_kinfolkref02_Event.mk n11 (T_kinfolkref02_Event.mk n12 t8 t9) t7) _ h13) <| tF h14 <| tF h15 <| tF (rfl : false = false) <| tT (rfl : true = true) <| tF (rfl : false = false) <| tF (rfl : false = false) <| tR q_16 <| tF h17 <| tN
                                  have e_ : Runs Tryd.prog 77 [(.one (.ref 0 0)), (.one (.pv (.int .i64 depth)))] [[(.pv (.bools l false)), (.pv (.int .i64 n))]] [] ([(.one (.pv (.imm [(.int .u64 n6), (T_kinfolkref02_Event.pv (T_kinfolkref02_Event.mk n10 T_kinfolkref02_Event.nil t5)), (T_kinfolkref02_Event.pv (T_kinfolkref02_Event.mk n11 (T_kinfolkref02_Event.mk n12 t8 t9) t7))] 0))), (.one (.pv (.int .i64 0)))], [[(.pv (.bools l_5 false)), (.pv (.int .i64 n9))]], []) := runs_of (C := cfg) (objs := [[(.pv (.bools l false)), (.pv (.int .i64 n))]]) (sc := t_.ev) (.k1 t_.pf (by kernel_rfl) (by kernel_rfl))
                                  exact e_.out ⟨.eq rfl, .eq rfl, trivial⟩ ⟨⟨.eq rfl, .eq rfl, trivial⟩, trivial⟩ trivial rfl
                          | mk n11 t6 t7 =>
                            obtain ⟨n12, h16, h⟩ := bind_of h
                            have q_16 := (Runs.coe (as' := [(.one (.pv (.imm [(.int .u64 n6), (T_kinfolkref02_Event.pv (T_kinfolkref02_Event.mk n10 (T_kinfolkref02_Event.mk n11 t6 t7) t5)), (T_kinfolkref02_Event.pv t3)] 0)))]) (objs' := []) (rows' := []) (kinfolkref02_Max_runs N (T_kinfolkref02_Event.mk n6 (T_kinfolkref02_Event.mk n10 (T_kinfolkref02_Event.mk n11 t6 t7) t5) t3) _ h16) ⟨.eq rfl, trivial⟩ trivial trivial)
                            rcases cond_of h with ⟨h17, h⟩ | ⟨h17, h⟩
                            · have h := some_of h
                              subst h
                              have t_ := tR (kinfolkref02_Leaf_runs 0 _ h1) <| tR (kinfolkref05_Get_2_runs 1 l n _ h2) <| tF (not_of2 h3) <| tF h4 <| tF h5 <| tR (kinfolkref05_Get_2_runs 2 l_ n3 _ h6) <| tL q_7 <| tF (not_of2 h8) <| tL q_9 <| tL q_10 <| tF h11 <| tF (rfl : false = false) <| tT h12 <| tR (kinfolkref07_zero_runs t3 _ h13) <| tF h14 <| tF h15 <| tF (rfl : false = false) <| tF (rfl : false = false) <| tF (rfl : false = false) <| tF (rfl : false = false) <| tR q_16 <| tT h17 <| tN
                              exact runs_of (C := cfg) (objs := [[(.pv (.bools l false)), (.pv (.int .i64 n))]]) (sc := t_.ev) (.k1 t_.pf (by kernel_rfl) (by kernel_rfl))
                            · have h := some_of h
                              subst h
                              have t_ := tR (kinfolkref02_Leaf_runs 0 _ h1) <| tR (kinfolkref05_Get_2_runs 1 l n _ h2) <| tF (not_of2 h3) <| tF h4 <| tF h5 <| tR (kinfolkref05_Get_2_runs 2 l_ n3 _ h6) <| tL q_7 <| tF (not_of2 h8) <| tL q_9 <| tL q_10 <| tF h11 <| tF (rfl : false = false) <| tT h12 <| tR (kinfolkref07_zero_runs t3 _ h13) <| tF h14 <| tF h15 <| tF (rfl : false = false) <| tF (rfl : false = false) <| tF (rfl : false = false) <| tF (rfl : false = false) <| tR q_16 <| tF h17 <| tN
                              have e_ : Runs Tryd.prog 77 [(.one (.ref 0 0)), (.one (.pv (.int .i64 depth)))] [[(.pv (.bools l false)), (.pv (.int .i64 n))]] [] ([(.one (.pv (.imm [(.int .u64 n6), (T_kinfolkref02_Event.pv (T_kinfolkref02_Event.mk n10 (T_kinfolkref02_Event.mk n11 t6 t7) t5)), (T_kinfolkref02_Event.pv t3)] 0))), (.one (.pv (.int .i64 0)))], [[(.pv (.bools l_5 false)), (.pv (.int .i64 n9))]], []) := runs_of (C := cfg) (objs := [[(.pv (.bools l false)), (.pv (.int .i64 n))]]) (sc := t_.ev) (.k1 t_.pf (by kernel_rfl) (by kernel_rfl))
                              exact e_.out ⟨.eq rfl, .eq rfl, trivial⟩ ⟨⟨.eq rfl, .eq rfl, trivial⟩, trivial⟩ trivial rfl
                  · cases t2 with
                    | nil =>
                      cases h
                    | mk n10 t4 t5 =>
                      rcases cond_of h with ⟨h13, h⟩ | ⟨h13, h⟩
                      · cases t3 with
                        | nil =>
                          cases h
                        | mk n11 t6 t7 =>
                          rcases cond_of h with ⟨h14, h⟩ | ⟨h14, h⟩
                          · have h := some_of h
                            subst h
                            have t_ := tR (kinfolkref02_Leaf_runs 0 _ h1) <| tR (kinfolkref05_Get_2_runs 1 l n _ h2) <| tF (not_of2 h3) <| tF h4 <| tF h5 <| tR (kinfolkref05_Get_2_runs 2 l_ n3 _ h6) <| tL q_7 <| tF (not_of2 h8) <| tL q_9 <| tL q_10 <| tF h11 <| tF (rfl : false = false) <| tF h12 <| tF (rfl : false = false) <| tT h13 <| tT h14 <| tT (rfl : true = true) <| tN
                            exact runs_of (C := cfg) (objs := [[(.pv (.bools l false)), (.pv (.int .i64 n))]]) (sc := t_.ev) (.k1 t_.pf (by kernel_rfl) (by kernel_rfl))
                          · cases t4 with
                            | nil =>
                              cases t6 with
                              | nil =>
                                rcases cond_of h with ⟨h15, h⟩ | ⟨h15, h⟩
                                · have h := some_of h
                                  subst h
                                  have t_ := tR (kinfolkref02_Leaf_runs 0 _ h1) <| tR (kinfolkref05_Get_2_runs 1 l n _ h2) <| tF (not_of2 h3) <| tF h4 <| tF h5 <| tR (kinfolkref05_Get_2_runs 2 l_ n3 _ h6) <| tL q_7 <| tF (not_of2 h8) <| tL q_9 <| tL q_10 <| tF h11 <| tF (rfl : false = false) <| tF h12 <| tF (rfl : false = false) <| tT h13 <| tF h14 <| tT (rfl : true = true) <| tT (rfl : true = true) <| tT h15 <| tN
                                  exact runs_of (C := cfg) (objs := [[(.pv (.bools l false)), (.pv (.int .i64 n))]]) (sc := t_.ev) (.k0 t_.pf (by kernel_rfl))
                                · obtain ⟨n12, h16, h⟩ := bind_of h
                                  have q_16 := (Runs.coe (as' := [(.one (.pv (.imm [(.int .u64 n6), (T_kinfolkref02_Event.pv (T_kinfolkref02_Event.mk n10 T_kinfolkref02_Event.nil t5)), (T_kinfolkref02_Event.pv (T_kinfolkref02_Event.mk n11 T_kinfolkref02_Event.nil t7))] 0)))]) (objs' := []) (rows' := []) (kinfolkref02_Max_runs N (T_kinfolkref02_Event.mk n6 (T_kinfolkref02_Event.mk n10 T_kinfolkref02_Event.nil t5) (T_kinfolkref02_Event.mk n11 T_kinfolkref02_Event.nil t7)) _ h16) ⟨.eq rfl, trivial⟩ trivial trivial)
                                  rcases cond_of h with ⟨h17, h⟩ | ⟨h17, h⟩
                                  · have h := some_of h
                                    subst h
                                    have t_ := tR (kinfolkref02_Leaf_runs 0 _ h1) <| tR (kinfolkref05_Get_2_runs 1 l n _ h2) <| tF (not_of2 h3) <| tF h4 <| tF h5 <| tR (kinfolkref05_Get_2_runs 2 l_ n3 _ h6) <| tL q_7 <| tF (not_of2 h8) <| tL q_9 <| tL q_10 <| tF h11 <| tF (rfl : false = false) <| tF h12 <| tF (rfl : false = false) <| tT h13 <| tF h14 <| tT (rfl : true = true) <| tT (rfl : true = true) <| tF h15 <| tR q_16 <| tT h17 <| tN
                                    exact runs_of (C := cfg) (objs := [[(.pv (.bools l false)), (.pv (.int .i64 n))]]) (sc := t_.ev) (.k0 t_.pf (by kernel_rfl))
                                  · have h := some_of h
                                    subst h
                                    have t_ := tR (kinfolkref02_Leaf_runs 0 _ h1) <| tR (kinfolkref05_Get_2_runs 1 l n _ h2) <| tF (not_of2 h3) <| tF h4 <| tF h5 <| tR (kinfolkref05_Get_2_runs 2 l_ n3 _ h6) <| tL q_7 <| tF (not_of2 h8) <| tL q_9 <| tL q_10 <| tF h11 <| tF (rfl : false = false) <| tF h12 <| tF (rfl : false = false) <| tT h13 <| tF h14 <| tT (rfl : true = true) <| tT (rfl : true = true) <| tF h15 <| tR q_16 <| tF h17 <| tN
                                    have e_ : Runs Tryd.prog 77 [(.one (.ref 0 0)), (.one (.pv (.int .i64 depth)))] [[(.pv (.bools l false)), (.pv (.int .i64 n))]] [] ([(.one (.pv (.imm [(.int .u64 n6), (T_kinfolkref02_Event.pv (T_kinfolkref02_Event.mk n10 T_kinfolkref02_Event.nil t5)), (T_kinfolkref02_Event.pv (T_kinfolkref02_Event.mk n11 T_kinfolkref02_Event.nil t7))] 0))), (.one (.pv (.int .i64 0)))], [[(.pv (.bools l_5 false)), (.pv (.int .i64 n9))]], []) := runs_of (C := cfg) (objs := [[(.pv (.bools l false)), (.pv (.int .i64 n))]]) (sc := t_.ev) (.k0 t_.pf (by kernel_rfl))
                                    exact e_.out ⟨.eq rfl, .eq rfl, trivial⟩ ⟨⟨.eq rfl, .eq rfl, trivial⟩, trivial⟩ trivial rfl
                              | mk n12 t8 t9 =>
                                obtain ⟨n13, h15, h⟩ := bind_of h
                                have q_15 := (Runs.coe (as' := [(.one (.pv (.imm [(.int .u64 n6), (T_kinfolkref02_Event.pv (T_kinfolkref02_Event.mk n10 T_kinfolkref02_Event.nil t5)), (T_kinfolkref02_Event.pv (T_kinfolkref02_Event.mk n11 (T_kinfolkref02_Event.mk n12 t8 t9) t7))] 0)))]) (objs' := []) (rows' := []) (kinfolkref02_Max_runs N (T_kinfolkref02_Event.mk n6 (T_kinfolkref02_Event.mk n10 T_kinfolkref02_Event.nil t5) (T_kinfolkref02_Event.mk n11 (T_kinfolkref02_Event.mk n12 t8 t9) t7)) _ h15) ⟨.eq rfl, trivial⟩ trivial trivial)
                                rcases cond_of h with ⟨h16, h⟩ | ⟨h16, h⟩
                                · have h := some_of h
                                  subst h
                                  have t_ := tR (kinfolkref02_Leaf_runs 0 _ h1) <| tR (kinfolkref05_Get_2_runs 1 l n _ h2) <| tF (not_of2 h3) <| tF h4 <| tF h5 <| tR (kinfolkref05_Get_2_runs 2 l_ n3 _ h6) <| tL q_7 <| tF (not_of2 h8) <| tL q_9 <| tL q_10 <| tF h11 <| tF (rfl : false = false) <| tF h12 <| tF (rfl : false = false) <| tT h13 <| tF h14 <| tT (rfl : true = true) <| tF (rfl : false = false) <| tF (rfl : false = false) <| tR q_15 <| tT h16 <| tN
                                  exact runs_of (C := cfg) (objs := [[(.pv (.bools l false)), (.pv (.int .i64 n))]]) (sc := t_.ev) (.k1 t_.pf (by kernel_rfl) (by kernel_rfl))
                                · have h := some_of h
                                  subst h
                                  have t_ := tR (kinfolkref02_Leaf_runs 0 _ h1) <| tR (kinfolkref05_Get_2_runs 1 l n _ h2) <| tF (not_of2 h3) <| tF h4 <| tF h5 <| tR (kinfolkref05_Get_2_runs 2 l_ n3 _ h6) <| tL q_7 <| tF (not_of2 h8) <| tL q_9 <| tL q_10 <| tF h11 <| tF (rfl : false = false) <| tF h12 <| tF (rfl : false = false) <| tT h13 <| tF h14 <| tT (rfl : true = true) <| tF (rfl : false = false) <| tF (rfl : false = false) <| tR q_15 <| tF h16 <| tN
                                  have e_ : Runs Tryd.prog 77 [(.one (.ref 0 0)), (.one (.pv (.int .i64 depth)))] [[(.pv (.bools l false)), (.pv (.int .i64 n))]] [] ([(.one (.pv (.imm [(.int .u64 n6), (T_kinfolkref02_Event.pv (T_kinfolkref02_Event.mk n10 T_kinfolkref02_Event.nil t5)), (T_kinfolkref02_Event.pv (T_kinfolkref02_Event.mk n11 (T_kinfolkref02_Event.mk n12 t8 t9) t7))] 0))), (.one (.pv (.int .i64 0)))], [[(.pv (.bools l_5 false)), (.pv (.int .i64 n9))]], []) := runs_of (C := cfg) (objs := [[(.pv (.bools l false)), (.pv (.int .i64 n))]]) (sc := t_.ev) (.k1 t_.pf (by kernel_rfl) (by kernel_rfl))
                                  exact e_.out ⟨.eq rfl, .eq rfl, trivial⟩ ⟨⟨.eq rfl, .eq rfl, trivial⟩, trivial⟩ trivial rfl
                            | mk n12 t8 t9 =>
                              obtain ⟨n13, h15, h⟩ := bind_of h
                              have q_15 := (Runs.coe (as' := [(.one (.pv (.imm [(.int .u64 n6), (T_kinfolkref02_Event.pv (T_kinfolkref02_Event.mk n10 (T_kinfolkref02_Event.mk n12 t8 t9) t5)), (T_kinfolkref02_Event.pv (T_kinfolkref02_Event.mk n11 t6 t7))] 0)))]) (objs' := []) (rows' := []) (kinfolkref02_Max_runs N (T_kinfolkref02_Event.mk n6 (T_kinfolkref02_Event.mk n10 (T_kinfolkref02_Event.mk n12 t8 t9) t5) (T_kinfolkref02_Event.mk n11 t6 t7)) _ h15) ⟨.eq rfl, trivial⟩ trivial trivial)
                              rcases cond_of h with ⟨h16, h⟩ | ⟨h16, h⟩
                              · have h := some_of h
                                subst h
                                have t_ := tR (kinfolkref02_Leaf_runs 0 _ h1) <| tR (kinfolkref05_Get_2_runs 1 l n _ h2) <| tF (not_of2 h3) <| tF h4 <| tF h5 <| tR (kinfolkref05_Get_2_runs 2 l_ n3 _ h6) <| tL q_7 <| tF (not_of2 h8) <| tL q_9 <| tL q_10 <| tF h11 <| tF (rfl : false = false) <| tF h12 <| tF (rfl : false = false) <| tT h13 <| tF h14 <| tF (rfl : false = false) <| tF (rfl : false = false) <| tF (rfl : false = false) <| tR q_15 <| tT h16 <| tN
                                exact runs_of (C := cfg) (objs := [[(.pv (.bools l false)), (.pv (.int .i64 n))]]) (sc := t_.ev) (.k1 t_.pf (by kernel_rfl) (by kernel_rfl))
                              · have h := some_of h
                                subst h
                                have t_ := tR (kinfolkref02_Leaf_runs 0 _ h1) <| tR (kinfolkref05_Get_2_runs 1 l n _ h2) <| tF (not_of2 h3) <| tF h4 <| tF h5 <| tR (kinfolkref05_Get_2_runs 2 l_ n3 _ h6) <| tL q_7 <| tF (not_of2 h8) <| tL q_9 <| tL q_10 <| tF h11 <| tF (rfl : false = false) <| tF h12 <| tF (rfl : false = false) <| tT h13 <| tF h14 <| tF (rfl : false = false) <| tF (rfl : false = false) <| tF (rfl : false = false) <| tR q_15 <| tF h16 <| tN
                                have e_ : Runs Tryd.prog 77 [(.one (.ref 0 0)), (.one (.pv (.int .i64 depth)))] [[(.pv (.bools l false)), (.pv (.int .i64 n))]] [] ([(.one (.pv (.imm [(.int .u64 n6), (T_kinfolkref02_Event.pv (T_kinfolkref02_Event.mk n10 (T_kinfolkref02_Event.mk n12 t8 t9) t5)), (T_kinfolkref02_Event.pv (T_kinfolkref02_Event.mk n11 t6 t7))] 0))), (.one (.pv (.int .i64 0)))], [[(.pv (.bools l_5 false)), (.pv (.int .i64 n9))]], []) := runs_of (C := cfg) (objs := [[(.pv (.bools l false)), (.pv (.int .i64 n))]]) (sc := t_.ev) (.k1 t_.pf (by kernel_rfl) (by kernel_rfl))
                                exact e_.out ⟨.eq rfl, .eq rfl, trivial⟩ ⟨⟨.eq rfl, .eq rfl, trivial⟩, trivial⟩ trivial rfl
                      · cases t4 with
                        | nil =>
                          cases t3 with
                          | nil =>
                            cases h
                          | mk n11 t6 t7 =>
                            cases t6 with
                            | nil =>
                              rcases cond_of h with ⟨h14, h⟩ | ⟨h14, h⟩
                              · have h := some_of h
                                subst h
                                have t_ := tR (kinfolkref02_Leaf_runs 0 _ h1) <| tR (kinfolkref05_Get_2_runs 1 l n _ h2) <| tF (not_of2 h3) <| tF h4 <| tF h5 <| tR (kinfolkref05_Get_2_runs 2 l_ n3 _ h6) <| tL q_7 <| tF (not_of2 h8) <| tL q_9 <| tL q_10 <| tF h11 <| tF (rfl : false = false) <| tF h12 <| tF (rfl : false = false) <| tF h13 <| tF (rfl : false = false) <| tT (rfl : true = true) <| tT (rfl : true = true) <| tT h14 <| tN
                                exact runs_of (C := cfg) (objs := [[(.pv (.bools l false)), (.pv (.int .i64 n))]]) (sc := t_.ev) (.k0 t_.pf (by kernel_rfl))
                              · obtain ⟨n12, h15, h⟩ := bind_of h
                                have q_15 := (Runs.coe (as' := [(.one (.pv (.imm [(.int .u64 n6), (T_kinfolkref02_Event.pv (T_kinfolkref02_Event.mk n10 T_kinfolkref02_Event.nil t5)), (T_kinfolkref02_Event.pv (T_kinfolkref02_Event.mk n11 T_kinfolkref02_Event.nil t7))] 0)))]) (objs' := []) (rows' := []) (kinfolkref02_Max_runs N (T_kinfolkref02_Event.mk n6 (T_kinfolkref02_Event.mk n10 T_kinfolkref02_Event.nil t5) (T_kinfolkref02_Event.mk n11 T_kinfolkref02_Event.nil t7)) _ h15) ⟨.eq rfl, trivial⟩ trivial trivial)
                                rcases cond_of h with ⟨h16, h⟩ | ⟨h16, h⟩
                                · have h := some_of h
                                  subst h
                                  have t_ := tR (kinfolkref02_Leaf_runs 0 _ h1) <| tR (kinfolkref05_Get_2_runs 1 l n _ h2) <| tF (not_of2 h3) <| tF h4 <| tF h5 <| tR (kinfolkref05_Get_2_runs 2 l_ n3 _ h6) <| tL q_7 <| tF (not_of2 h8) <| tL q_9 <| tL q_10 <| tF h11 <| tF (rfl : false = false) <| tF h12 <| tF (rfl : false = false) <| tF h13 <| tF (rfl : false = false) <| tT (rfl : true = true) <| tT (rfl : true = true) <| tF h14 <| tR q_15 <| tT h16 <| tN
                                  exact runs_of (C := cfg) (objs := [[(.pv (.bools l false)), (.pv (.int .i64 n))]]) (sc := t_.ev) (.k0 t_.pf (by kernel_rfl))
                                · have h := some_of h
                                  subst h
                                  have t_ := tR (kinfolkref02_Leaf_runs 0 _ h1) <| tR (kinfolkref05_Get_2_runs 1 l n _ h2) <| tF (not_of2 h3) <| tF h4 <| tF h5 <| tR (kinfolkref05_Get_2_runs 2 l_ n3 _ h6) <| tL q_7 <| tF (not_of2 h8) <| tL q_9 <| tL q_10 <| tF h11 <| tF (rfl : false = false) <| tF h12 <| tF (rfl : false = false) <| tF h13 <| tF (rfl : false = false) <| tT (rfl : true = true) <| tT (rfl : true = true) <| tF h14 <| tR q_15 <| tF h16 <| tN
                                  have e_ : Runs Tryd.prog 77 [(.one (.ref 0 0)), (.one (.pv (.int .i64 depth)))] [[(.pv (.bools l false)), (.pv (.int .i64 n))]] [] ([(.one (.pv (.imm [(.int .u64 n6), (T_kinfolkref02_Event.pv (T_kinfolkref02_Event.mk n10 T_kinfolkref02_Event.nil t5)), (T_kinfolkref02_Event.pv (T_kinfolkref02_Event.mk n11 T_kinfolkref02_Event.nil t7))] 0))), (.one (.pv (.int .i64 0)))], [[(.pv (.bools l_5 false)), (.pv (.int .i64 n9))]], []) := runs_of (C := cfg) (objs := [[(.pv (.bools l false)), (.pv (.int .i64 n))]]) (sc := t_.ev) (.k0 t_.pf (by kernel_rfl))
                                  exact e_.out ⟨.eq rfl, .eq rfl, trivial⟩ ⟨⟨.eq rfl, .eq rfl, trivial⟩, trivial⟩ trivial rfl
                            | mk n12 t8 t9 =>
                              obtain ⟨n13, h14, h⟩ := bind_of h
                              have q_14 := (Runs.coe (as' := [(.one (.pv (.imm [(.int .u64 n6), (T_kinfolkref02_Event.pv (T_kinfolkref02_Event.mk n10 T_kinfolkref02_Event.nil t5)), (T_kinfolkref02_Event.pv (T_kinfolkref02_Event.mk n11 (T_kinfolkref02_Event.mk n12 t8 t9) t7))] 0)))]) (objs' := []) (rows' := []) (kinfolkref02_Max_runs N (T_kinfolkref02_Event.mk n6 (T_kinfolkref02_Event.mk n10 T_kinfolkref02_Event.nil t5) (T_kinfolkref02_Event.mk n11 (T_kinfolkref02_Event.mk n12 t8 t9) t7)) _ h14) ⟨.eq rfl, trivial⟩ trivial trivial)
                              rcases cond_of h with ⟨h15, h⟩ | ⟨h15, h⟩
                              · have h := some_of h
                                subst h
                                have t_ := tR (kinfolkref02_Leaf_runs 0 _ h1) <| tR (kinfolkref05_Get_2_runs 1 l n _ h2) <| tF (not_of2 h3) <| tF h4 <| tF h5 <| tR (kinfolkref05_Get_2_runs 2 l_ n3 _ h6) <| tL q_7 <| tF (not_of2 h8) <| tL q_9 <| tL q_10 <| tF h11 <| tF (rfl : false = false) <| tF h12 <| tF (rfl : false = false) <| tF h13 <| tF (rfl : false = false) <| tT (rfl : true = true) <| tF (rfl : false = false) <| tF (rfl : false = false) <| tR q_14 <| tT h15 <| tN
                                exact runs_of (C := cfg) (objs := [[(.pv (.bools l false)), (.pv (.int .i64 n))]]) (sc := t_.ev) (.k1 t_.pf (by kernel_rfl) (by kernel_rfl))
                              · have h := some_of h
                                subst h
                                have t_ := tR (kinfolkref02_Leaf_runs 0 _ h1) <| tR (kinfolkref05_Get_2_runs 1 l n _ h2) <| tF (not_of2 h3) <| tF h4 <| tF h5 <| tR (kinfolkref05_Get_2_runs 2 l_ n3 _ h6) <| tL q_7 <| tF (not_of2 h8) <| tL q_9 <| tL q_10 <| tF h11 <| tF (rfl : false = false) <| tF h12 <| tF (rfl : false = false) <| tF h13 <| tF (rfl : false = false) <| tT (rfl : true = true) <| tF (rfl : false = false) <| tF (rfl : false = false) <| tR q_14 <| tF h15 <| tN
                                have e_ : Runs Tryd.prog 77 [(.one (.ref 0 0)), (.one (.pv (.int .i64 depth)))] [[(.pv (.bools l false)), (.pv (.int .i64 n))]] [] ([(.one (.pv (.imm [(.int .u64 n6), (T_kinfolkref02_Event.pv (T_kinfolkref02_Event.mk n10 T_kinfolkref02_Event.nil t5)), (T_kinfolkref02_Event.pv (T_kinfolkref02_Event.mk n11 (T_kinfolkref02_Event.mk n12 t8 t9) t7))] 0))), (.one (.pv (.int .i64 0)))], [[(.pv (.bools l_5 false)), (.pv (.int .i64 n9))]], []) := runs_of (C := cfg) (objs := [[(.pv (.bools l false)), (.pv (.int .i64 n))]]) (sc := t_.ev) (.k1 t_.pf (by kernel_rfl) (by kernel_rfl))
                                exact e_.out ⟨.eq rfl, .eq rfl, trivial⟩ ⟨⟨.eq rfl, .eq rfl, trivial⟩, trivial⟩ trivial rfl
                        | mk n11 t6 t7 =>
                          obtain ⟨n12, h14, h⟩ := bind_of h
                          have q_14 := (Runs.coe (as' := [(.one (.pv (.imm [(.int .u64 n6), (T_kinfolkref02_Event.pv (T_kinfolkref02_Event.mk n10 (T_kinfolkref02_Event.mk n11 t6 t7) t5)), (T_kinfolkref02_Event.pv t3)] 0)))]) (objs' := []) (rows' := []) (kinfolkref02_Max_runs N (T_kinfolkref02_Event.mk n6 (T_kinfolkref02_Event.mk n10 (T_kinfolkref02_Event.mk n11 t6 t7) t5) t3) _ h14) ⟨.eq rfl, trivial⟩ trivial trivial)
                          rcases cond_of h with ⟨h15, h⟩ | ⟨h15, h⟩
                          · have h := some_of h
                            subst h
                            have t_ := tR (kinfolkref02_Leaf_runs 0 _ h1) <| tR (kinfolkref05_Get_2_runs 1 l n _ h2) <| tF (not_of2 h3) <| tF h4 <| tF h5 <| tR (kinfolkref05_Get_2_runs 2 l_ n3 _ h6) <| tL q_7 <| tF (not_of2 h8) <| tL q_9 <| tL q_10 <| tF h11 <| tF (rfl : false = false) <| tF h12 <| tF (rfl : false = false) <| tF h13 <| tF (rfl : false = false) <| tF (rfl : false = false) <| tF (rfl : false = false) <| tF (rfl : false = false) <| tR q_14 <| tT h15 <| tN
                            exact runs_of (C := cfg) (objs := [[(.pv (.bools l false)), (.pv (.int .i64 n))]]) (sc := t_.ev) (.k1 t_.pf (by kernel_rfl) (by kernel_rfl))
                          · have h := some_of h
                            subst h
                            have t_ := tR (kinfolkref02_Leaf_runs 0 _ h1) <| tR (kinfolkref05_Get_2_runs 1 l n _ h2) <| tF (not_of2 h3) <| tF h4 <| tF h5 <| tR (kinfolkref05_Get_2_runs 2 l_ n3 _ h6) <| tL q_7 <| tF (not_of2 h8) <| tL q_9 <| tL q_10 <| tF h11 <| tF (rfl : false = false) <| tF h12 <| tF (rfl : false = false) <| tF h13 <| tF (rfl : false = false) <| tF (rfl : false = false) <| tF (rfl : false = false) <| tF (rfl : false = false) <| tR q_14 <| tF h15 <| tN
                            have e_ : Runs Tryd.prog 77 [(.one (.ref 0 0)), (.one (.pv (.int .i64 depth)))] [[(.pv (.bools l false)), (.pv (.int .i64 n))]] [] ([(.one (.pv (.imm [(.int .u64 n6), (T_kinfolkref02_Event.pv (T_kinfolkref02_Event.mk n10 (T_kinfolkref02_Event.mk n11 t6 t7) t5)), (T_kinfolkref02_Event.pv t3)] 0))), (.one (.pv (.int .i64 0)))], [[(.pv (.bools l_5 false)), (.pv (.int .i64 n9))]], []) := runs_of (C := cfg) (objs := [[(.pv (.bools l false)), (.pv (.int .i64 n))]]) (sc := t_.ev) (.k1 t_.pf (by kernel_rfl) (by kernel_rfl))
                            exact e_.out ⟨.eq rfl, .eq rfl, trivial⟩ ⟨⟨.eq rfl, .eq rfl, trivial⟩, trivial⟩ trivial rfl
              · have h := some_of h
                subst h
                have t_ := tR (kinfolkref02_Leaf_runs 0 _ h1) <| tR (kinfolkref05_Get_2_runs 1 l n _ h2) <| tF (not_of2 h3) <| tF h4 <| tF h5 <| tR (kinfolkref05_Get_2_runs 2 l_ n3 _ h6) <| tL q_7 <| tF (not_of2 h8) <| tL q_9 <| tL (kinfolkref07_GetEvent_C96_runs rec_kinfolkref07_GetEvent_2 hrec_kinfolkref07_GetEvent_2 depth t b b2 n6 t2 t b2 l_4 n8 _ h10) <| tN
                exact runs_of (C := cfg) (objs := [[(.pv (.bools l false)), (.pv (.int .i64 n))]]) (sc := t_.ev) (.k0 t_.pf (by kernel_rfl))
            · have h := some_of h
              subst h
              have t_ := tR (kinfolkref02_Leaf_runs 0 _ h1) <| tR (kinfolkref05_Get_2_runs 1 l n _ h2) <| tF (not_of2 h3) <| tF h4 <| tF h5 <| tR (kinfolkref05_Get_2_runs 2 l_ n3 _ h6) <| tL q_7 <| tF (not_of2 h8) <| tL (kinfolkref07_GetEvent_C84_runs rec_kinfolkref07_GetEvent_2 hrec_kinfolkref07_GetEvent_2 depth t b b2 n6 t t b l_3 n7 _ h9) <| tN
              exact runs_of (C := cfg) (objs := [[(.pv (.bools l false)), (.pv (.int .i64 n))]]) (sc := t_.ev) (.k0 t_.pf (by kernel_rfl))
          · have h := some_of h
            subst h
            have t_ := tR (kinfolkref02_Leaf_runs 0 _ h1) <| tR (kinfolkref05_Get_2_runs 1 l n _ h2) <| tF (not_of2 h3) <| tF h4 <| tF h5 <| tR (kinfolkref05_Get_2_runs 2 l_ n3 _ h6) <| tL q_7 <| tT (not_of h8) <| tN
            exact runs_of (C := cfg) (objs := [[(.pv (.bools l false)), (.pv (.int .i64 n))]]) (sc := t_.ev) (.k0 t_.pf (by kernel_rfl))
  · have h := some_of h
    subst h
    have t_ := tR (kinfolkref02_Leaf_runs 0 _ h1) <| tR (kinfolkref05_Get_2_runs 1 l n _ h2) <| tT (not_of h3) <| tN
    exact runs_of (C := cfg) (objs := [[(.pv (.bools l false)), (.pv (.int .i64 n))]]) (sc := t_.ev) (.k0 t_.pf (by kernel_rfl))
noncomputable def kinfolkref07_GetEvent_2 : Nat → Int → List Bool → Int → Option (T_kinfolkref02_Event × Int × List Bool × Int)
  | 0, _, _, _ => none
  | N + 1, depth, l, n => kinfolkref07_GetEvent_2_b N (kinfolkref07_GetEvent_2 N) depth l n
theorem kinfolkref07_GetEvent_2_runs : ∀ (N : Nat) (depth : Int) (l : List Bool) (n : Int) (r_ : T_kinfolkref02_Event × Int × List Bool × Int), kinfolkref07_GetEvent_2 N depth l n = some r_ → Runs Tryd.prog 77 [(.one (.ref 0 0)), (.one (.pv (.int .i64 depth)))] [[(.pv (.bools l false)), (.pv (.int .i64 n))]] [] (kinfolkref07_GetEvent_2_out depth l n r_)
  | 0, _, _, _, _, h => by cases h
  | N + 1, depth, l, n, r_, h => kinfolkref07_GetEvent_2_b_runs N (kinfolkref07_GetEvent_2 N) (kinfolkref07_GetEvent_2_runs N) depth l n r_ h
/-! ### kinfolkref05_End_out -/
def kinfolkref05_End_out (l : List Bool) (n : Int) : Int × Int → Res
  | (r1, r2) => ([(.one (.pv (.int .i64 r1)))], [[(.pv (.bools l false)), (.pv (.int .i64 r2))]], [])
/-! ### kinfolkref05_End_L0 -/
def kinfolkref05_End_L0_st (l : List Bool) (n : Int) (l2 : List Bool) : Int → St
  | n2 => ⟨[(0, (.av (.one (.ref 0 0)))), (22, (.av (.one (.pv (.bools l false))))), (23, (.av (.one (.pv (.int .i64 n))))), (24, (.av (.one (.pv (.int .i64 n2)))))], [(0, [(.pv (.bools l2 false)), (.pv (.int .i64 6))])], []⟩
def kinfolkref05_End_L0_ex (l : List Bool) (n : Int) (l2 : List Bool) : Unit → Ex × St
  | _ => ((.exit 0), ⟨[(0, (.av (.one (.ref 0 0))))], [(0, [(.pv (.bools l2 false)), (.pv (.int .i64 6))])], []⟩)
noncomputable def kinfolkref05_End_L0_step (l : List Bool) (n : Int) (l2 : List Bool) : Int → Option ((Int) ⊕ (Unit))
  | n2 =>
  bif (decide ((n2 : Int) < n)) then
    bif decide ((0 : Int) ≤ n2) && decide ((n2 : Int) < ((l).length : Int)) then
    bif (l.getD (n2).toNat false) then
      some (.inl (iadd .i64 n2 1))
    else
      some (.inl (iadd .i64 n2 1))
    else none
  else
    some (.inr ())
theorem kinfolkref05_End_L0_ok (l : List Bool) (n : Int) (l2 : List Bool) (n2 : Int) (z_ : (Int) ⊕ (Unit)) (h : kinfolkref05_End_L0_step l n l2 n2 = some z_) : RoundOk Tryd.prog cfg 132 1 (loopAt Tryd.prog 132 0) (kinfolkref05_End_L0_st l n l2) (kinfolkref05_End_L0_ex l n l2) n2 z_ := by
  rcases cond_of h with ⟨h1, h⟩ | ⟨h1, h⟩
  · obtain ⟨h2, h⟩ := need_of h
    rcases cond_of h with ⟨h3, h⟩ | ⟨h3, h⟩
    · have h := some_of h
      subst h
      have t_ := tT h1 <| tO h2 <| tT h3 <| tN
      exact ⟨t_.ev, kinfolkref05_End_L0_st l n l2 (iadd .i64 n2 1), .k0 t_.pf (by kernel_rfl), .same (by kernel_rfl)⟩
    · have h := some_of h
      subst h
      have t_ := tT h1 <| tO h2 <| tF h3 <| tN
      exact ⟨t_.ev, kinfolkref05_End_L0_st l n l2 (iadd .i64 n2 1), .k0 t_.pf (by kernel_rfl), .same (by kernel_rfl)⟩
  · have h := some_of h
    subst h
    have t_ := tF h1 <| tN
    exact ⟨t_.ev, ⟨[(25, (.av (.one (.pv (.bool false))))), (0, (.av (.one (.ref 0 0)))), (22, (.av (.one (.pv (.bools l false))))), (23, (.av (.one (.pv (.int .i64 n))))), (24, (.av (.one (.pv (.int .i64 n2))))), (25, (.av (.one (.pv (.bool (decide ((n2 : Int) < n)))))))], [(0, [(.pv (.bools l2 false)), (.pv (.int .i64 6))])], []⟩, .k0 t_.pf (by kernel_rfl), ⟨⟨⟨_, rfl, .eq rfl⟩, trivial⟩, ⟨⟨rfl, ⟨.eq rfl, .eq rfl, trivial⟩⟩, trivial⟩, trivial⟩⟩
theorem kinfolkref05_End_L0_runs (l : List Bool) (n : Int) (l2 : List Bool) (s_ : Int) (r_ : Unit) (h : runL (kinfolkref05_End_L0_step l n l2) s_ = some r_) : LRuns Tryd.prog (lEnv Tryd.prog cfg 132 1).nt 1 (.loop (loopAt Tryd.prog 132 0)) (kinfolkref05_End_L0_st l n l2 s_) (kinfolkref05_End_L0_ex l n l2 r_).1 (kinfolkref05_End_L0_ex l n l2 r_).2 :=
  loop_run h (kinfolkref05_End_L0_ok l n l2) (by intro r_; rcases r_ with _ <;> simp [kinfolkref05_End_L0_ex])
/-! ### kinfolkref05_End_L0_2 -/
def kinfolkref05_End_L0_2_st (l : List Bool) (n : Int) (l2 : List Bool) : Int × Int → St
  | (n3, n2) => ⟨[(0, (.av (.one (.ref 0 0)))), (22, (.av (.one (.pv (.bools l false))))), (23, (.av (.one (.pv (.int .i64 n))))), (24, (.av (.one (.pv (.int .i64 n3)))))], [(0, [(.pv (.bools l2 false)), (.pv (.int .i64 n2))])], []⟩
def kinfolkref05_End_L0_2_ex (l : List Bool) (n : Int) (l2 : List Bool) : Int → Ex × St
  | r1 => ((.exit 0), ⟨[(0, (.av (.one (.ref 0 0))))], [(0, [(.pv (.bools l2 false)), (.pv (.int .i64 r1))])], []⟩)
noncomputable def kinfolkref05_End_L0_2_step (l : List Bool) (n : Int) (l2 : List Bool) : Int × Int → Option ((Int × Int) ⊕ (Int))
  | (n3, n2) =>
  bif (decide ((n3 : Int) < n)) then
    bif decide ((0 : Int) ≤ n3) && decide ((n3 : Int) < ((l).length : Int)) then
    bif (l.getD (n3).toNat false) then
      some (.inl ((iadd .i64 n3 1), 6))
    else
      some (.inl ((iadd .i64 n3 1), n2))
    else none
  else
    some (.inr n2)
theorem kinfolkref05_End_L0_2_ok (l : List Bool) (n : Int) (l2 : List Bool) (s_ : Int × Int) (z_ : (Int × Int) ⊕ (Int)) (h : kinfolkref05_End_L0_2_step l n l2 s_ = some z_) : RoundOk Tryd.prog cfg 132 1 (loopAt Tryd.prog 132 0) (kinfolkref05_End_L0_2_st l n l2) (kinfolkref05_End_L0_2_ex l n l2) s_ z_ := by
  rcases s_ with ⟨n3, n2⟩
  rcases cond_of h with ⟨h1, h⟩ | ⟨h1, h⟩
  · obtain ⟨h2, h⟩ := need_of h
    rcases cond_of h with ⟨h3, h⟩ | ⟨h3, h⟩
    · have h := some_of h
      subst h
      have t_ := tT h1 <| tO h2 <| tT h3 <| tN
      exact ⟨t_.ev, kinfolkref05_End_L0_2_st l n l2 ((iadd .i64 n3 1), 6), .k0 t_.pf (by kernel_rfl), .same (by kernel_rfl)⟩
    · have h := some_of h
      subst h
      have t_ := tT h1 <| tO h2 <| tF h3 <| tN
      exact ⟨t_.ev, kinfolkref05_End_L0_2_st l n l2 ((iadd .i64 n3 1), n2), .k0 t_.pf (by kernel_rfl), .same (by kernel_rfl)⟩
  · have h := some_of h
    subst h
    have t_ := tF h1 <| tN
    exact ⟨t_.ev, ⟨[(25, (.av (.one (.pv (.bool false))))), (0, (.av (.one (.ref 0 0)))), (22, (.av (.one (.pv (.bools l false))))), (23, (.av (.one (.pv (.int .i64 n))))), (24, (.av (.one (.pv (.int .i64 n3))))), (25, (.av (.one (.pv (.bool (decide ((n3 : Int) < n)))))))], [(0, [(.pv (.bools l2 false)), (.pv (.int .i64 n2))])], []⟩, .k0 t_.pf (by kernel_rfl), ⟨⟨⟨_, rfl, .eq rfl⟩, trivial⟩, ⟨⟨rfl, ⟨.eq rfl, .eq rfl, trivial⟩⟩, trivial⟩, trivial⟩⟩
theorem kinfolkref05_End_L0_2_runs (l : List Bool) (n : Int) (l2 : List Bool) (s_ : Int × Int) (r_ : Int) (h : runL (kinfolkref05_End_L0_2_step l n l2) s_ = some r_) : LRuns Tryd.prog (lEnv Tryd.prog cfg 132 1).nt 1 (.loop (loopAt Tryd.prog 132 0)) (kinfolkref05_End_L0_2_st l n l2 s_) (kinfolkref05_End_L0_2_ex l n l2 r_).1 (kinfolkref05_End_L0_2_ex l n l2 r_).2 :=
  loop_run h (kinfolkref05_End_L0_2_ok l n l2) (by intro r_; rcases r_ with r1 <;> simp [kinfolkref05_End_L0_2_ex])
/-! ### kinfolkref05_End -/
noncomputable def kinfolkref05_End (l : List Bool) (n : Int) : Option (Int × Int) :=
  bif (decide ((n : Int) = 0)) then
    bif (decide ((8 : Int) ≤ ((l).length : Int))) then
      (runL (kinfolkref05_End_L0_step l ((l).length : Int) l) 0).bind fun _ =>
      some (6, 6)
    else
      (runL (kinfolkref05_End_L0_2_step l ((l).length : Int) l) (0, n)).bind fun n2 =>
      some (n2, n2)
  else
    some (n, n)
theorem kinfolkref05_End_runs (l : List Bool) (n : Int) (r_ : Int × Int) (h : kinfolkref05_End l n = some r_) : Runs Tryd.prog 132 [(.one (.ref 0 0))] [[(.pv (.bools l false)), (.pv (.int .i64 n))]] [] (kinfolkref05_End_out l n r_) := by
  unfold kinfolkref05_End at h
  rcases cond_of h with ⟨h1, h⟩ | ⟨h1, h⟩
  · rcases cond_of h with ⟨h2, h⟩ | ⟨h2, h⟩
    · obtain ⟨_, h3, h⟩ := bind_of h
      have h := some_of h
      subst h
      have t_ := tT h1 <| tT h2 <| tL (kinfolkref05_End_L0_runs l ((l).length : Int) l _ _ h3) <| tN
      exact runs_of (C := cfg) (objs := [[(.pv (.bools l false)), (.pv (.int .i64 n))]]) (sc := t_.ev) (.k0 t_.pf (by kernel_rfl))
    · obtain ⟨n2, h3, h⟩ := bind_of h
      have h := some_of h
      subst h
      have t_ := tT h1 <| tF h2 <| tL (kinfolkref05_End_L0_2_runs l ((l).length : Int) l _ _ h3) <| tN
      exact runs_of (C := cfg) (objs := [[(.pv (.bools l false)), (.pv (.int .i64 n))]]) (sc := t_.ev) (.k0 t_.pf (by kernel_rfl))
  · have h := some_of h
    subst h
    have t_ := tF h1 <| tN
    exact runs_of (C := cfg) (objs := [[(.pv (.bools l false)), (.pv (.int .i64 n))]]) (sc := t_.ev) (.k0 t_.pf (by kernel_rfl))
/-! ### kinfolkref07_ReadStamp -/
noncomputable def kinfolkref07_ReadStamp (N : Nat) (p : List Int) : Option (T_kinfolkref01_ID × T_kinfolkref02_Event × Int) :=
  (kinfolkref05_Bits p).bind fun l_ =>
  (kinfolkref07_GetID_3 N 0 0 l_).bind fun (t, n, l_2, n2) =>
  (kinfolkref02_Leaf 0).bind fun t2 =>
  bif (decide ((n : Int) = 0)) then
    (kinfolkref07_GetEvent_2 N 0 l_2 n2).bind fun (t3, n3, l_3, n4) =>
    bif (decide ((n3 : Int) = 0)) then
      (kinfolkref05_End l_3 n4).bind fun (n5, n6) =>
      bif (decide ((n5 : Int) = 0)) then
        some (t, t3, 0)
      else
        (kinfolkref01_Zero).bind fun t4 =>
        some (t4, t2, n5)
    else
      (kinfolkref01_Zero).bind fun t4 =>
      some (t4, t2, n3)
  else
    (kinfolkref01_Zero).bind fun t3 =>
    some (t3, t2, n)
theorem kinfolkref07_ReadStamp_runs (N : Nat) (p : List Int) (r_ : T_kinfolkref01_ID × T_kinfolkref02_Event × Int) (h : kinfolkref07_ReadStamp N p = some r_) : Runs Tryd.prog 82 [(.one (.pv (.ints .u8 p false)))] [] [] (kinfolkref07_ReadStamp_out p r_) := by
  unfold kinfolkref07_ReadStamp at h
  obtain ⟨l_, h1, h⟩ := bind_of h
  obtain ⟨⟨t, n, l_2, n2⟩, h2, h⟩ := bind_of h
  obtain ⟨t2, h3, h⟩ := bind_of h
  rcases cond_of h with ⟨h4, h⟩ | ⟨h4, h⟩
  · obtain ⟨⟨t3, n3, l_3, n4⟩, h5, h⟩ := bind_of h
    rcases cond_of h with ⟨h6, h⟩ | ⟨h6, h⟩
    · obtain ⟨⟨n5, n6⟩, h7, h⟩ := bind_of h
      rcases cond_of h with ⟨h8, h⟩ | ⟨h8, h⟩
      · have h := some_of h
        subst h
        have t_ := tR (kinfolkref05_Bits_runs p _ h1) <| tR (kinfolkref07_GetID_3_runs N 0 0 l_ _ h2) <| tR (kinfolkref02_Leaf_runs 0 _ h3) <| tT h4 <| tR (kinfolkref07_GetEvent_2_runs N 0 l_2 n2 _ h5) <| tT h6 <| tR (kinfolkref05_End_runs l_3 n4 _ h7) <| tF (not_of2 h8) <| tN
        exact runs_of (C := cfg) (objs := []) (sc := t_.ev) (.k0 t_.pf (by kernel_rfl))
      · obtain ⟨t4, h9, h⟩ := bind_of h
        have h := some_of h
        subst h
        have t_ := tR (kinfolkref05_Bits_runs p _ h1) <| tR (kinfolkref07_GetID_3_runs N 0 0 l_ _ h2) <| tR (kinfolkref02_Leaf_runs 0 _ h3) <| tT h4 <| tR (kinfolkref07_GetEvent_2_runs N 0 l_2 n2 _ h5) <| tT h6 <| tR (kinfolkref05_End_runs l_3 n4 _ h7) <| tT (not_of h8) <| tR (kinfolkref01_Zero_runs _ h9) <| tR (kinfolkref02_Leaf_runs 0 _ h3) <| tN
        exact runs_of (C := cfg) (objs := []) (sc := t_.ev) (.k0 t_.pf (by kernel_rfl))
    · obtain ⟨t4, h7, h⟩ := bind_of h
      have h := some_of h
      subst h
      have t_ := tR (kinfolkref05_Bits_runs p _ h1) <| tR (kinfolkref07_GetID_3_runs N 0 0 l_ _ h2) <| tR (kinfolkref02_Leaf_runs 0 _ h3) <| tT h4 <| tR (kinfolkref07_GetEvent_2_runs N 0 l_2 n2 _ h5) <| tF h6 <| tT (not_of h6) <| tR (kinfolkref01_Zero_runs _ h7) <| tR (kinfolkref02_Leaf_runs 0 _ h3) <| tN
      exact runs_of (C := cfg) (objs := []) (sc := t_.ev) (.k0 t_.pf (by kernel_rfl))
  · obtain ⟨t3, h5, h⟩ := bind_of h
    have h := some_of h
    subst h
    have t_ := tR (kinfolkref05_Bits_runs p _ h1) <| tR (kinfolkref07_GetID_3_runs N 0 0 l_ _ h2) <| tR (kinfolkref02_Leaf_runs 0 _ h3) <| tF h4 <| tF h4 <| tT (not_of h4) <| tR (kinfolkref01_Zero_runs _ h5) <| tR (kinfolkref02_Leaf_runs 0 _ h3) <| tN
    exact runs_of (C := cfg) (objs := []) (sc := t_.ev) (.k0 t_.pf (by kernel_rfl))
/-! ### stamp_Stamp_Text_out -/
def stamp_Stamp_Text_out (s : Bool) (s2 : T_id_halves) (s3 : Int) (s4 : T_event_halves) : ByteArray → Res
  | r1 => ([(.one (.pv (.str r1)))], [], [])
/-! ### id_ID_Text_out -/
def id_ID_Text_out (i : Bool) (i2 : T_id_halves) : ByteArray → Res
  | r1 => ([(.one (.pv (.str r1)))], [], [])

end Go.Proofs.YtjjakdmcnkldoaaDoor
