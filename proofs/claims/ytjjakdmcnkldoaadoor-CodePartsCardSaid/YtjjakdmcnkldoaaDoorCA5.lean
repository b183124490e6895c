/- What functions compute, and that they do. -/
import Derived.Test.YtjjakdmcnkldoaaDoorCA4
set_option linter.unusedVariables false
set_option linter.unusedSimpArgs false
set_option maxRecDepth 100000
namespace Go.Proofs.YtjjakdmcnkldoaaDoor
open Go.Ev

/-! ### kinfolkref07_GetEvent_4 -/
noncomputable def kinfolkref07_GetEvent_4_b (N : Nat) (rec_kinfolkref07_GetEvent_4 : Int → List Bool → Int → Option (T_kinfolkref02_Event × Int × List Bool × Int)) (depth : Int) (l : List Bool) (n : Int) : Option (T_kinfolkref02_Event × Int × List Bool × Int) :=
  (kinfolkref02_Leaf 0).bind fun t =>
  (kinfolkref05_Get_2 1 l n).bind fun (n2, l_, n3) =>
  bif (decide ((n3 : Int) = 0)) then
    bif (decide ((n2 : Int) = 1)) then
      (kinfolkref07_number l_ n3).bind fun (n4, n5, l_2, n6) =>
      bif (decide ((n5 : Int) = 0)) then
        (kinfolkref02_Leaf n4).bind fun t2 =>
        some (t2, 0, l_2, n6)
      else
        some (t, n5, l_2, n6)
    else
      bif (decide ((depth : Int) = 16)) then
        some (t, 3, l_, n3)
      else
        (kinfolkref05_Get_2 2 l_ n3).bind fun (n4, l_2, n5) =>
        (kinfolkref07_GetEvent_C53 depth t (!(decide ((n4 : Int) = 0))) (!(decide ((n4 : Int) = 1))) (decide ((n4 : Int) = 3)) l_2 n5).bind fun z_ => match z_ with
        | .inl (n6, l_3, n7) =>
          some (t, n6, l_3, n7)
        | .inr (b, b2, n6, l_3, n7) =>
          bif (decide ((n7 : Int) = 0)) then
            (kinfolkref07_GetEvent_C84_2 rec_kinfolkref07_GetEvent_4 depth t b b2 n6 t t b l_3 n7).bind fun z_ => match z_ with
            | .inl (t2, l_4, n8) =>
              (kinfolkref07_GetEvent_C96 rec_kinfolkref07_GetEvent_4 depth t b b2 n6 t2 t b2 l_4 n8).bind fun z_ => match z_ with
              | .inl (t3, l_5, n9) =>
                bif b then
                  (kinfolkref07_zero t2).bind fun b3 =>
                  bif b3 then
                    some (t, 6, l_5, n9)
                  else
                    bif b2 then
                      (kinfolkref07_zero t3).bind fun b4 =>
                      bif b4 then
                        some (t, 6, l_5, n9)
                      else
                        match t2 with
                        | .nil =>
                          none
                        | .mk n10 t4 t5 =>
                          bif (decide ((0 : Int) < n10)) then
                            match t3 with
                            | .nil =>
                              none
                            | .mk n11 t6 t7 =>
                              bif (decide ((0 : Int) < n11)) then
                                some (t, 6, l_5, n9)
                              else
                                match t4 with
                                | .nil =>
                                  match t6 with
                                  | .nil =>
                                    bif (decide ((n10 : Int) = n11)) then
                                      some (t, 6, l_5, n9)
                                    else
                                      (kinfolkref02_Max N (T_kinfolkref02_Event.mk n6 t2 t3)).bind fun n12 =>
                                      bif (decide ((1048576 : Int) < n12)) then
                                        some (t, 4, l_5, n9)
                                      else
                                        some ((T_kinfolkref02_Event.mk n6 t2 t3), 0, l_5, n9)
                                  | .mk n12 t8 t9 =>
                                    (kinfolkref02_Max N (T_kinfolkref02_Event.mk n6 t2 t3)).bind fun n13 =>
                                    bif (decide ((1048576 : Int) < n13)) then
                                      some (t, 4, l_5, n9)
                                    else
                                      some ((T_kinfolkref02_Event.mk n6 t2 t3), 0, l_5, n9)
                                | .mk n12 t8 t9 =>
                                  (kinfolkref02_Max N (T_kinfolkref02_Event.mk n6 t2 t3)).bind fun n13 =>
                                  bif (decide ((1048576 : Int) < n13)) then
                                    some (t, 4, l_5, n9)
                                  else
                                    some ((T_kinfolkref02_Event.mk n6 t2 t3), 0, l_5, n9)
                          else
                            match t4 with
                            | .nil =>
                              match t3 with
                              | .nil =>
                                none
                              | .mk n11 t6 t7 =>
                                match t6 with
                                | .nil =>
                                  bif (decide ((n10 : Int) = n11)) then
                                    some (t, 6, l_5, n9)
                                  else
                                    (kinfolkref02_Max N (T_kinfolkref02_Event.mk n6 t2 t3)).bind fun n12 =>
                                    bif (decide ((1048576 : Int) < n12)) then
                                      some (t, 4, l_5, n9)
                                    else
                                      some ((T_kinfolkref02_Event.mk n6 t2 t3), 0, l_5, n9)
                                | .mk n12 t8 t9 =>
                                  (kinfolkref02_Max N (T_kinfolkref02_Event.mk n6 t2 t3)).bind fun n13 =>
                                  bif (decide ((1048576 : Int) < n13)) then
                                    some (t, 4, l_5, n9)
                                  else
                                    some ((T_kinfolkref02_Event.mk n6 t2 t3), 0, l_5, n9)
                            | .mk n11 t6 t7 =>
                              (kinfolkref02_Max N (T_kinfolkref02_Event.mk n6 t2 t3)).bind fun n12 =>
                              bif (decide ((1048576 : Int) < n12)) then
                                some (t, 4, l_5, n9)
                              else
                                some ((T_kinfolkref02_Event.mk n6 t2 t3), 0, l_5, n9)
                    else
                      match t2 with
                      | .nil =>
                        none
                      | .mk n10 t4 t5 =>
                        bif (decide ((0 : Int) < n10)) then
                          match t3 with
                          | .nil =>
                            none
                          | .mk n11 t6 t7 =>
                            bif (decide ((0 : Int) < n11)) then
                              some (t, 6, l_5, n9)
                            else
                              match t4 with
                              | .nil =>
                                match t6 with
                                | .nil =>
                                  bif (decide ((n10 : Int) = n11)) then
                                    some (t, 6, l_5, n9)
                                  else
                                    (kinfolkref02_Max N (T_kinfolkref02_Event.mk n6 t2 t3)).bind fun n12 =>
                                    bif (decide ((1048576 : Int) < n12)) then
                                      some (t, 4, l_5, n9)
                                    else
                                      some ((T_kinfolkref02_Event.mk n6 t2 t3), 0, l_5, n9)
                                | .mk n12 t8 t9 =>
                                  (kinfolkref02_Max N (T_kinfolkref02_Event.mk n6 t2 t3)).bind fun n13 =>
                                  bif (decide ((1048576 : Int) < n13)) then
                                    some (t, 4, l_5, n9)
                                  else
                                    some ((T_kinfolkref02_Event.mk n6 t2 t3), 0, l_5, n9)
                              | .mk n12 t8 t9 =>
                                (kinfolkref02_Max N (T_kinfolkref02_Event.mk n6 t2 t3)).bind fun n13 =>
                                bif (decide ((1048576 : Int) < n13)) then
                                  some (t, 4, l_5, n9)
                                else
                                  some ((T_kinfolkref02_Event.mk n6 t2 t3), 0, l_5, n9)
                        else
                          match t4 with
                          | .nil =>
                            match t3 with
                            | .nil =>
                              none
                            | .mk n11 t6 t7 =>
                              match t6 with
                              | .nil =>
                                bif (decide ((n10 : Int) = n11)) then
                                  some (t, 6, l_5, n9)
                                else
                                  (kinfolkref02_Max N (T_kinfolkref02_Event.mk n6 t2 t3)).bind fun n12 =>
                                  bif (decide ((1048576 : Int) < n12)) then
                                    some (t, 4, l_5, n9)
                                  else
                                    some ((T_kinfolkref02_Event.mk n6 t2 t3), 0, l_5, n9)
                              | .mk n12 t8 t9 =>
                                (kinfolkref02_Max N (T_kinfolkref02_Event.mk n6 t2 t3)).bind fun n13 =>
                                bif (decide ((1048576 : Int) < n13)) then
                                  some (t, 4, l_5, n9)
                                else
                                  some ((T_kinfolkref02_Event.mk n6 t2 t3), 0, l_5, n9)
                          | .mk n11 t6 t7 =>
                            (kinfolkref02_Max N (T_kinfolkref02_Event.mk n6 t2 t3)).bind fun n12 =>
                            bif (decide ((1048576 : Int) < n12)) then
                              some (t, 4, l_5, n9)
                            else
                              some ((T_kinfolkref02_Event.mk n6 t2 t3), 0, l_5, n9)
                else
                  bif b2 then
                    (kinfolkref07_zero t3).bind fun b3 =>
                    bif b3 then
                      some (t, 6, l_5, n9)
                    else
                      match t2 with
                      | .nil =>
                        none
                      | .mk n10 t4 t5 =>
                        bif (decide ((0 : Int) < n10)) then
                          match t3 with
                          | .nil =>
                            none
                          | .mk n11 t6 t7 =>
                            bif (decide ((0 : Int) < n11)) then
                              some (t, 6, l_5, n9)
                            else
                              match t4 with
                              | .nil =>
                                match t6 with
                                | .nil =>
                                  bif (decide ((n10 : Int) = n11)) then
                                    some (t, 6, l_5, n9)
                                  else
                                    (kinfolkref02_Max N (T_kinfolkref02_Event.mk n6 t2 t3)).bind fun n12 =>
                                    bif (decide ((1048576 : Int) < n12)) then
                                      some (t, 4, l_5, n9)
                                    else
                                      some ((T_kinfolkref02_Event.mk n6 t2 t3), 0, l_5, n9)
                                | .mk n12 t8 t9 =>
                                  (kinfolkref02_Max N (T_kinfolkref02_Event.mk n6 t2 t3)).bind fun n13 =>
                                  bif (decide ((1048576 : Int) < n13)) then
                                    some (t, 4, l_5, n9)
                                  else
                                    some ((T_kinfolkref02_Event.mk n6 t2 t3), 0, l_5, n9)
                              | .mk n12 t8 t9 =>
                                (kinfolkref02_Max N (T_kinfolkref02_Event.mk n6 t2 t3)).bind fun n13 =>
                                bif (decide ((1048576 : Int) < n13)) then
                                  some (t, 4, l_5, n9)
                                else
                                  some ((T_kinfolkref02_Event.mk n6 t2 t3), 0, l_5, n9)
                        else
                          match t4 with
                          | .nil =>
                            match t3 with
                            | .nil =>
                              none
                            | .mk n11 t6 t7 =>
                              match t6 with
                              | .nil =>
                                bif (decide ((n10 : Int) = n11)) then
                                  some (t, 6, l_5, n9)
                                else
                                  (kinfolkref02_Max N (T_kinfolkref02_Event.mk n6 t2 t3)).bind fun n12 =>
                                  bif (decide ((1048576 : Int) < n12)) then
                                    some (t, 4, l_5, n9)
                                  else
                                    some ((T_kinfolkref02_Event.mk n6 t2 t3), 0, l_5, n9)
                              | .mk n12 t8 t9 =>
                                (kinfolkref02_Max N (T_kinfolkref02_Event.mk n6 t2 t3)).bind fun n13 =>
                                bif (decide ((1048576 : Int) < n13)) then
                                  some (t, 4, l_5, n9)
                                else
                                  some ((T_kinfolkref02_Event.mk n6 t2 t3), 0, l_5, n9)
                          | .mk n11 t6 t7 =>
                            (kinfolkref02_Max N (T_kinfolkref02_Event.mk n6 t2 t3)).bind fun n12 =>
                            bif (decide ((1048576 : Int) < n12)) then
                              some (t, 4, l_5, n9)
                            else
                              some ((T_kinfolkref02_Event.mk n6 t2 t3), 0, l_5, n9)
                  else
                    match t2 with
                    | .nil =>
                      none
                    | .mk n10 t4 t5 =>
                      bif (decide ((0 : Int) < n10)) then
                        match t3 with
                        | .nil =>
                          none
                        | .mk n11 t6 t7 =>
                          bif (decide ((0 : Int) < n11)) then
                            some (t, 6, l_5, n9)
                          else
                            match t4 with
                            | .nil =>
                              match t6 with
                              | .nil =>
                                bif (decide ((n10 : Int) = n11)) then
                                  some (t, 6, l_5, n9)
                                else
                                  (kinfolkref02_Max N (T_kinfolkref02_Event.mk n6 t2 t3)).bind fun n12 =>
                                  bif (decide ((1048576 : Int) < n12)) then
                                    some (t, 4, l_5, n9)
                                  else
                                    some ((T_kinfolkref02_Event.mk n6 t2 t3), 0, l_5, n9)
                              | .mk n12 t8 t9 =>
                                (kinfolkref02_Max N (T_kinfolkref02_Event.mk n6 t2 t3)).bind fun n13 =>
                                bif (decide ((1048576 : Int) < n13)) then
                                  some (t, 4, l_5, n9)
                                else
                                  some ((T_kinfolkref02_Event.mk n6 t2 t3), 0, l_5, n9)
                            | .mk n12 t8 t9 =>
                              (kinfolkref02_Max N (T_kinfolkref02_Event.mk n6 t2 t3)).bind fun n13 =>
                              bif (decide ((1048576 : Int) < n13)) then
                                some (t, 4, l_5, n9)
                              else
                                some ((T_kinfolkref02_Event.mk n6 t2 t3), 0, l_5, n9)
                      else
                        match t4 with
                        | .nil =>
                          match t3 with
                          | .nil =>
                            none
                          | .mk n11 t6 t7 =>
                            match t6 with
                            | .nil =>
                              bif (decide ((n10 : Int) = n11)) then
                                some (t, 6, l_5, n9)
                              else
                                (kinfolkref02_Max N (T_kinfolkref02_Event.mk n6 t2 t3)).bind fun n12 =>
                                bif (decide ((1048576 : Int) < n12)) then
                                  some (t, 4, l_5, n9)
                                else
                                  some ((T_kinfolkref02_Event.mk n6 t2 t3), 0, l_5, n9)
                            | .mk n12 t8 t9 =>
                              (kinfolkref02_Max N (T_kinfolkref02_Event.mk n6 t2 t3)).bind fun n13 =>
                              bif (decide ((1048576 : Int) < n13)) then
                                some (t, 4, l_5, n9)
                              else
                                some ((T_kinfolkref02_Event.mk n6 t2 t3), 0, l_5, n9)
                        | .mk n11 t6 t7 =>
                          (kinfolkref02_Max N (T_kinfolkref02_Event.mk n6 t2 t3)).bind fun n12 =>
                          bif (decide ((1048576 : Int) < n12)) then
                            some (t, 4, l_5, n9)
                          else
                            some ((T_kinfolkref02_Event.mk n6 t2 t3), 0, l_5, n9)
              | .inr (n9, l_5, n10) =>
                some (t, n9, l_5, n10)
            | .inr (n8, l_4, n9) =>
              some (t, n8, l_4, n9)
          else
            some (t, 6, l_3, n7)
  else
    some (t, 6, l_, n3)
theorem kinfolkref07_GetEvent_4_b_runs (N : Nat) (rec_kinfolkref07_GetEvent_4 : Int → List Bool → Int → Option (T_kinfolkref02_Event × Int × List Bool × Int)) (hrec_kinfolkref07_GetEvent_4 : ∀ depth l n r_, rec_kinfolkref07_GetEvent_4 depth l n = some r_ → Runs Tryd.prog 77 [(.one (.ref 0 0)), (.one (.pv (.int .i64 depth)))] [[(.pv (.bools l false)), (.pv (.int .i64 n))]] [] (kinfolkref07_GetEvent_4_out depth l n r_)) (depth : Int) (l : List Bool) (n : Int) (r_ : T_kinfolkref02_Event × Int × List Bool × Int) (h : kinfolkref07_GetEvent_4_b N rec_kinfolkref07_GetEvent_4 depth l n = some r_) : Runs Tryd.prog 77 [(.one (.ref 0 0)), (.one (.pv (.int .i64 depth)))] [[(.pv (.bools l false)), (.pv (.int .i64 n))]] [] (kinfolkref07_GetEvent_4_out depth l n r_) := by
  unfold kinfolkref07_GetEvent_4_b at h
  obtain ⟨t, h1, h⟩ := bind_of h
  obtain ⟨⟨n2, l_, n3⟩, h2, h⟩ := bind_of h
  rcases cond_of h with ⟨h3, h⟩ | ⟨h3, h⟩
  · rcases cond_of h with ⟨h4, h⟩ | ⟨h4, h⟩
    · obtain ⟨⟨n4, n5, l_2, n6⟩, h5, h⟩ := bind_of h
      rcases cond_of h with ⟨h6, h⟩ | ⟨h6, h⟩
      · obtain ⟨t2, h7, h⟩ := bind_of h
        have h := some_of h
        subst h
        have t_ := tR (kinfolkref02_Leaf_runs 0 _ h1) <| tR (kinfolkref05_Get_2_runs 1 l n _ h2) <| tF (not_of2 h3) <| tT h4 <| tR (kinfolkref07_number_runs l_ n3 _ h5) <| tF (not_of2 h6) <| tR (kinfolkref02_Leaf_runs n4 _ h7) <| tN
        exact runs_of (C := cfg) (objs := [[(.pv (.bools l false)), (.pv (.int .i64 n))]]) (sc := t_.ev) (.k0 t_.pf (by kernel_rfl))
      · have h := some_of h
        subst h
        have t_ := tR (kinfolkref02_Leaf_runs 0 _ h1) <| tR (kinfolkref05_Get_2_runs 1 l n _ h2) <| tF (not_of2 h3) <| tT h4 <| tR (kinfolkref07_number_runs l_ n3 _ h5) <| tT (not_of h6) <| tN
        exact runs_of (C := cfg) (objs := [[(.pv (.bools l false)), (.pv (.int .i64 n))]]) (sc := t_.ev) (.k0 t_.pf (by kernel_rfl))
    · rcases cond_of h with ⟨h5, h⟩ | ⟨h5, h⟩
      · have h := some_of h
        subst h
        have t_ := tR (kinfolkref02_Leaf_runs 0 _ h1) <| tR (kinfolkref05_Get_2_runs 1 l n _ h2) <| tF (not_of2 h3) <| tF h4 <| tT h5 <| tN
        exact runs_of (C := cfg) (objs := [[(.pv (.bools l false)), (.pv (.int .i64 n))]]) (sc := t_.ev) (.k0 t_.pf (by kernel_rfl))
      · obtain ⟨⟨n4, l_2, n5⟩, h6, h⟩ := bind_of h
        obtain ⟨z_, h7, h⟩ := bind_of h
        rcases z_ with ⟨n6, l_3, n7⟩ | ⟨b, b2, n6, l_3, n7⟩
        · have h := some_of h
          subst h
          have t_ := tR (kinfolkref02_Leaf_runs 0 _ h1) <| tR (kinfolkref05_Get_2_runs 1 l n _ h2) <| tF (not_of2 h3) <| tF h4 <| tF h5 <| tR (kinfolkref05_Get_2_runs 2 l_ n3 _ h6) <| tL (kinfolkref07_GetEvent_C53_runs depth t (!(decide ((n4 : Int) = 0))) (!(decide ((n4 : Int) = 1))) (decide ((n4 : Int) = 3)) l_2 n5 _ h7) <| tN
          exact runs_of (C := cfg) (objs := [[(.pv (.bools l false)), (.pv (.int .i64 n))]]) (sc := t_.ev) (.k0 t_.pf (by kernel_rfl))
        · have q_7 := (kinfolkref07_GetEvent_C53_runs depth t (!(decide ((n4 : Int) = 0))) (!(decide ((n4 : Int) = 1))) (decide ((n4 : Int) = 3)) l_2 n5 _ h7)
          rcases cond_of h with ⟨h8, h⟩ | ⟨h8, h⟩
          · obtain ⟨z_, h9, h⟩ := bind_of h
            rcases z_ with ⟨t2, l_4, n8⟩ | ⟨n8, l_4, n9⟩
            · have q_9 := (kinfolkref07_GetEvent_C84_2_runs rec_kinfolkref07_GetEvent_4 hrec_kinfolkref07_GetEvent_4 depth t b b2 n6 t t b l_3 n7 _ h9)
              obtain ⟨z_, h10, h⟩ := bind_of h
              rcases z_ with ⟨t3, l_5, n9⟩ | ⟨n9, l_5, n10⟩
              · have q_10 := (kinfolkref07_GetEvent_C96_runs rec_kinfolkref07_GetEvent_4 hrec_kinfolkref07_GetEvent_4 depth t b b2 n6 t2 t b2 l_4 n8 _ h10)
                rcases cond_of h with ⟨h11, h⟩ | ⟨h11, h⟩
                · obtain ⟨b3, h12, h⟩ := bind_of h
                  rcases cond_of h with ⟨h13, h⟩ | ⟨h13, h⟩
                  · have h := some_of h
                    subst h
                    have t_ := tR (kinfolkref02_Leaf_runs 0 _ h1) <| tR (kinfolkref05_Get_2_runs 1 l n _ h2) <| tF (not_of2 h3) <| tF h4 <| tF h5 <| tR (kinfolkref05_Get_2_runs 2 l_ n3 _ h6) <| tL q_7 <| tF (not_of2 h8) <| tL q_9 <| tL q_10 <| tT h11 <| tR (kinfolkref07_zero_runs t2 _ h12) <| tT h13 <| tT (rfl : true = true) <| tT (rfl : true = true) <| tT (rfl : true = true) <| tN
                    exact runs_of (C := cfg) (objs := [[(.pv (.bools l false)), (.pv (.int .i64 n))]]) (sc := t_.ev) (.k1 t_.pf (by kernel_rfl) (by kernel_rfl))
                  · rcases cond_of h with ⟨h14, h⟩ | ⟨h14, h⟩
                    · obtain ⟨b4, h15, h⟩ := bind_of h
                      rcases cond_of h with ⟨h16, h⟩ | ⟨h16, h⟩
                      · have h := some_of h
                        subst h
                        have t_ := tR (kinfolkref02_Leaf_runs 0 _ h1) <| tR (kinfolkref05_Get_2_runs 1 l n _ h2) <| tF (not_of2 h3) <| tF h4 <| tF h5 <| tR (kinfolkref05_Get_2_runs 2 l_ n3 _ h6) <| tL q_7 <| tF (not_of2 h8) <| tL q_9 <| tL q_10 <| tT h11 <| tR (kinfolkref07_zero_runs t2 _ h12) <| tF h13 <| tT h14 <| tR (kinfolkref07_zero_runs t3 _ h15) <| tT h16 <| tT (rfl : true = true) <| tT (rfl : true = true) <| tN
                        exact runs_of (C := cfg) (objs := [[(.pv (.bools l false)), (.pv (.int .i64 n))]]) (sc := t_.ev) (.k1 t_.pf (by kernel_rfl) (by kernel_rfl))
                      · cases t2 with
                        | nil =>
                          cases h
                        | mk n10 t4 t5 =>
                          rcases cond_of h with ⟨h17, h⟩ | ⟨h17, h⟩
                          · cases t3 with
                            | nil =>
                              cases h
                            | mk n11 t6 t7 =>
                              rcases cond_of h with ⟨h18, h⟩ | ⟨h18, h⟩
                              · have h := some_of h
                                subst h
                                have t_ := tR (kinfolkref02_Leaf_runs 0 _ h1) <| tR (kinfolkref05_Get_2_runs 1 l n _ h2) <| tF (not_of2 h3) <| tF h4 <| tF h5 <| tR (kinfolkref05_Get_2_runs 2 l_ n3 _ h6) <| tL q_7 <| tF (not_of2 h8) <| tL q_9 <| tL q_10 <| tT h11 <| tR (kinfolkref07_zero_runs (T_kinfolkref02_Event.mk n10 t4 t5) _ h12) <| tF h13 <| tT h14 <| tR (kinfolkref07_zero_runs (T_kinfolkref02_Event.mk n11 t6 t7) _ h15) <| tF h16 <| tT h17 <| tT h18 <| tT (rfl : true = true) <| tN
                                exact runs_of (C := cfg) (objs := [[(.pv (.bools l false)), (.pv (.int .i64 n))]]) (sc := t_.ev) (.k1 t_.pf (by kernel_rfl) (by kernel_rfl))
                              · cases t4 with
                                | nil =>
                                  cases t6 with
                                  | nil =>
                                    rcases cond_of h with ⟨h19, h⟩ | ⟨h19, h⟩
                                    · have h := some_of h
                                      subst h
                                      have t_ := tR (kinfolkref02_Leaf_runs 0 _ h1) <| tR (kinfolkref05_Get_2_runs 1 l n _ h2) <| tF (not_of2 h3) <| tF h4 <| tF h5 <| tR (kinfolkref05_Get_2_runs 2 l_ n3 _ h6) <| tL q_7 <| tF (not_of2 h8) <| tL q_9 <| tL q_10 <| tT h11 <| tR (kinfolkref07_zero_runs (T_kinfolkref02_Event.mk n10 T_kinfolkref02_Event.nil t5) _ h12) <| tF h13 <| tT h14 <| tR (kinfolkref07_zero_runs (T_kinfolkref02_Event.mk n11 T_kinfolkref02_Event.nil t7) _ h15) <| tF h16 <| tT h17 <| tF h18 <| tT (rfl : true = true) <| tT (rfl : true = true) <| tT h19 <| tN
                                      exact runs_of (C := cfg) (objs := [[(.pv (.bools l false)), (.pv (.int .i64 n))]]) (sc := t_.ev) (.k0 t_.pf (by kernel_rfl))
                                    · obtain ⟨n12, h20, h⟩ := bind_of h
                                      have q_20 := (Runs.coe (as' := [(.one (.pv (.imm [(.int .u64 n6), (T_kinfolkref02_Event.pv (T_kinfolkref02_Event.mk n10 T_kinfolkref02_Event.nil t5)), (T_kinfolkref02_Event.pv (T_kinfolkref02_Event.mk n11 T_kinfolkref02_Event.nil t7))] 0)))]) (objs' := []) (rows' := []) (kinfolkref02_Max_runs N (T_kinfolkref02_Event.mk n6 (T_kinfolkref02_Event.mk n10 T_kinfolkref02_Event.nil t5) (T_kinfolkref02_Event.mk n11 T_kinfolkref02_Event.nil t7)) _ h20) ⟨.eq rfl, trivial⟩ trivial trivial)
                                      rcases cond_of h with ⟨h21, h⟩ | ⟨h21, h⟩
                                      · have h := some_of h
                                        subst h
                                        have t_ := tR (kinfolkref02_Leaf_runs 0 _ h1) <| tR (kinfolkref05_Get_2_runs 1 l n _ h2) <| tF (not_of2 h3) <| tF h4 <| tF h5 <| tR (kinfolkref05_Get_2_runs 2 l_ n3 _ h6) <| tL q_7 <| tF (not_of2 h8) <| tL q_9 <| tL q_10 <| tT h11 <| tR (kinfolkref07_zero_runs (T_kinfolkref02_Event.mk n10 T_kinfolkref02_Event.nil t5) _ h12) <| tF h13 <| tT h14 <| tR (kinfolkref07_zero_runs (T_kinfolkref02_Event.mk n11 T_kinfolkref02_Event.nil t7) _ h15) <| tF h16 <| tT h17 <| tF h18 <| tT (rfl : true = true) <| tT (rfl : true = true) <| tF h19 <| tR q_20 <| tT h21 <| tN
                                        exact runs_of (C := cfg) (objs := [[(.pv (.bools l false)), (.pv (.int .i64 n))]]) (sc := t_.ev) (.k0 t_.pf (by kernel_rfl))
                                      · have h := some_of h
                                        subst h
                                        have t_ := tR (kinfolkref02_Leaf_runs 0 _ h1) <| tR (kinfolkref05_Get_2_runs 1 l n _ h2) <| tF (not_of2 h3) <| tF h4 <| tF h5 <| tR (kinfolkref05_Get_2_runs 2 l_ n3 _ h6) <| tL q_7 <| tF (not_of2 h8) <| tL q_9 <| tL q_10 <| tT h11 <| tR (kinfolkref07_zero_runs (T_kinfolkref02_Event.mk n10 T_kinfolkref02_Event.nil t5) _ h12) <| tF h13 <| tT h14 <| tR (kinfolkref07_zero_runs (T_kinfolkref02_Event.mk n11 T_kinfolkref02_Event.nil t7) _ h15) <| tF h16 <| tT h17 <| tF h18 <| tT (rfl : true = true) <| tT (rfl : true = true) <| tF h19 <| tR q_20 <| tF h21 <| tN
                                        have e_ : Runs Tryd.prog 77 [(.one (.ref 0 0)), (.one (.pv (.int .i64 depth)))] [[(.pv (.bools l false)), (.pv (.int .i64 n))]] [] ([(.one (.pv (.imm [(.int .u64 n6), (T_kinfolkref02_Event.pv (T_kinfolkref02_Event.mk n10 T_kinfolkref02_Event.nil t5)), (T_kinfolkref02_Event.pv (T_kinfolkref02_Event.mk n11 T_kinfolkref02_Event.nil t7))] 0))), (.one (.pv (.int .i64 0)))], [[(.pv (.bools l_5 false)), (.pv (.int .i64 n9))]], []) := runs_of (C := cfg) (objs := [[(.pv (.bools l false)), (.pv (.int .i64 n))]]) (sc := t_.ev) (.k0 t_.pf (by kernel_rfl))
                                        exact e_.out ⟨.eq rfl, .eq rfl, trivial⟩ ⟨⟨.eq rfl, .eq rfl, trivial⟩, trivial⟩ trivial rfl
                                  | mk n12 t8 t9 =>
                                    obtain ⟨n13, h19, h⟩ := bind_of h
                                    have q_19 := (Runs.coe (as' := [(.one (.pv (.imm [(.int .u64 n6), (T_kinfolkref02_Event.pv (T_kinfolkref02_Event.mk n10 T_kinfolkref02_Event.nil t5)), (T_kinfolkref02_Event.pv (T_kinfolkref02_Event.mk n11 (T_kinfolkref02_Event.mk n12 t8 t9) t7))] 0)))]) (objs' := []) (rows' := []) (kinfolkref02_Max_runs N (T_kinfolkref02_Event.mk n6 (T_kinfolkref02_Event.mk n10 T_kinfolkref02_Event.nil t5) (T_kinfolkref02_Event.mk n11 (T_kinfolkref02_Event.mk n12 t8 t9) t7)) _ h19) ⟨.eq rfl, trivial⟩ trivial trivial)
                                    rcases cond_of h with ⟨h20, h⟩ | ⟨h20, h⟩
                                    · have h := some_of h
                                      subst h
                                      have t_ := tR (kinfolkref02_Leaf_runs 0 _ h1) <| tR (kinfolkref05_Get_2_runs 1 l n _ h2) <| tF (not_of2 h3) <| tF h4 <| tF h5 <| tR (kinfolkref05_Get_2_runs 2 l_ n3 _ h6) <| tL q_7 <| tF (not_of2 h8) <| tL q_9 <| tL q_10 <| tT h11 <| tR (kinfolkref07_zero_runs (T_kinfolkref02_Event.mk n10 T_kinfolkref02_Event.nil t5) _ h12) <| tF h13 <| tT h14 <| tR (kinfolkref07_zero_runs (T_kinfolkref02_Event.mk n11 (T_kinfolkref02_Event.mk n12 t8 t9) t7) _ h15) <| tF h16 <| tT h17 <| tF h18 <| tT (rfl : true = true) <| tF (rfl : false = false) <| tF (rfl : false = false) <| tR q_19 <| tT h20 <| tN
                                      exact runs_of (C := cfg) (objs := [[(.pv (.bools l false)), (.pv (.int .i64 n))]]) (sc := t_.ev) (.k1 t_.pf (by kernel_rfl) (by kernel_rfl))
                                    · have h := some_of h
                                      subst h
                                      have t_ := tR (kinfolkref02_Leaf_runs 0 _ h1) <| tR (kinfolkref05_Get_2_runs 1 l n _ h2) <| tF (not_of2 h3) <| tF h4 <| tF h5 <| tR (kinfolkref05_Get_2_runs 2 l_ n3 _ h6) <| tL q_7 <| tF (not_of2 h8) <| tL q_9 <| tL q_10 <| tT h11 <| tR (kinfolkref07_zero_runs (T_kinfolkref02_Event.mk n10 T_kinfolkref02_Event.nil t5) _ h12) <| tF h13 <| tT h14 <| tR (kinfolkref07_zero_runs (T_kinfolkref02_Event.mk n11 (T_kinfolkref02_Event.mk n12 t8 t9) t7) _ h15) <| tF h16 <| tT h17 <| tF h18 <| tT (rfl : true = true) <| tF (rfl : false = false) <| tF (rfl : false = false) <| tR q_19 <| tF h20 <| tN
                                      have e_ : Runs Tryd.prog 77 [(.one (.ref 0 0)), (.one (.pv (.int .i64 depth)))] [[(.pv (.bools l false)), (.pv (.int .i64 n))]] [] ([(.one (.pv (.imm [(.int .u64 n6), (T_kinfolkref02_Event.pv (T_kinfolkref02_Event.mk n10 T_kinfolkref02_Event.nil t5)), (T_kinfolkref02_Event.pv (T_kinfolkref02_Event.mk n11 (T_kinfolkref02_Event.mk n12 t8 t9) t7))] 0))), (.one (.pv (.int .i64 0)))], [[(.pv (.bools l_5 false)), (.pv (.int .i64 n9))]], []) := runs_of (C := cfg) (objs := [[(.pv (.bools l false)), (.pv (.int .i64 n))]]) (sc := t_.ev) (.k1 t_.pf (by kernel_rfl) (by kernel_rfl))
                                      exact e_.out ⟨.eq rfl, .eq rfl, trivial⟩ ⟨⟨.eq rfl, .eq rfl, trivial⟩, trivial⟩ trivial rfl
                                | mk n12 t8 t9 =>
                                  obtain ⟨n13, h19, h⟩ := bind_of h
                                  have q_19 := (Runs.coe (as' := [(.one (.pv (.imm [(.int .u64 n6), (T_kinfolkref02_Event.pv (T_kinfolkref02_Event.mk n10 (T_kinfolkref02_Event.mk n12 t8 t9) t5)), (T_kinfolkref02_Event.pv (T_kinfolkref02_Event.mk n11 t6 t7))] 0)))]) (objs' := []) (rows' := []) (kinfolkref02_Max_runs N (T_kinfolkref02_Event.mk n6 (T_kinfolkref02_Event.mk n10 (T_kinfolkref02_Event.mk n12 t8 t9) t5) (T_kinfolkref02_Event.mk n11 t6 t7)) _ h19) ⟨.eq rfl, trivial⟩ trivial trivial)
                                  rcases cond_of h with ⟨h20, h⟩ | ⟨h20, h⟩
                                  · have h := some_of h
                                    subst h
                                    have t_ := tR (kinfolkref02_Leaf_runs 0 _ h1) <| tR (kinfolkref05_Get_2_runs 1 l n _ h2) <| tF (not_of2 h3) <| tF h4 <| tF h5 <| tR (kinfolkref05_Get_2_runs 2 l_ n3 _ h6) <| tL q_7 <| tF (not_of2 h8) <| tL q_9 <| tL q_10 <| tT h11 <| tR (kinfolkref07_zero_runs (T_kinfolkref02_Event.mk n10 (T_kinfolkref02_Event.mk n12 t8 t9) t5) _ h12) <| tF h13 <| tT h14 <| tR (kinfolkref07_zero_runs (T_kinfolkref02_Event.mk n11 t6 t7) _ h15) <| tF h16 <| tT h17 <| tF h18 <| tF (rfl : false = false) <| tF (rfl : false = false) <| tF (rfl : false = false) <| tR q_19 <| tT h20 <| tN
                                    exact runs_of (C := cfg) (objs := [[(.pv (.bools l false)), (.pv (.int .i64 n))]]) (sc := t_.ev) (.k1 t_.pf (by kernel_rfl) (by kernel_rfl))
                                  · have h := some_of h
                                    subst h
                                    have t_ := tR (kinfolkref02_Leaf_runs 0 _ h1) <| tR (kinfolkref05_Get_2_runs 1 l n _ h2) <| tF (not_of2 h3) <| tF h4 <| tF h5 <| tR (kinfolkref05_Get_2_runs 2 l_ n3 _ h6) <| tL q_7 <| tF (not_of2 h8) <| tL q_9 <| tL q_10 <| tT h11 <| tR (kinfolkref07_zero_runs (T_kinfolkref02_Event.mk n10 (T_kinfolkref02_Event.mk n12 t8 t9) t5) _ h12) <| tF h13 <| tT h14 <| tR (kinfolkref07_zero_runs (T_kinfolkref02_Event.mk n11 t6 t7) _ h15) <| tF h16 <| tT h17 <| tF h18 <| tF (rfl : false = false) <| tF (rfl : false = false) <| tF (rfl : false = false) <| tR q_19 <| tF h20 <| tN
                                    have e_ : Runs Tryd.prog 77 [(.one (.ref 0 0)), (.one (.pv (.int .i64 depth)))] [[(.pv (.bools l false)), (.pv (.int .i64 n))]] [] ([(.one (.pv (.imm [(.int .u64 n6), (T_kinfolkref02_Event.pv (T_kinfolkref02_Event.mk n10 (T_kinfolkref02_Event.mk n12 t8 t9) t5)), (T_kinfolkref02_Event.pv (T_kinfolkref02_Event.mk n11 t6 t7))] 0))), (.one (.pv (.int .i64 0)))], [[(.pv (.bools l_5 false)), (.pv (.int .i64 n9))]], []) := runs_of (C := cfg) (objs := [[(.pv (.bools l false)), (.pv (.int .i64 n))]]) (sc := t_.ev) (.k1 t_.pf (by kernel_rfl) (by kernel_rfl))
                                    exact e_.out ⟨.eq rfl, .eq rfl, trivial⟩ ⟨⟨.eq rfl, .eq rfl, trivial⟩, trivial⟩ trivial rfl
                          · cases t4 with
                            | nil =>
                              cases t3 with
                              | nil =>
                                cases h
                              | mk n11 t6 t7 =>
                                cases t6 with
                                | nil =>
                                  rcases cond_of h with ⟨h18, h⟩ | ⟨h18, h⟩
                                  · have h := some_of h
                                    subst h
                                    have t_ := tR (kinfolkref02_Leaf_runs 0 _ h1) <| tR (kinfolkref05_Get_2_runs 1 l n _ h2) <| tF (not_of2 h3) <| tF h4 <| tF h5 <| tR (kinfolkref05_Get_2_runs 2 l_ n3 _ h6) <| tL q_7 <| tF (not_of2 h8) <| tL q_9 <| tL q_10 <| tT h11 <| tR (kinfolkref07_zero_runs (T_kinfolkref02_Event.mk n10 T_kinfolkref02_Event.nil t5) _ h12) <| tF h13 <| tT h14 <| tR (kinfolkref07_zero_runs (T_kinfolkref02_Event.mk n11 T_kinfolkref02_Event.nil t7) _ h15) <| tF h16 <| tF h17 <| tF (rfl : false = false) <| tT (rfl : true = true) <| tT (rfl : true = true) <| tT h18 <| tN
                                    exact runs_of (C := cfg) (objs := [[(.pv (.bools l false)), (.pv (.int .i64 n))]]) (sc := t_.ev) (.k0 t_.pf (by kernel_rfl))
                                  · obtain ⟨n12, h19, h⟩ := bind_of h
                                    have q_19 := (Runs.coe (as' := [(.one (.pv (.imm [(.int .u64 n6), (T_kinfolkref02_Event.pv (T_kinfolkref02_Event.mk n10 T_kinfolkref02_Event.nil t5)), (T_kinfolkref02_Event.pv (T_kinfolkref02_Event.mk n11 T_kinfolkref02_Event.nil t7))] 0)))]) (objs' := []) (rows' := []) (kinfolkref02_Max_runs N (T_kinfolkref02_Event.mk n6 (T_kinfolkref02_Event.mk n10 T_kinfolkref02_Event.nil t5) (T_kinfolkref02_Event.mk n11 T_kinfolkref02_Event.nil t7)) _ h19) ⟨.eq rfl, trivial⟩ trivial trivial)
                                    rcases cond_of h with ⟨h20, h⟩ | ⟨h20, h⟩
                                    · have h := some_of h
                                      subst h
                                      have t_ := tR (kinfolkref02_Leaf_runs 0 _ h1) <| tR (kinfolkref05_Get_2_runs 1 l n _ h2) <| tF (not_of2 h3) <| tF h4 <| tF h5 <| tR (kinfolkref05_Get_2_runs 2 l_ n3 _ h6) <| tL q_7 <| tF (not_of2 h8) <| tL q_9 <| tL q_10 <| tT h11 <| tR (kinfolkref07_zero_runs (T_kinfolkref02_Event.mk n10 T_kinfolkref02_Event.nil t5) _ h12) <| tF h13 <| tT h14 <| tR (kinfolkref07_zero_runs (T_kinfolkref02_Event.mk n11 T_kinfolkref02_Event.nil t7) _ h15) <| tF h16 <| tF h17 <| tF (rfl : false = false) <| tT (rfl : true = true) <| tT (rfl : true = true) <| tF h18 <| tR q_19 <| tT h20 <| tN
                                      exact runs_of (C := cfg) (objs := [[(.pv (.bools l false)), (.pv (.int .i64 n))]]) (sc := t_.ev) (.k0 t_.pf (by kernel_rfl))
                                    · have h := some_of h
                                      subst h
                                      have t_ := tR (kinfolkref02_Leaf_runs 0 _ h1) <| tR (kinfolkref05_Get_2_runs 1 l n _ h2) <| tF (not_of2 h3) <| tF h4 <| tF h5 <| tR (kinfolkref05_Get_2_runs 2 l_ n3 _ h6) <| tL q_7 <| tF (not_of2 h8) <| tL q_9 <| tL q_10 <| tT h11 <| tR (kinfolkref07_zero_runs (T_kinfolkref02_Event.mk n10 T_kinfolkref02_Event.nil t5) _ h12) <| tF h13 <| tT h14 <| tR (kinfolkref07_zero_runs (T_kinfolkref02_Event.mk n11 T_kinfolkref02_Event.nil t7) _ h15) <| tF h16 <| tF h17 <| tF (rfl : false = false) <| tT (rfl : true = true) <| tT (rfl : true = true) <| tF h18 <| tR q_19 <| tF h20 <| tN
                                      have e_ : Runs Tryd.prog 77 [(.one (.ref 0 0)), (.one (.pv (.int .i64 depth)))] [[(.pv (.bools l false)), (.pv (.int .i64 n))]] [] ([(.one (.pv (.imm [(.int .u64 n6), (T_kinfolkref02_Event.pv (T_kinfolkref02_Event.mk n10 T_kinfolkref02_Event.nil t5)), (T_kinfolkref02_Event.pv (T_kinfolkref02_Event.mk n11 T_kinfolkref02_Event.nil t7))] 0))), (.one (.pv (.int .i64 0)))], [[(.pv (.bools l_5 false)), (.pv (.int .i64 n9))]], []) := runs_of (C := cfg) (objs := [[(.pv (.bools l false)), (.pv (.int .i64 n))]]) (sc := t_.ev) (.k0 t_.pf (by kernel_rfl))
                                      exact e_.out ⟨.eq rfl, .eq rfl, trivial⟩ ⟨⟨.eq rfl, .eq rfl, trivial⟩, trivial⟩ trivial rfl
                                | mk n12 t8 t9 =>
                                  obtain ⟨n13, h18, h⟩ := bind_of h
                                  have q_18 := (Runs.coe (as' := [(.one (.pv (.imm [(.int .u64 n6), (T_kinfolkref02_Event.pv (T_kinfolkref02_Event.mk n10 T_kinfolkref02_Event.nil t5)), (T_kinfolkref02_Event.pv (T_kinfolkref02_Event.mk n11 (T_kinfolkref02_Event.mk n12 t8 t9) t7))] 0)))]) (objs' := []) (rows' := []) (kinfolkref02_Max_runs N (T_kinfolkref02_Event.mk n6 (T_kinfolkref02_Event.mk n10 T_kinfolkref02_Event.nil t5) (T_kinfolkref02_Event.mk n11 (T_kinfolkref02_Event.mk n12 t8 t9) t7)) _ h18) ⟨.eq rfl, trivial⟩ trivial trivial)
                                  rcases cond_of h with ⟨h19, h⟩ | ⟨h19, h⟩
                                  · have h := some_of h
                                    subst h
                                    have t_ := tR (kinfolkref02_Leaf_runs 0 _ h1) <| tR (kinfolkref05_Get_2_runs 1 l n _ h2) <| tF (not_of2 h3) <| tF h4 <| tF h5 <| tR (kinfolkref05_Get_2_runs 2 l_ n3 _ h6) <| tL q_7 <| tF (not_of2 h8) <| tL q_9 <| tL q_10 <| tT h11 <| tR (kinfolkref07_zero_runs (T_kinfolkref02_Event.mk n10 T_kinfolkref02_Event.nil t5) _ h12) <| tF h13 <| tT h14 <| tR (kinfolkref07_zero_runs (T_kinfolkref02_Event.mk n11 (T_kinfolkref02_Event.mk n12 t8 t9) t7) _ h15) <| tF h16 <| tF h17 <| tF (rfl : false = false) <| tT (rfl : true = true) <| tF (rfl : false = false) <| tF (rfl : false = false) <| tR q_18 <| tT h19 <| tN
                                    exact runs_of (C := cfg) (objs := [[(.pv (.bools l false)), (.pv (.int .i64 n))]]) (sc := t_.ev) (.k1 t_.pf (by kernel_rfl) (by kernel_rfl))
                                  · have h := some_of h
                                    subst h
                                    have t_ := tR (kinfolkref02_Leaf_runs 0 _ h1) <| tR (kinfolkref05_Get_2_runs 1 l n _ h2) <| tF (not_of2 h3) <| tF h4 <| tF h5 <| tR (kinfolkref05_Get_2_runs 2 l_ n3 _ h6) <| tL q_7 <| tF (not_of2 h8) <| tL q_9 <| tL q_10 <| tT h11 <| tR (kinfolkref07_zero_runs (T_kinfolkref02_Event.mk n10 T_kinfolkref02_Event.nil t5) _ h12) <| tF h13 <| tT h14 <| tR (kinfolkref07_zero_runs (T_kinfolkref02_Event.mk n11 (T_kinfolkref02_Event.mk n12 t8 t9) t7) _ h15) <| tF h16 <| tF h17 <| tF (rfl : false = false) <| tT (rfl : true = true) <| tF (rfl : false = false) <| tF (rfl : false = false) <| tR q_18 <| tF h19 <| tN
                                    have e_ : Runs Tryd.prog 77 [(.one (.ref 0 0)), (.one (.pv (.int .i64 depth)))] [[(.pv (.bools l false)), (.pv (.int .i64 n))]] [] ([(.one (.pv (.imm [(.int .u64 n6), (T_kinfolkref02_Event.pv (T_kinfolkref02_Event.mk n10 T_kinfolkref02_Event.nil t5)), (T_kinfolkref02_Event.pv (T_kinfolkref02_Event.mk n11 (T_kinfolkref02_Event.mk n12 t8 t9) t7))] 0))), (.one (.pv (.int .i64 0)))], [[(.pv (.bools l_5 false)), (.pv (.int .i64 n9))]], []) := runs_of (C := cfg) (objs := [[(.pv (.bools l false)), (.pv (.int .i64 n))]]) (sc := t_.ev) (.k1 t_.pf (by kernel_rfl) (by kernel_rfl))
                                    exact e_.out ⟨.eq rfl, .eq rfl, trivial⟩ ⟨⟨.eq rfl, .eq rfl, trivial⟩, trivial⟩ trivial rfl
                            | mk n11 t6 t7 =>
                              obtain ⟨n12, h18, h⟩ := bind_of h
                              have q_18 := (Runs.coe (as' := [(.one (.pv (.imm [(.int .u64 n6), (T_kinfolkref02_Event.pv (T_kinfolkref02_Event.mk n10 (T_kinfolkref02_Event.mk n11 t6 t7) t5)), (T_kinfolkref02_Event.pv t3)] 0)))]) (objs' := []) (rows' := []) (kinfolkref02_Max_runs N (T_kinfolkref02_Event.mk n6 (T_kinfolkref02_Event.mk n10 (T_kinfolkref02_Event.mk n11 t6 t7) t5) t3) _ h18) ⟨.eq rfl, trivial⟩ trivial trivial)
                              rcases cond_of h with ⟨h19, h⟩ | ⟨h19, h⟩
                              · have h := some_of h
                                subst h
                                have t_ := tR (kinfolkref02_Leaf_runs 0 _ h1) <| tR (kinfolkref05_Get_2_runs 1 l n _ h2) <| tF (not_of2 h3) <| tF h4 <| tF h5 <| tR (kinfolkref05_Get_2_runs 2 l_ n3 _ h6) <| tL q_7 <| tF (not_of2 h8) <| tL q_9 <| tL q_10 <| tT h11 <| tR (kinfolkref07_zero_runs (T_kinfolkref02_Event.mk n10 (T_kinfolkref02_Event.mk n11 t6 t7) t5) _ h12) <| tF h13 <| tT h14 <| tR (kinfolkref07_zero_runs t3 _ h15) <| tF h16 <| tF h17 <| tF (rfl : false = false) <| tF (rfl : false = false) <| tF (rfl : false = false) <| tF (rfl : false = false) <| tR q_18 <| tT h19 <| tN
                                exact runs_of (C := cfg) (objs := [[(.pv (.bools l false)), (.pv (.int .i64 n))]]) (sc := t_.ev) (.k1 t_.pf (by kernel_rfl) (by kernel_rfl))
                              · have h := some_of h
                                subst h
                                have t_ := tR (kinfolkref02_Leaf_runs 0 _ h1) <| tR (kinfolkref05_Get_2_runs 1 l n _ h2) <| tF (not_of2 h3) <| tF h4 <| tF h5 <| tR (kinfolkref05_Get_2_runs 2 l_ n3 _ h6) <| tL q_7 <| tF (not_of2 h8) <| tL q_9 <| tL q_10 <| tT h11 <| tR (kinfolkref07_zero_runs (T_kinfolkref02_Event.mk n10 (T_kinfolkref02_Event.mk n11 t6 t7) t5) _ h12) <| tF h13 <| tT h14 <| tR (kinfolkref07_zero_runs t3 _ h15) <| tF h16 <| tF h17 <| tF (rfl : false = false) <| tF (rfl : false = false) <| tF (rfl : false = false) <| tF (rfl : false = false) <| tR q_18 <| tF h19 <| tN
                                have e_ : Runs Tryd.prog 77 [(.one (.ref 0 0)), (.one (.pv (.int .i64 depth)))] [[(.pv (.bools l false)), (.pv (.int .i64 n))]] [] ([(.one (.pv (.imm [(.int .u64 n6), (T_kinfolkref02_Event.pv (T_kinfolkref02_Event.mk n10 (T_kinfolkref02_Event.mk n11 t6 t7) t5)), (T_kinfolkref02_Event.pv t3)] 0))), (.one (.pv (.int .i64 0)))], [[(.pv (.bools l_5 false)), (.pv (.int .i64 n9))]], []) := runs_of (C := cfg) (objs := [[(.pv (.bools l false)), (.pv (.int .i64 n))]]) (sc := t_.ev) (.k1 t_.pf (by kernel_rfl) (by kernel_rfl))
                                exact e_.out ⟨.eq rfl, .eq rfl, trivial⟩ ⟨⟨.eq rfl, .eq rfl, trivial⟩, trivial⟩ trivial rfl
                    · cases t2 with
                      | nil =>
                        cases h
                      | mk n10 t4 t5 =>
                        rcases cond_of h with ⟨h15, h⟩ | ⟨h15, h⟩
                        · cases t3 with
                          | nil =>
                            cases h
                          | mk n11 t6 t7 =>
                            rcases cond_of h with ⟨h16, h⟩ | ⟨h16, h⟩
                            · have h := some_of h
                              subst h
                              have t_ := tR (kinfolkref02_Leaf_runs 0 _ h1) <| tR (kinfolkref05_Get_2_runs 1 l n _ h2) <| tF (not_of2 h3) <| tF h4 <| tF h5 <| tR (kinfolkref05_Get_2_runs 2 l_ n3 _ h6) <| tL q_7 <| tF (not_of2 h8) <| tL q_9 <| tL q_10 <| tT h11 <| tR (kinfolkref07_zero_runs (T_kinfolkref02_Event.mk n10 t4 t5) _ h12) <| tF h13 <| tF h14 <| tF (rfl : false = false) <| tT h15 <| tT h16 <| tT (rfl : true = true) <| tN
                              exact runs_of (C := cfg) (objs := [[(.pv (.bools l false)), (.pv (.int .i64 n))]]) (sc := t_.ev) (.k1 t_.pf (by kernel_rfl) (by kernel_rfl))
                            · cases t4 with
                              | nil =>
                                cases t6 with
                                | nil =>
                                  rcases cond_of h with ⟨h17, h⟩ | ⟨h17, h⟩
                                  · have h := some_of h
                                    subst h
                                    have t_ := tR (kinfolkref02_Leaf_runs 0 _ h1) <| tR (kinfolkref05_Get_2_runs 1 l n _ h2) <| tF (not_of2 h3) <| tF h4 <| tF h5 <| tR (kinfolkref05_Get_2_runs 2 l_ n3 _ h6) <| tL q_7 <| tF (not_of2 h8) <| tL q_9 <| tL q_10 <| tT h11 <| tR (kinfolkref07_zero_runs (T_kinfolkref02_Event.mk n10 T_kinfolkref02_Event.nil t5) _ h12) <| tF h13 <| tF h14 <| tF (rfl : false = false) <| tT h15 <| tF h16 <| tT (rfl : true = true) <| tT (rfl : true = true) <| tT h17 <| tN
                                    exact runs_of (C := cfg) (objs := [[(.pv (.bools l false)), (.pv (.int .i64 n))]]) (sc := t_.ev) (.k0 t_.pf (by kernel_rfl))
                                  · obtain ⟨n12, h18, h⟩ := bind_of h
                                    have q_18 := (Runs.coe (as' := [(.one (.pv (.imm [(.int .u64 n6), (T_kinfolkref02_Event.pv (T_kinfolkref02_Event.mk n10 T_kinfolkref02_Event.nil t5)), (T_kinfolkref02_Event.pv (T_kinfolkref02_Event.mk n11 T_kinfolkref02_Event.nil t7))] 0)))]) (objs' := []) (rows' := []) (kinfolkref02_Max_runs N (T_kinfolkref02_Event.mk n6 (T_kinfolkref02_Event.mk n10 T_kinfolkref02_Event.nil t5) (T_kinfolkref02_Event.mk n11 T_kinfolkref02_Event.nil t7)) _ h18) ⟨.eq rfl, trivial⟩ trivial trivial)
                                    rcases cond_of h with ⟨h19, h⟩ | ⟨h19, h⟩
                                    · have h := some_of h
                                      subst h
                                      have t_ := tR (kinfolkref02_Leaf_runs 0 _ h1) <| tR (kinfolkref05_Get_2_runs 1 l n _ h2) <| tF (not_of2 h3) <| tF h4 <| tF h5 <| tR (kinfolkref05_Get_2_runs 2 l_ n3 _ h6) <| tL q_7 <| tF (not_of2 h8) <| tL q_9 <| tL q_10 <| tT h11 <| tR (kinfolkref07_zero_runs (T_kinfolkref02_Event.mk n10 T_kinfolkref02_Event.nil t5) _ h12) <| tF h13 <| tF h14 <| tF (rfl : false = false) <| tT h15 <| tF h16 <| tT (rfl : true = true) <| tT (rfl : true = true) <| tF h17 <| tR q_18 <| tT h19 <| tN
                                      exact runs_of (C := cfg) (objs := [[(.pv (.bools l false)), (.pv (.int .i64 n))]]) (sc := t_.ev) (.k0 t_.pf (by kernel_rfl))
                                    · have h := some_of h
                                      subst h
                                      have t_ := tR (kinfolkref02_Leaf_runs 0 _ h1) <| tR (kinfolkref05_Get_2_runs 1 l n _ h2) <| tF (not_of2 h3) <| tF h4 <| tF h5 <| tR (kinfolkref05_Get_2_runs 2 l_ n3 _ h6) <| tL q_7 <| tF (not_of2 h8) <| tL q_9 <| tL q_10 <| tT h11 <| tR (kinfolkref07_zero_runs (T_kinfolkref02_Event.mk n10 T_kinfolkref02_Event.nil t5) _ h12) <| tF h13 <| tF h14 <| tF (rfl : false = false) <| tT h15 <| tF h16 <| tT (rfl : true = true) <| tT (rfl : true = true) <| tF h17 <| tR q_18 <| tF h19 <| tN
                                      have e_ : Runs Tryd.prog 77 [(.one (.ref 0 0)), (.one (.pv (.int .i64 depth)))] [[(.pv (.bools l false)), (.pv (.int .i64 n))]] [] ([(.one (.pv (.imm [(.int .u64 n6), (T_kinfolkref02_Event.pv (T_kinfolkref02_Event.mk n10 T_kinfolkref02_Event.nil t5)), (T_kinfolkref02_Event.pv (T_kinfolkref02_Event.mk n11 T_kinfolkref02_Event.nil t7))] 0))), (.one (.pv (.int .i64 0)))], [[(.pv (.bools l_5 false)), (.pv (.int .i64 n9))]], []) := runs_of (C := cfg) (objs := [[(.pv (.bools l false)), (.pv (.int .i64 n))]]) (sc := t_.ev) (.k0 t_.pf (by kernel_rfl))
                                      exact e_.out ⟨.eq rfl, .eq rfl, trivial⟩ ⟨⟨.eq rfl, .eq rfl, trivial⟩, trivial⟩ trivial rfl
                                | mk n12 t8 t9 =>
                                  obtain ⟨n13, h17, h⟩ := bind_of h
                                  have q_17 := (Runs.coe (as' := [(.one (.pv (.imm [(.int .u64 n6), (T_kinfolkref02_Event.pv (T_kinfolkref02_Event.mk n10 T_kinfolkref02_Event.nil t5)), (T_kinfolkref02_Event.pv (T_kinfolkref02_Event.mk n11 (T_kinfolkref02_Event.mk n12 t8 t9) t7))] 0)))]) (objs' := []) (rows' := []) (kinfolkref02_Max_runs N (T_kinfolkref02_Event.mk n6 (T_kinfolkref02_Event.mk n10 T_kinfolkref02_Event.nil t5) (T_kinfolkref02_Event.mk n11 (T_kinfolkref02_Event.mk n12 t8 t9) t7)) _ h17) ⟨.eq rfl, trivial⟩ trivial trivial)
                                  rcases cond_of h with ⟨h18, h⟩ | ⟨h18, h⟩
                                  · have h := some_of h
                                    subst h
                                    have t_ := tR (kinfolkref02_Leaf_runs 0 _ h1) <| tR (kinfolkref05_Get_2_runs 1 l n _ h2) <| tF (not_of2 h3) <| tF h4 <| tF h5 <| tR (kinfolkref05_Get_2_runs 2 l_ n3 _ h6) <| tL q_7 <| tF (not_of2 h8) <| tL q_9 <| tL q_10 <| tT h11 <| tR (kinfolkref07_zero_runs (T_kinfolkref02_Event.mk n10 T_kinfolkref02_Event.nil t5) _ h12) <| tF h13 <| tF h14 <| tF (rfl : false = false) <| tT h15 <| tF h16 <| tT (rfl : true = true) <| tF (rfl : false = false) <| tF (rfl : false = false) <| tR q_17 <| tT h18 <| tN
                                    exact runs_of (C := cfg) (objs := [[(.pv (.bools l false)), (.pv (.int .i64 n))]]) (sc := t_.ev) (.k1 t_.pf (by kernel_rfl) (by kernel_rfl))
                                  · have h := some_of h
                                    subst h
                                    have t_ := tR (kinfolkref02_Leaf_runs 0 _ h1) <| tR (kinfolkref05_Get_2_runs 1 l n _ h2) <| tF (not_of2 h3) <| tF h4 <| tF h5 <| tR (kinfolkref05_Get_2_runs 2 l_ n3 _ h6) <| tL q_7 <| tF (not_of2 h8) <| tL q_9 <| tL q_10 <| tT h11 <| tR (kinfolkref07_zero_runs (T_kinfolkref02_Event.mk n10 T_kinfolkref02_Event.nil t5) _ h12) <| tF h13 <| tF h14 <| tF (rfl : false = false) <| tT h15 <| tF h16 <| tT (rfl : true = true) <| tF (rfl : false = false) <| tF (rfl : false = false) <| tR q_17 <| tF h18 <| tN
                                    have e_ : Runs Tryd.prog 77 [(.one (.ref 0 0)), (.one (.pv (.int .i64 depth)))] [[(.pv (.bools l false)), (.pv (.int .i64 n))]] [] ([(.one (.pv (.imm [(.int .u64 n6), (T_kinfolkref02_Event.pv (T_kinfolkref02_Event.mk n10 T_kinfolkref02_Event.nil t5)), (T_kinfolkref02_Event.pv (T_kinfolkref02_Event.mk n11 (T_kinfolkref02_Event.mk n12 t8 t9) t7))] 0))), (.one (.pv (.int .i64 0)))], [[(.pv (.bools l_5 false)), (.pv (.int .i64 n9))]], []) := runs_of (C := cfg) (objs := [[(.pv (.bools l false)), (.pv (.int .i64 n))]]) (sc := t_.ev) (.k1 t_.pf (by kernel_rfl) (by kernel_rfl))
                                    exact e_.out ⟨.eq rfl, .eq rfl, trivial⟩ ⟨⟨.eq rfl, .eq rfl, trivial⟩, trivial⟩ trivial rfl
                              | mk n12 t8 t9 =>
                                obtain ⟨n13, h17, h⟩ := bind_of h
                                have q_17 := (Runs.coe (as' := [(.one (.pv (.imm [(.int .u64 n6), (T_kinfolkref02_Event.pv (T_kinfolkref02_Event.mk n10 (T_kinfolkref02_Event.mk n12 t8 t9) t5)), (T_kinfolkref02_Event.pv (T_kinfolkref02_Event.mk n11 t6 t7))] 0)))]) (objs' := []) (rows' := []) (kinfolkref02_Max_runs N (T_kinfolkref02_Event.mk n6 (T_kinfolkref02_Event.mk n10 (T_kinfolkref02_Event.mk n12 t8 t9) t5) (T_kinfolkref02_Event.mk n11 t6 t7)) _ h17) ⟨.eq rfl, trivial⟩ trivial trivial)
                                rcases cond_of h with ⟨h18, h⟩ | ⟨h18, h⟩
                                · have h := some_of h
                                  subst h
                                  have t_ := tR (kinfolkref02_Leaf_runs 0 _ h1) <| tR (kinfolkref05_Get_2_runs 1 l n _ h2) <| tF (not_of2 h3) <| tF h4 <| tF h5 <| tR (kinfolkref05_Get_2_runs 2 l_ n3 _ h6) <| tL q_7 <| tF (not_of2 h8) <| tL q_9 <| tL q_10 <| tT h11 <| tR (kinfolkref07_zero_runs (T_kinfolkref02_Event.mk n10 (T_kinfolkref02_Event.mk n12 t8 t9) t5) _ h12) <| tF h13 <| tF h14 <| tF (rfl : false = false) <| tT h15 <| tF h16 <| tF (rfl : false = false) <| tF (rfl : false = false) <| tF (rfl : false = false) <| tR q_17 <| tT h18 <| tN
                                  exact runs_of (C := cfg) (objs := [[(.pv (.bools l false)), (.pv (.int .i64 n))]]) (sc := t_.ev) (.k1 t_.pf (by kernel_rfl) (by kernel_rfl))
                                · have h := some_of h
                                  subst h
                                  have t_ := tR (kinfolkref02_Leaf_runs 0 _ h1) <| tR (kinfolkref05_Get_2_runs 1 l n _ h2) <| tF (not_of2 h3) <| tF h4 <| tF h5 <| tR (kinfolkref05_Get_2_runs 2 l_ n3 _ h6) <| tL q_7 <| tF (not_of2 h8) <| tL q_9 <| tL q_10 <| tT h11 <| tR (kinfolkref07_zero_runs (T_kinfolkref02_Event.mk n10 (T_kinfolkref02_Event.mk n12 t8 t9) t5) _ h12) <| tF h13 <| tF h14 <| tF (rfl : false = false) <| tT h15 <| tF h16 <| tF (rfl : false = false) <| tF (rfl : false = false) <| tF (rfl : false = false) <| tR q_17 <| tF h18 <| tN
                                  have e_ : Runs Tryd.prog 77 [(.one (.ref 0 0)), (.one (.pv (.int .i64 depth)))] [[(.pv (.bools l false)), (.pv (.int .i64 n))]] [] ([(.one (.pv (.imm [(.int .u64 n6), (T_kinfolkref02_Event.pv (T_kinfolkref02_Event.mk n10 (T_kinfolkref02_Event.mk n12 t8 t9) t5)), (T_kinfolkref02_Event.pv (T_kinfolkref02_Event.mk n11 t6 t7))] 0))), (.one (.pv (.int .i64 0)))], [[(.pv (.bools l_5 false)), (.pv (.int .i64 n9))]], []) := runs_of (C := cfg) (objs := [[(.pv (.bools l false)), (.pv (.int .i64 n))]]) (sc := t_.ev) (.k1 t_.pf (by kernel_rfl) (by kernel_rfl))
                                  exact e_.out ⟨.eq rfl, .eq rfl, trivial⟩ ⟨⟨.eq rfl, .eq rfl, trivial⟩, trivial⟩ trivial rfl
                        · cases t4 with
                          | nil =>
                            cases t3 with
                            | nil =>
                              cases h
                            | mk n11 t6 t7 =>
                              cases t6 with
                              | nil =>
                                rcases cond_of h with ⟨h16, h⟩ | ⟨h16, h⟩
                                · have h := some_of h
                                  subst h
                                  have t_ := tR (kinfolkref02_Leaf_runs 0 _ h1) <| tR (kinfolkref05_Get_2_runs 1 l n _ h2) <| tF (not_of2 h3) <| tF h4 <| tF h5 <| tR (kinfolkref05_Get_2_runs 2 l_ n3 _ h6) <| tL q_7 <| tF (not_of2 h8) <| tL q_9 <| tL q_10 <| tT h11 <| tR (kinfolkref07_zero_runs (T_kinfolkref02_Event.mk n10 T_kinfolkref02_Event.nil t5) _ h12) <| tF h13 <| tF h14 <| tF (rfl : false = false) <| tF h15 <| tF (rfl : false = false) <| tT (rfl : true = true) <| tT (rfl : true = true) <| tT h16 <| tN
                                  exact runs_of (C := cfg) (objs := [[(.pv (.bools l false)), (.pv (.int .i64 n))]]) (sc := t_.ev) (.k0 t_.pf (by kernel_rfl))
                                · obtain ⟨n12, h17, h⟩ := bind_of h
                                  have q_17 := (Runs.coe (as' := [(.one (.pv (.imm [(.int .u64 n6), (T_kinfolkref02_Event.pv (T_kinfolkref02_Event.mk n10 T_kinfolkref02_Event.nil t5)), (T_kinfolkref02_Event.pv (T_kinfolkref02_Event.mk n11 T_kinfolkref02_Event.nil t7))] 0)))]) (objs' := []) (rows' := []) (kinfolkref02_Max_runs N (T_kinfolkref02_Event.mk n6 (T_kinfolkref02_Event.mk n10 T_kinfolkref02_Event.nil t5) (T_kinfolkref02_Event.mk n11 T_kinfolkref02_Event.nil t7)) _ h17) ⟨.eq rfl, trivial⟩ trivial trivial)
                                  rcases cond_of h with ⟨h18, h⟩ | ⟨h18, h⟩
                                  · have h := some_of h
                                    subst h
                                    have t_ := tR (kinfolkref02_Leaf_runs 0 _ h1) <| tR (kinfolkref05_Get_2_runs 1 l n _ h2) <| tF (not_of2 h3) <| tF h4 <| tF h5 <| tR (kinfolkref05_Get_2_runs 2 l_ n3 _ h6) <| tL q_7 <| tF (not_of2 h8) <| tL q_9 <| tL q_10 <| tT h11 <| tR (kinfolkref07_zero_runs (T_kinfolkref02_Event.mk n10 T_kinfolkref02_Event.nil t5) _ h12) <| tF h13 <| tF h14 <| tF (rfl : false = false) <| tF h15 <| tF (rfl : false = false) <| tT (rfl : true = true) <| tT (rfl : true = true) <| tF h16 <| tR q_17 <| tT h18 <| tN
                                    exact runs_of (C := cfg) (objs := [[(.pv (.bools l false)), (.pv (.int .i64 n))]]) (sc := t_.ev) (.k0 t_.pf (by kernel_rfl))
                                  · have h := some_of h
                                    subst h
                                    have t_ := tR (kinfolkref02_Leaf_runs 0 _ h1) <| tR (kinfolkref05_Get_2_runs 1 l n _ h2) <| tF (not_of2 h3) <| tF h4 <| tF h5 <| tR (kinfolkref05_Get_2_runs 2 l_ n3 _ h6) <| tL q_7 <| tF (not_of2 h8) <| tL q_9 <| tL q_10 <| tT h11 <| tR (kinfolkref07_zero_runs (T_kinfolkref02_Event.mk n10 T_kinfolkref02_Event.nil t5) _ h12) <| tF h13 <| tF h14 <| tF (rfl : false = false) <| tF h15 <| tF (rfl : false = false) <| tT (rfl : true = true) <| tT (rfl : true = true) <| tF h16 <| tR q_17 <| tF h18 <| tN
                                    have e_ : Runs Tryd.prog 77 [(.one (.ref 0 0)), (.one (.pv (.int .i64 depth)))] [[(.pv (.bools l false)), (.pv (.int .i64 n))]] [] ([(.one (.pv (.imm [(.int .u64 n6), (T_kinfolkref02_Event.pv (T_kinfolkref02_Event.mk n10 T_kinfolkref02_Event.nil t5)), (T_kinfolkref02_Event.pv (T_kinfolkref02_Event.mk n11 T_kinfolkref02_Event.nil t7))] 0))), (.one (.pv (.int .i64 0)))], [[(.pv (.bools l_5 false)), (.pv (.int .i64 n9))]], []) := runs_of (C := cfg) (objs := [[(.pv (.bools l false)), (.pv (.int .i64 n))]]) (sc := t_.ev) (.k0 t_.pf (by kernel_rfl))
                                    exact e_.out ⟨.eq rfl, .eq rfl, trivial⟩ ⟨⟨.eq rfl, .eq rfl, trivial⟩, trivial⟩ trivial rfl
                              | mk n12 t8 t9 =>
                                obtain ⟨n13, h16, h⟩ := bind_of h
                                have q_16 := (Runs.coe (as' := [(.one (.pv (.imm [(.int .u64 n6), (T_kinfolkref02_Event.pv (T_kinfolkref02_Event.mk n10 T_kinfolkref02_Event.nil t5)), (T_kinfolkref02_Event.pv (T_kinfolkref02_Event.mk n11 (T_kinfolkref02_Event.mk n12 t8 t9) t7))] 0)))]) (objs' := []) (rows' := []) (kinfolkref02_Max_runs N (T_kinfolkref02_Event.mk n6 (T_kinfolkref02_Event.mk n10 T_kinfolkref02_Event.nil t5) (T_kinfolkref02_Event.mk n11 (T_kinfolkref02_Event.mk n12 t8 t9) t7)) _ h16) ⟨.eq rfl, trivial⟩ trivial trivial)
                                rcases cond_of h with ⟨h17, h⟩ | ⟨h17, h⟩
                                · have h := some_of h
                                  subst h
                                  have t_ := tR (kinfolkref02_Leaf_runs 0 _ h1) <| tR (kinfolkref05_Get_2_runs 1 l n _ h2) <| tF (not_of2 h3) <| tF h4 <| tF h5 <| tR (kinfolkref05_Get_2_runs 2 l_ n3 _ h6) <| tL q_7 <| tF (not_of2 h8) <| tL q_9 <| tL q_10 <| tT h11 <| tR (kinfolkref07_zero_runs (T_kinfolkref02_Event.mk n10 T_kinfolkref02_Event.nil t5) _ h12) <| tF h13 <| tF h14 <| tF (rfl : false = false) <| tF h15 <| tF (rfl : false = false) <| tT (rfl : true = true) <| tF (rfl : false = false) <| tF (rfl : false = false) <| tR q_16 <| tT h17 <| tN
                                  exact runs_of (C := cfg) (objs := [[(.pv (.bools l false)), (.pv (.int .i64 n))]]) (sc := t_.ev) (.k1 t_.pf (by kernel_rfl) (by kernel_rfl))
                                · have h := some_of h
                                  subst h
                                  have t_ := tR (kinfolkref02_Leaf_runs 0 _ h1) <| tR (kinfolkref05_Get_2_runs 1 l n _ h2) <| tF (not_of2 h3) <| tF h4 <| tF h5 <| tR (kinfolkref05_Get_2_runs 2 l_ n3 _ h6) <| tL q_7 <| tF (not_of2 h8) <| tL q_9 <| tL q_10 <| tT h11 <| tR (kinfolkref07_zero_runs (T_kinfolkref02_Event.mk n10 T_kinfolkref02_Event.nil t5) _ h12) <| tF h13 <| tF h14 <| tF (rfl : false = false) <| tF h15 <| tF (rfl : false = false) <| tT (rfl : true = true) <| tF (rfl : false = false) <| tF (rfl : false = false) <| tR q_16 <| tF h17 <| tN
                                  have e_ : Runs Tryd.prog 77 [(.one (.ref 0 0)), (.one (.pv (.int .i64 depth)))] [[(.pv (.bools l false)), (.pv (.int .i64 n))]] [] ([(.one (.pv (.imm [(.int .u64 n6), (T_kinfolkref02_Event.pv (T_kinfolkref02_Event.mk n10 T_kinfolkref02_Event.nil t5)), (T_kinfolkref02_Event.pv (T_kinfolkref02_Event.mk n11 (T_kinfolkref02_Event.mk n12 t8 t9) t7))] 0))), (.one (.pv (.int .i64 0)))], [[(.pv (.bools l_5 false)), (.pv (.int .i64 n9))]], []) := runs_of (C := cfg) (objs := [[(.pv (.bools l false)), (.pv (.int .i64 n))]]) (sc := t_.ev) (.k1 t_.pf (by kernel_rfl) (by kernel_rfl))
                                  exact e_.out ⟨.eq rfl, .eq rfl, trivial⟩ ⟨⟨.eq rfl, .eq rfl, trivial⟩, trivial⟩ trivial rfl
                          | mk n11 t6 t7 =>
                            obtain ⟨n12, h16, h⟩ := bind_of h
                            have q_16 := (Runs.coe (as' := [(.one (.pv (.imm [(.int .u64 n6), (T_kinfolkref02_Event.pv (T_kinfolkref02_Event.mk n10 (T_kinfolkref02_Event.mk n11 t6 t7) t5)), (T_kinfolkref02_Event.pv t3)] 0)))]) (objs' := []) (rows' := []) (kinfolkref02_Max_runs N (T_kinfolkref02_Event.mk n6 (T_kinfolkref02_Event.mk n10 (T_kinfolkref02_Event.mk n11 t6 t7) t5) t3) _ h16) ⟨.eq rfl, trivial⟩ trivial trivial)
                            rcases cond_of h with ⟨h17, h⟩ | ⟨h17, h⟩
                            · have h := some_of h
                              subst h
                              have t_ := tR (kinfolkref02_Leaf_runs 0 _ h1) <| tR (kinfolkref05_Get_2_runs 1 l n _ h2) <| tF (not_of2 h3) <| tF h4 <| tF h5 <| tR (kinfolkref05_Get_2_runs 2 l_ n3 _ h6) <| tL q_7 <| tF (not_of2 h8) <| tL q_9 <| tL q_10 <| tT h11 <| tR (kinfolkref07_zero_runs (T_kinfolkref02_Event.mk n10 (T_kinfolkref02_Event.mk n11 t6 t7) t5) _ h12) <| tF h13 <| tF h14 <| tF (rfl : false = false) <| tF h15 <| tF (rfl : false = false) <| tF (rfl : false = false) <| tF (rfl : false = false) <| tF (rfl : false = false) <| tR q_16 <| tT h17 <| tN
                              exact runs_of (C := cfg) (objs := [[(.pv (.bools l false)), (.pv (.int .i64 n))]]) (sc := t_.ev) (.k1 t_.pf (by kernel_rfl) (by kernel_rfl))
                            · have h := some_of h
                              subst h
                              have t_ := tR (kinfolkref02_Leaf_runs 0 _ h1) <| tR (kinfolkref05_Get_2_runs 1 l n _ h2) <| tF (not_of2 h3) <| tF h4 <| tF h5 <| tR (kinfolkref05_Get_2_runs 2 l_ n3 _ h6) <| tL q_7 <| tF (not_of2 h8) <| tL q_9 <| tL q_10 <| tT h11 <| tR (kinfolkref07_zero_runs (T_kinfolkref02_Event.mk n10 (T_kinfolkref02_Event.mk n11 t6 t7) t5) _ h12) <| tF h13 <| tF h14 <| tF (rfl : false = false) <| tF h15 <| tF (rfl : false = false) <| tF (rfl : false = false) <| tF (rfl : false = false) <| tF (rfl : false = false) <| tR q_16 <| tF h17 <| tN
                              have e_ : Runs Tryd.prog 77 [(.one (.ref 0 0)), (.one (.pv (.int .i64 depth)))] [[(.pv (.bools l false)), (.pv (.int .i64 n))]] [] ([(.one (.pv (.imm [(.int .u64 n6), (T_kinfolkref02_Event.pv (T_kinfolkref02_Event.mk n10 (T_kinfolkref02_Event.mk n11 t6 t7) t5)), (T_kinfolkref02_Event.pv t3)] 0))), (.one (.pv (.int .i64 0)))], [[(.pv (.bools l_5 false)), (.pv (.int .i64 n9))]], []) := runs_of (C := cfg) (objs := [[(.pv (.bools l false)), (.pv (.int .i64 n))]]) (sc := t_.ev) (.k1 t_.pf (by kernel_rfl) (by kernel_rfl))
                              exact e_.out ⟨.eq rfl, .eq rfl, trivial⟩ ⟨⟨.eq rfl, .eq rfl, trivial⟩, trivial⟩ trivial rfl
                · rcases cond_of h with ⟨h12, h⟩ | ⟨h12, h⟩
                  · obtain ⟨b3, h13, h⟩ := bind_of h
                    rcases cond_of h with ⟨h14, h⟩ | ⟨h14, h⟩
                    · have h := some_of h
                      subst h
                      have t_ := tR (kinfolkref02_Leaf_runs 0 _ h1) <| tR (kinfolkref05_Get_2_runs 1 l n _ h2) <| tF (not_of2 h3) <| tF h4 <| tF h5 <| tR (kinfolkref05_Get_2_runs 2 l_ n3 _ h6) <| tL q_7 <| tF (not_of2 h8) <| tL q_9 <| tL q_10 <| tF h11 <| tF (rfl : false = false) <| tT h12 <| tR (kinfolkref07_zero_runs t3 _ h13) <| tT h14 <| tT (rfl : true = true) <| tT (rfl : true = true) <| tN
                      exact runs_of (C := cfg) (objs := [[(.pv (.bools l false)), (.pv (.int .i64 n))]]) (sc := t_.ev) (.k1 t_.pf (by kernel_rfl) (by kernel_rfl))
                    · cases t2 with
                      | nil =>
                        cases h
                      | mk n10 t4 t5 =>
                        rcases cond_of h with ⟨h15, h⟩ | ⟨h15, h⟩
                        · cases t3 with
                          | nil =>
                            cases h
                          | mk n11 t6 t7 =>
                            rcases cond_of h with ⟨h16, h⟩ | ⟨h16, h⟩
                            · have h := some_of h
                              subst h
                              have t_ := tR (kinfolkref02_Leaf_runs 0 _ h1) <| tR (kinfolkref05_Get_2_runs 1 l n _ h2) <| tF (not_of2 h3) <| tF h4 <| tF h5 <| tR (kinfolkref05_Get_2_runs 2 l_ n3 _ h6) <| tL q_7 <| tF (not_of2 h8) <| tL q_9 <| tL q_10 <| tF h11 <| tF (rfl : false = false) <| tT h12 <| tR (kinfolkref07_zero_runs (T_kinfolkref02_Event.mk n11 t6 t7) _ h13) <| tF h14 <| tT h15 <| tT h16 <| tT (rfl : true = true) <| tN
                              exact runs_of (C := cfg) (objs := [[(.pv (.bools l false)), (.pv (.int .i64 n))]]) (sc := t_.ev) (.k1 t_.pf (by kernel_rfl) (by kernel_rfl))
                            · cases t4 with
                              | nil =>
                                cases t6 with
                                | nil =>
                                  rcases cond_of h with ⟨h17, h⟩ | ⟨h17, h⟩
                                  · have h := some_of h
                                    subst h
                                    have t_ := tR (kinfolkref02_Leaf_runs 0 _ h1) <| tR (kinfolkref05_Get_2_runs 1 l n _ h2) <| tF (not_of2 h3) <| tF h4 <| tF h5 <| tR (kinfolkref05_Get_2_runs 2 l_ n3 _ h6) <| tL q_7 <| tF (not_of2 h8) <| tL q_9 <| tL q_10 <| tF h11 <| tF (rfl : false = false) <| tT h12 <| tR (kinfolkref07_zero_runs (T_kinfolkref02_Event.mk n11 T_kinfolkref02_Event.nil t7) _ h13) <| tF h14 <| tT h15 <| tF h16 <| tT (rfl : true = true) <| tT (rfl : true = true) <| tT h17 <| tN
                                    exact runs_of (C := cfg) (objs := [[(.pv (.bools l false)), (.pv (.int .i64 n))]]) (sc := t_.ev) (.k0 t_.pf (by kernel_rfl))
                                  · obtain ⟨n12, h18, h⟩ := bind_of h
                                    have q_18 := (Runs.coe (as' := [(.one (.pv (.imm [(.int .u64 n6), (T_kinfolkref02_Event.pv (T_kinfolkref02_Event.mk n10 T_kinfolkref02_Event.nil t5)), (T_kinfolkref02_Event.pv (T_kinfolkref02_Event.mk n11 T_kinfolkref02_Event.nil t7))] 0)))]) (objs' := []) (rows' := []) (kinfolkref02_Max_runs N (T_kinfolkref02_Event.mk n6 (T_kinfolkref02_Event.mk n10 T_kinfolkref02_Event.nil t5) (T_kinfolkref02_Event.mk n11 T_kinfolkref02_Event.nil t7)) _ h18) ⟨.eq rfl, trivial⟩ trivial trivial)
                                    rcases cond_of h with ⟨h19, h⟩ | ⟨h19, h⟩
                                    · have h := some_of h
                                      subst h
                                      have t_ := tR (kinfolkref02_Leaf_runs 0 _ h1) <| tR (kinfolkref05_Get_2_runs 1 l n _ h2) <| tF (not_of2 h3) <| tF h4 <| tF h5 <| tR (kinfolkref05_Get_2_runs 2 l_ n3 _ h6) <| tL q_7 <| tF (not_of2 h8) <| tL q_9 <| tL q_10 <| tF h11 <| tF (rfl : false = false) <| tT h12 <| tR (kinfolkref07_zero_runs (T_kinfolkref02_Event.mk n11 T_kinfolkref02_Event.nil t7) _ h13) <| tF h14 <| tT h15 <| tF h16 <| tT (rfl : true = true) <| tT (rfl : true = true) <| tF h17 <| tR q_18 <| tT h19 <| tN
                                      exact runs_of (C := cfg) (objs := [[(.pv (.bools l false)), (.pv (.int .i64 n))]]) (sc := t_.ev) (.k0 t_.pf (by kernel_rfl))
                                    · have h := some_of h
                                      subst h
                                      have t_ := tR (kinfolkref02_Leaf_runs 0 _ h1) <| tR (kinfolkref05_Get_2_runs 1 l n _ h2) <| tF (not_of2 h3) <| tF h4 <| tF h5 <| tR (kinfolkref05_Get_2_runs 2 l_ n3 _ h6) <| tL q_7 <| tF (not_of2 h8) <| tL q_9 <| tL q_10 <| tF h11 <| tF (rfl : false = false) <| tT h12 <| tR (kinfolkref07_zero_runs (T_kinfolkref02_Event.mk n11 T_kinfolkref02_Event.nil t7) _ h13) <| tF h14 <| tT h15 <| tF h16 <| tT (rfl : true = true) <| tT (rfl : true = true) <| tF h17 <| tR q_18 <| tF h19 <| tN
                                      have e_ : Runs Tryd.prog 77 [(.one (.ref 0 0)), (.one (.pv (.int .i64 depth)))] [[(.pv (.bools l false)), (.pv (.int .i64 n))]] [] ([(.one (.pv (.imm [(.int .u64 n6), (T_kinfolkref02_Event.pv (T_kinfolkref02_Event.mk n10 T_kinfolkref02_Event.nil t5)), (T_kinfolkref02_Event.pv (T_kinfolkref02_Event.mk n11 T_kinfolkref02_Event.nil t7))] 0))), (.one (.pv (.int .i64 0)))], [[(.pv (.bools l_5 false)), (.pv (.int .i64 n9))]], []) := runs_of (C := cfg) (objs := [[(.pv (.bools l false)), (.pv (.int .i64 n))]]) (sc := t_.ev) (.k0 t_.pf (by kernel_rfl))
                                      exact e_.out ⟨.eq rfl, .eq rfl, trivial⟩ ⟨⟨.eq rfl, .eq rfl, trivial⟩, trivial⟩ trivial rfl
                                | mk n12 t8 t9 =>
                                  obtain ⟨n13, h17, h⟩ := bind_of h
                                  have q_17 := (Runs.coe (as' := [(.one (.pv (.imm [(.int .u64 n6), (T_kinfolkref02_Event.pv (T_kinfolkref02_Event.mk n10 T_kinfolkref02_Event.nil t5)), (T_kinfolkref02_Event.pv (T_kinfolkref02_Event.mk n11 (T_kinfolkref02_Event.mk n12 t8 t9) t7))] 0)))]) (objs' := []) (rows' := []) (kinfolkref02_Max_runs N (T_kinfolkref02_Event.mk n6 (T_kinfolkref02_Event.mk n10 T_kinfolkref02_Event.nil t5) (T_kinfolkref02_Event.mk n11 (T_kinfolkref02_Event.mk n12 t8 t9) t7)) _ h17) ⟨.eq rfl, trivial⟩ trivial trivial)
                                  rcases cond_of h with ⟨h18, h⟩ | ⟨h18, h⟩
                                  · have h := some_of h
                                    subst h
                                    have t_ := tR (kinfolkref02_Leaf_runs 0 _ h1) <| tR (kinfolkref05_Get_2_runs 1 l n _ h2) <| tF (not_of2 h3) <| tF h4 <| tF h5 <| tR (kinfolkref05_Get_2_runs 2 l_ n3 _ h6) <| tL q_7 <| tF (not_of2 h8) <| tL q_9 <| tL q_10 <| tF h11 <| tF (rfl : false = false) <| tT h12 <| tR (kinfolkref07_zero_runs (T_kinfolkref02_Event.mk n11 (T_kinfolkref02_Event.mk n12 t8 t9) t7) _ h13) <| tF h14 <| tT h15 <| tF h16 <| tT (rfl : true = true) <| tF (rfl : false = false) <| tF (rfl : false = false) <| tR q_17 <| tT h18 <| tN
                                    exact runs_of (C := cfg) (objs := [[(.pv (.bools l false)), (.pv (.int .i64 n))]]) (sc := t_.ev) (.k1 t_.pf (by kernel_rfl) (by kernel_rfl))
                                  · have h := some_of h
                                    subst h
                                    have t_ := tR (kinfolkref02_Leaf_runs 0 _ h1) <| tR (kinfolkref05_Get_2_runs 1 l n _ h2) <| tF (not_of2 h3) <| tF h4 <| tF h5 <| tR (kinfolkref05_Get_2_runs 2 l_ n3 _ h6) <| tL q_7 <| tF (not_of2 h8) <| tL q_9 <| tL q_10 <| tF h11 <| tF (rfl : false = false) <| tT h12 <| tR (kinfolkref07_zero_runs (T_kinfolkref02_Event.mk n11 (T_kinfolkref02_Event.mk n12 t8 t9) t7) _ h13) <| tF h14 <| tT h15 <| tF h16 <| tT (rfl : true = true) <| tF (rfl : false = false) <| tF (rfl : false = false) <| tR q_17 <| tF h18 <| tN
                                    have e_ : Runs Tryd.prog 77 [(.one (.ref 0 0)), (.one (.pv (.int .i64 depth)))] [[(.pv (.bools l false)), (.pv (.int .i64 n))]] [] ([(.one (.pv (.imm [(.int .u64 n6), (T_kinfolkref02_Event.pv (T_kinfolkref02_Event.mk n10 T_kinfolkref02_Event.nil t5)), (T_kinfolkref02_Event.pv (T_kinfolkref02_Event.mk n11 (T_kinfolkref02_Event.mk n12 t8 t9) t7))] 0))), (.one (.pv (.int .i64 0)))], [[(.pv (.bools l_5 false)), (.pv (.int .i64 n9))]], []) := runs_of (C := cfg) (objs := [[(.pv (.bools l false)), (.pv (.int .i64 n))]]) (sc := t_.ev) (.k1 t_.pf (by kernel_rfl) (by kernel_rfl))
                                    exact e_.out ⟨.eq rfl, .eq rfl, trivial⟩ ⟨⟨.eq rfl, .eq rfl, trivial⟩, trivial⟩ trivial rfl
                              | mk n12 t8 t9 =>
                                obtain ⟨n13, h17, h⟩ := bind_of h
                                have q_17 := (Runs.coe (as' := [(.one (.pv (.imm [(.int .u64 n6), (T_kinfolkref02_Event.pv (T_kinfolkref02_Event.mk n10 (T_kinfolkref02_Event.mk n12 t8 t9) t5)), (T_kinfolkref02_Event.pv (T_kinfolkref02_Event.mk n11 t6 t7))] 0)))]) (objs' := []) (rows' := []) (kinfolkref02_Max_runs N (T_kinfolkref02_Event.mk n6 (T_kinfolkref02_Event.mk n10 (T_kinfolkref02_Event.mk n12 t8 t9) t5) (T_kinfolkref02_Event.mk n11 t6 t7)) _ h17) ⟨.eq rfl, trivial⟩ trivial trivial)
                                rcases cond_of h with ⟨h18, h⟩ | ⟨h18, h⟩
                                · have h := some_of h
                                  subst h
                                  have t_ := tR (kinfolkref02_Leaf_runs 0 _ h1) <| tR (kinfolkref05_Get_2_runs 1 l n _ h2) <| tF (not_of2 h3) <| tF h4 <| tF h5 <| tR (kinfolkref05_Get_2_runs 2 l_ n3 _ h6) <| tL q_7 <| tF (not_of2 h8) <| tL q_9 <| tL q_10 <| tF h11 <| tF (rfl : false = false) <| tT h12 <| tR (kinfolkref07_zero_runs (T_kinfolkref02_Event.mk n11 t6 t7) _ h13) <| tF h14 <| tT h15 <| tF h16 <| tF (rfl : false = false) <| tF (rfl : false = false) <| tF (rfl : false = false) <| tR q_17 <| tT h18 <| tN
                                  exact runs_of (C := cfg) (objs := [[(.pv (.bools l false)), (.pv (.int .i64 n))]]) (sc := t_.ev) (.k1 t_.pf (by kernel_rfl) (by kernel_rfl))
                                · have h := some_of h
                                  subst h
                                  have t_ := tR (kinfolkref02_Leaf_runs 0 _ h1) <| tR (kinfolkref05_Get_2_runs 1 l n _ h2) <| tF (not_of2 h3) <| tF h4 <| tF h5 <| tR (kinfolkref05_Get_2_runs 2 l_ n3 _ h6) <| tL q_7 <| tF (not_of2 h8) <| tL q_9 <| tL q_10 <| tF h11 <| tF (rfl : false = false) <| tT h12 <| tR (kinfolkref07_zero_runs (T_kinfolkref02_Event.mk n11 t6 t7) _ h13) <| tF h14 <| tT h15 <| tF h16 <| tF (rfl : false = false) <| tF (rfl : false = false) <| tF (rfl : false = false) <| tR q_17 <| tF h18 <| tN
                                  have e_ : Runs Tryd.prog 77 [(.one (.ref 0 0)), (.one (.pv (.int .i64 depth)))] [[(.pv (.bools l false)), (.pv (.int .i64 n))]] [] ([(.one (.pv (.imm [(.int .u64 n6), (T_kinfolkref02_Event.pv (T_kinfolkref02_Event.mk n10 (T_kinfolkref02_Event.mk n12 t8 t9) t5)), (T_kinfolkref02_Event.pv (T_kinfolkref02_Event.mk n11 t6 t7))] 0))), (.one (.pv (.int .i64 0)))], [[(.pv (.bools l_5 false)), (.pv (.int .i64 n9))]], []) := runs_of (C := cfg) (objs := [[(.pv (.bools l false)), (.pv (.int .i64 n))]]) (sc := t_.ev) (.k1 t_.pf (by kernel_rfl) (by kernel_rfl))
                                  exact e_.out ⟨.eq rfl, .eq rfl, trivial⟩ ⟨⟨.eq rfl, .eq rfl, trivial⟩, trivial⟩ trivial rfl
                        · cases t4 with
                          | nil =>
                            cases t3 with
                            | nil =>
                              cases h
                            | mk n11 t6 t7 =>
                              cases t6 with
                              | nil =>
                                rcases cond_of h with ⟨h16, h⟩ | ⟨h16, h⟩
                                · have h := some_of h
                                  subst h
                                  have t_ := tR (kinfolkref02_Leaf_runs 0 _ h1) <| tR (kinfolkref05_Get_2_runs 1 l n _ h2) <| tF (not_of2 h3) <| tF h4 <| tF h5 <| tR (kinfolkref05_Get_2_runs 2 l_ n3 _ h6) <| tL q_7 <| tF (not_of2 h8) <| tL q_9 <| tL q_10 <| tF h11 <| tF (rfl : false = false) <| tT h12 <| tR (kinfolkref07_zero_runs (T_kinfolkref02_Event.mk n11 T_kinfolkref02_Event.nil t7) _ h13) <| tF h14 <| tF h15 <| tF (rfl : false = false) <| tT (rfl : true = true) <| tT (rfl : true = true) <| tT h16 <| tN
                                  exact runs_of (C := cfg) (objs := [[(.pv (.bools l false)), (.pv (.int .i64 n))]]) (sc := t_.ev) (.k0 t_.pf (by kernel_rfl))
                                · obtain ⟨n12, h17, h⟩ := bind_of h
                                  have q_17 := (Runs.coe (as' := [(.one (.pv (.imm [(.int .u64 n6), (T_kinfolkref02_Event.pv (T_kinfolkref02_Event.mk n10 T_kinfolkref02_Event.nil t5)), (T_kinfolkref02_Event.pv (T_kinfolkref02_Event.mk n11 T_kinfolkref02_Event.nil t7))] 0)))]) (objs' := []) (rows' := []) (kinfolkref02_Max_runs N (T_kinfolkref02_Event.mk n6 (T_kinfolkref02_Event.mk n10 T_kinfolkref02_Event.nil t5) (T_kinfolkref02_Event.mk n11 T_kinfolkref02_Event.nil t7)) _ h17) ⟨.eq rfl, trivial⟩ trivial trivial)
                                  rcases cond_of h with ⟨h18, h⟩ | ⟨h18, h⟩
                                  · have h := some_of h
                                    subst h
                                    have t_ := tR (kinfolkref02_Leaf_runs 0 _ h1) <| tR (kinfolkref05_Get_2_runs 1 l n _ h2) <| tF (not_of2 h3) <| tF h4 <| tF h5 <| tR (kinfolkref05_Get_2_runs 2 l_ n3 _ h6) <| tL q_7 <| tF (not_of2 h8) <| tL q_9 <| tL q_10 <| tF h11 <| tF (rfl : false = false) <| tT h12 <| tR (kinfolkref07_zero_runs (T_kinfolkref02_Event.mk n11 T_kinfolkref02_Event.nil t7) _ h13) <| tF h14 <| tF h15 <| tF (rfl : false = false) <| tT (rfl : true = true) <| tT (rfl : true = true) <| tF h16 <| tR q_17 <| tT h18 <| tN
                                    exact runs_of (C := cfg) (objs := [[(.pv (.bools l false)), (.pv (.int .i64 n))]]) (sc := t_.ev) (.k0 t_.pf (by kernel_rfl))
                                  · have h := some_of h
                                    subst h
                                    have t_ := tR (kinfolkref02_Leaf_runs 0 _ h1) <| tR (kinfolkref05_Get_2_runs 1 l n _ h2) <| tF (not_of2 h3) <| tF h4 <| tF h5 <| tR (kinfolkref05_Get_2_runs 2 l_ n3 _ h6) <| tL q_7 <| tF (not_of2 h8) <| tL q_9 <| tL q_10 <| tF h11 <| tF (rfl : false = false) <| tT h12 <| tR (kinfolkref07_zero_runs (T_kinfolkref02_Event.mk n11 T_kinfolkref02_Event.nil t7) _ h13) <| tF h14 <| tF h15 <| tF (rfl : false = false) <| tT (rfl : true = true) <| tT (rfl : true = true) <| tF h16 <| tR q_17 <| tF h18 <| tN
                                    have e_ : Runs Tryd.prog 77 [(.one (.ref 0 0)), (.one (.pv (.int .i64 depth)))] [[(.pv (.bools l false)), (.pv (.int .i64 n))]] [] ([(.one (.pv (.imm [(.int .u64 n6), (T_kinfolkref02_Event.pv (T_kinfolkref02_Event.mk n10 T_kinfolkref02_Event.nil t5)), (T_kinfolkref02_Event.pv (T_kinfolkref02_Event.mk n11 T_kinfolkref02_Event.nil t7))] 0))), (.one (.pv (.int .i64 0)))], [[(.pv (.bools l_5 false)), (.pv (.int .i64 n9))]], []) := runs_of (C := cfg) (objs := [[(.pv (.bools l false)), (.pv (.int .i64 n))]]) (sc := t_.ev) (.k0 t_.pf (by kernel_rfl))
                                    exact e_.out ⟨.eq rfl, .eq rfl, trivial⟩ ⟨⟨.eq rfl, .eq rfl, trivial⟩, trivial⟩ trivial rfl
                              | mk n12 t8 t9 =>
                                obtain ⟨n13, h16, h⟩ := bind_of h
                                have q_16 := (Runs.coe (as' := [(.one (.pv (.imm [(.int .u64 n6), (T_kinfolkref02_Event.pv (T_kinfolkref02_Event.mk n10 T_kinfolkref02_Event.nil t5)), (T_kinfolkref02_Event.pv (T_kinfolkref02_Event.mk n11 (T_kinfolkref02_Event.mk n12 t8 t9) t7))] 0)))]) (objs' := []) (rows' := []) (kinfolkref02_Max_runs N (T_kinfolkref02_Event.mk n6 (T_kinfolkref02_Event.mk n10 T_kinfolkref02_Event.nil t5) (T_kinfolkref02_Event.mk n11 (T_kinfolkref02_Event.mk n12 t8 t9) t7)) _ h16) ⟨.eq rfl, trivial⟩ trivial trivial)
                                rcases cond_of h with ⟨h17, h⟩ | ⟨h17, h⟩
                                · have h := some_of h
                                  subst h
                                  have t_ := tR (kinfolkref02_Leaf_runs 0 _ h1) <| tR (kinfolkref05_Get_2_runs 1 l n _ h2) <| tF (not_of2 h3) <| tF h4 <| tF h5 <| tR (kinfolkref05_Get_2_runs 2 l_ n3 _ h6) <| tL q_7 <| tF (not_of2 h8) <| tL q_9 <| tL q_10 <| tF h11 <| tF (rfl : false = false) <| tT h12 <| tR (kinfolkref07_zero_runs (T_kinfolkref02_Event.mk n11 (T_kinfolkref02_Event.mk n12 t8 t9) t7) _ h13) <| tF h14 <| tF h15 <| tF (rfl : false = false) <| tT (rfl : true = true) <| tF (rfl : false = false) <| tF (rfl : false = false) <| tR q_16 <| tT h17 <| tN
                                  exact runs_of (C := cfg) (objs := [[(.pv (.bools l false)), (.pv (.int .i64 n))]]) (sc := t_.ev) (.k1 t_.pf (by kernel_rfl) (by kernel_rfl))
                                · have h := some_of h
                                  subst h
                                  have t_ := tR (kinfolkref02_Leaf_runs 0 _ h1) <| tR (kinfolkref05_Get_2_runs 1 l n _ h2) <| tF (not_of2 h3) <| tF h4 <| tF h5 <| tR (kinfolkref05_Get_2_runs 2 l_ n3 _ h6) <| tL q_7 <| tF (not_of2 h8) <| tL q_9 <| tL q_10 <| tF h11 <| tF (rfl : false = false) <| tT h12 <| tR (kinfolkref07_zero_runs (T_kinfolkref02_Event.mk n11 (T_kinfolkref02_Event.mk n12 t8 t9) t7) _ h13) <| tF h14 <| tF h15 <| tF (rfl : false = false) <| tT (rfl : true = true) <| tF (rfl : false = false) <| tF (rfl : false = false) <| tR q_16 <| tF h17 <| tN
                                  have e_ : Runs Tryd.prog 77 [(.one (.ref 0 0)), (.one (.pv (.int .i64 depth)))] [[(.pv (.bools l false)), (.pv (.int .i64 n))]] [] ([(.one (.pv (.imm [(.int .u64 n6), (T_kinfolkref02_Event.pv (T_kinfolkref02_Event.mk n10 T_kinfolkref02_Event.nil t5)), (T_kinfolkref02_Event.pv (T_kinfolkref02_Event.mk n11 (T_kinfolkref02_Event.mk n12 t8 t9) t7))] 0))), (.one (.pv (.int .i64 0)))], [[(.pv (.bools l_5 false)), (.pv (.int .i64 n9))]], []) := runs_of (C := cfg) (objs := [[(.pv (.bools l false)), (.pv (.int .i64 n))]]) (sc := t_.ev) (.k1 t_.pf (by kernel_rfl) (by kernel_rfl))
                                  exact e_.out ⟨.eq rfl, .eq rfl, trivial⟩ ⟨⟨.eq rfl, .eq rfl, trivial⟩, trivial⟩ trivial rfl
                          | mk n11 t6 t7 =>
                            obtain ⟨n12, h16, h⟩ := bind_of h
                            have q_16 := (Runs.coe (as' := [(.one (.pv (.imm [(.int .u64 n6), (T_kinfolkref02_Event.pv (T_kinfolkref02_Event.mk n10 (T_kinfolkref02_Event.mk n11 t6 t7) t5)), (T_kinfolkref02_Event.pv t3)] 0)))]) (objs' := []) (rows' := []) (kinfolkref02_Max_runs N (T_kinfolkref02_Event.mk n6 (T_kinfolkref02_Event.mk n10 (T_kinfolkref02_Event.mk n11 t6 t7) t5) t3) _ h16) ⟨.eq rfl, trivial⟩ trivial trivial)
                            rcases cond_of h with ⟨h17, h⟩ | ⟨h17, h⟩
                            · have h := some_of h
                              subst h
                              have t_ := tR (kinfolkref02_Leaf_runs 0 _ h1) <| tR (kinfolkref05_Get_2_runs 1 l n _ h2) <| tF (not_of2 h3) <| tF h4 <| tF h5 <| tR (kinfolkref05_Get_2_runs 2 l_ n3 _ h6) <| tL q_7 <| tF (not_of2 h8) <| tL q_9 <| tL q_10 <| tF h11 <| tF (rfl : false = false) <| tT h12 <| tR (kinfolkref07_zero_runs t3 _ h13) <| tF h14 <| tF h15 <| tF (rfl : false = false) <| tF (rfl : false = false) <| tF (rfl : false = false) <| tF (rfl : false = false) <| tR q_16 <| tT h17 <| tN
                              exact runs_of (C := cfg) (objs := [[(.pv (.bools l false)), (.pv (.int .i64 n))]]) (sc := t_.ev) (.k1 t_.pf (by kernel_rfl) (by kernel_rfl))
                            · have h := some_of h
                              subst h
                              have t_ := tR (kinfolkref02_Leaf_runs 0 _ h1) <| tR (kinfolkref05_Get_2_runs 1 l n _ h2) <| tF (not_of2 h3) <| tF h4 <| tF h5 <| tR (kinfolkref05_Get_2_runs 2 l_ n3 _ h6) <| tL q_7 <| tF (not_of2 h8) <| tL q_9 <| tL q_10 <| tF h11 <| tF (rfl : false = false) <| tT h12 <| tR (kinfolkref07_zero_runs t3 _ h13) <| tF h14 <| tF h15 <| tF (rfl : false = false) <| tF (rfl : false = false) <| tF (rfl : false = false) <| tF (rfl : false = false) <| tR q_16 <| tF h17 <| tN
                              have e_ : Runs Tryd.prog 77 [(.one (.ref 0 0)), (.one (.pv (.int .i64 depth)))] [[(.pv (.bools l false)), (.pv (.int .i64 n))]] [] ([(.one (.pv (.imm [(.int .u64 n6), (T_kinfolkref02_Event.pv (T_kinfolkref02_Event.mk n10 (T_kinfolkref02_Event.mk n11 t6 t7) t5)), (T_kinfolkref02_Event.pv t3)] 0))), (.one (.pv (.int .i64 0)))], [[(.pv (.bools l_5 false)), (.pv (.int .i64 n9))]], []) := runs_of (C := cfg) (objs := [[(.pv (.bools l false)), (.pv (.int .i64 n))]]) (sc := t_.ev) (.k1 t_.pf (by kernel_rfl) (by kernel_rfl))
                              exact e_.out ⟨.eq rfl, .eq rfl, trivial⟩ ⟨⟨.eq rfl, .eq rfl, trivial⟩, trivial⟩ trivial rfl
                  · cases t2 with
                    | nil =>
                      cases h
                    | mk n10 t4 t5 =>
                      rcases cond_of h with ⟨h13, h⟩ | ⟨h13, h⟩
                      · cases t3 with
                        | nil =>
                          cases h
                        | mk n11 t6 t7 =>
                          rcases cond_of h with ⟨h14, h⟩ | ⟨h14, h⟩
                          · have h := some_of h
                            subst h
                            have t_ := tR (kinfolkref02_Leaf_runs 0 _ h1) <| tR (kinfolkref05_Get_2_runs 1 l n _ h2) <| tF (not_of2 h3) <| tF h4 <| tF h5 <| tR (kinfolkref05_Get_2_runs 2 l_ n3 _ h6) <| tL q_7 <| tF (not_of2 h8) <| tL q_9 <| tL q_10 <| tF h11 <| tF (rfl : false = false) <| tF h12 <| tF (rfl : false = false) <| tT h13 <| tT h14 <| tT (rfl : true = true) <| tN
                            exact runs_of (C := cfg) (objs := [[(.pv (.bools l false)), (.pv (.int .i64 n))]]) (sc := t_.ev) (.k1 t_.pf (by kernel_rfl) (by kernel_rfl))
                          · cases t4 with
                            | nil =>
                              cases t6 with
                              | nil =>
                                rcases cond_of h with ⟨h15, h⟩ | ⟨h15, h⟩
                                · have h := some_of h
                                  subst h
                                  have t_ := tR (kinfolkref02_Leaf_runs 0 _ h1) <| tR (kinfolkref05_Get_2_runs 1 l n _ h2) <| tF (not_of2 h3) <| tF h4 <| tF h5 <| tR (kinfolkref05_Get_2_runs 2 l_ n3 _ h6) <| tL q_7 <| tF (not_of2 h8) <| tL q_9 <| tL q_10 <| tF h11 <| tF (rfl : false = false) <| tF h12 <| tF (rfl : false = false) <| tT h13 <| tF h14 <| tT (rfl : true = true) <| tT (rfl : true = true) <| tT h15 <| tN
                                  exact runs_of (C := cfg) (objs := [[(.pv (.bools l false)), (.pv (.int .i64 n))]]) (sc := t_.ev) (.k0 t_.pf (by kernel_rfl))
                                · obtain ⟨n12, h16, h⟩ := bind_of h
                                  have q_16 := (Runs.coe (as' := [(.one (.pv (.imm [(.int .u64 n6), (T_kinfolkref02_Event.pv (T_kinfolkref02_Event.mk n10 T_kinfolkref02_Event.nil t5)), (T_kinfolkref02_Event.pv (T_kinfolkref02_Event.mk n11 T_kinfolkref02_Event.nil t7))] 0)))]) (objs' := []) (rows' := []) (kinfolkref02_Max_runs N (T_kinfolkref02_Event.mk n6 (T_kinfolkref02_Event.mk n10 T_kinfolkref02_Event.nil t5) (T_kinfolkref02_Event.mk n11 T_kinfolkref02_Event.nil t7)) _ h16) ⟨.eq rfl, trivial⟩ trivial trivial)
                                  rcases cond_of h with ⟨h17, h⟩ | ⟨h17, h⟩
                                  · have h := some_of h
                                    subst h
                                    have t_ := tR (kinfolkref02_Leaf_runs 0 _ h1) <| tR (kinfolkref05_Get_2_runs 1 l n _ h2) <| tF (not_of2 h3) <| tF h4 <| tF h5 <| tR (kinfolkref05_Get_2_runs 2 l_ n3 _ h6) <| tL q_7 <| tF (not_of2 h8) <| tL q_9 <| tL q_10 <| tF h11 <| tF (rfl : false = false) <| tF h12 <| tF (rfl : false = false) <| tT h13 <| tF h14 <| tT (rfl : true = true) <| tT (rfl : true = true) <| tF h15 <| tR q_16 <| tT h17 <| tN
                                    exact runs_of (C := cfg) (objs := [[(.pv (.bools l false)), (.pv (.int .i64 n))]]) (sc := t_.ev) (.k0 t_.pf (by kernel_rfl))
                                  · have h := some_of h
                                    subst h
                                    have t_ := tR (kinfolkref02_Leaf_runs 0 _ h1) <| tR (kinfolkref05_Get_2_runs 1 l n _ h2) <| tF (not_of2 h3) <| tF h4 <| tF h5 <| tR (kinfolkref05_Get_2_runs 2 l_ n3 _ h6) <| tL q_7 <| tF (not_of2 h8) <| tL q_9 <| tL q_10 <| tF h11 <| tF (rfl : false = false) <| tF h12 <| tF (rfl : false = false) <| tT h13 <| tF h14 <| tT (rfl : true = true) <| tT (rfl : true = true) <| tF h15 <| tR q_16 <| tF h17 <| tN
                                    have e_ : Runs Tryd.prog 77 [(.one (.ref 0 0)), (.one (.pv (.int .i64 depth)))] [[(.pv (.bools l false)), (.pv (.int .i64 n))]] [] ([(.one (.pv (.imm [(.int .u64 n6), (T_kinfolkref02_Event.pv (T_kinfolkref02_Event.mk n10 T_kinfolkref02_Event.nil t5)), (T_kinfolkref02_Event.pv (T_kinfolkref02_Event.mk n11 T_kinfolkref02_Event.nil t7))] 0))), (.one (.pv (.int .i64 0)))], [[(.pv (.bools l_5 false)), (.pv (.int .i64 n9))]], []) := runs_of (C := cfg) (objs := [[(.pv (.bools l false)), (.pv (.int .i64 n))]]) (sc := t_.ev) (.k0 t_.pf (by kernel_rfl))
                                    exact e_.out ⟨.eq rfl, .eq rfl, trivial⟩ ⟨⟨.eq rfl, .eq rfl, trivial⟩, trivial⟩ trivial rfl
                              | mk n12 t8 t9 =>
                                obtain ⟨n13, h15, h⟩ := bind_of h
                                have q_15 := (Runs.coe (as' := [(.one (.pv (.imm [(.int .u64 n6), (T_kinfolkref02_Event.pv (T_kinfolkref02_Event.mk n10 T_kinfolkref02_Event.nil t5)), (T_kinfolkref02_Event.pv (T_kinfolkref02_Event.mk n11 (T_kinfolkref02_Event.mk n12 t8 t9) t7))] 0)))]) (objs' := []) (rows' := []) (kinfolkref02_Max_runs N (T_kinfolkref02_Event.mk n6 (T_kinfolkref02_Event.mk n10 T_kinfolkref02_Event.nil t5) (T_kinfolkref02_Event.mk n11 (T_kinfolkref02_Event.mk n12 t8 t9) t7)) _ h15) ⟨.eq rfl, trivial⟩ trivial trivial)
                                rcases cond_of h with ⟨h16, h⟩ | ⟨h16, h⟩
                                · have h := some_of h
                                  subst h
                                  have t_ := tR (kinfolkref02_Leaf_runs 0 _ h1) <| tR (kinfolkref05_Get_2_runs 1 l n _ h2) <| tF (not_of2 h3) <| tF h4 <| tF h5 <| tR (kinfolkref05_Get_2_runs 2 l_ n3 _ h6) <| tL q_7 <| tF (not_of2 h8) <| tL q_9 <| tL q_10 <| tF h11 <| tF (rfl : false = false) <| tF h12 <| tF (rfl : false = false) <| tT h13 <| tF h14 <| tT (rfl : true = true) <| tF (rfl : false = false) <| tF (rfl : false = false) <| tR q_15 <| tT h16 <| tN
                                  exact runs_of (C := cfg) (objs := [[(.pv (.bools l false)), (.pv (.int .i64 n))]]) (sc := t_.ev) (.k1 t_.pf (by kernel_rfl) (by kernel_rfl))
                                · have h := some_of h
                                  subst h
                                  have t_ := tR (kinfolkref02_Leaf_runs 0 _ h1) <| tR (kinfolkref05_Get_2_runs 1 l n _ h2) <| tF (not_of2 h3) <| tF h4 <| tF h5 <| tR (kinfolkref05_Get_2_runs 2 l_ n3 _ h6) <| tL q_7 <| tF (not_of2 h8) <| tL q_9 <| tL q_10 <| tF h11 <| tF (rfl : false = false) <| tF h12 <| tF (rfl : false = false) <| tT h13 <| tF h14 <| tT (rfl : true = true) <| tF (rfl : false = false) <| tF (rfl : false = false) <| tR q_15 <| tF h16 <| tN
                                  have e_ : Runs Tryd.prog 77 [(.one (.ref 0 0)), (.one (.pv (.int .i64 depth)))] [[(.pv (.bools l false)), (.pv (.int .i64 n))]] [] ([(.one (.pv (.imm [(.int .u64 n6), (T_kinfolkref02_Event.pv (T_kinfolkref02_Event.mk n10 T_kinfolkref02_Event.nil t5)), (T_kinfolkref02_Event.pv (T_kinfolkref02_Event.mk n11 (T_kinfolkref02_Event.mk n12 t8 t9) t7))] 0))), (.one (.pv (.int .i64 0)))], [[(.pv (.bools l_5 false)), (.pv (.int .i64 n9))]], []) := runs_of (C := cfg) (objs := [[(.pv (.bools l false)), (.pv (.int .i64 n))]]) (sc := t_.ev) (.k1 t_.pf (by kernel_rfl) (by kernel_rfl))
                                  exact e_.out ⟨.eq rfl, .eq rfl, trivial⟩ ⟨⟨.eq rfl, .eq rfl, trivial⟩, trivial⟩ trivial rfl
                            | mk n12 t8 t9 =>
                              obtain ⟨n13, h15, h⟩ := bind_of h
                              have q_15 := (Runs.coe (as' := [(.one (.pv (.imm [(.int .u64 n6), (T_kinfolkref02_Event.pv (T_kinfolkref02_Event.mk n10 (T_kinfolkref02_Event.mk n12 t8 t9) t5)), (T_kinfolkref02_Event.pv (T_kinfolkref02_Event.mk n11 t6 t7))] 0)))]) (objs' := []) (rows' := []) (kinfolkref02_Max_runs N (T_kinfolkref02_Event.mk n6 (T_kinfolkref02_Event.mk n10 (T_kinfolkref02_Event.mk n12 t8 t9) t5) (T_kinfolkref02_Event.mk n11 t6 t7)) _ h15) ⟨.eq rfl, trivial⟩ trivial trivial)
                              rcases cond_of h with ⟨h16, h⟩ | ⟨h16, h⟩
                              · have h := some_of h
                                subst h
                                have t_ := tR (kinfolkref02_Leaf_runs 0 _ h1) <| tR (kinfolkref05_Get_2_runs 1 l n _ h2) <| tF (not_of2 h3) <| tF h4 <| tF h5 <| tR (kinfolkref05_Get_2_runs 2 l_ n3 _ h6) <| tL q_7 <| tF (not_of2 h8) <| tL q_9 <| tL q_10 <| tF h11 <| tF (rfl : false = false) <| tF h12 <| tF (rfl : false = false) <| tT h13 <| tF h14 <| tF (rfl : false = false) <| tF (rfl : false = false) <| tF (rfl : false = false) <| tR q_15 <| tT h16 <| tN
                                exact runs_of (C := cfg) (objs := [[(.pv (.bools l false)), (.pv (.int .i64 n))]]) (sc := t_.ev) (.k1 t_.pf (by kernel_rfl) (by kernel_rfl))
                              · have h := some_of h
                                subst h
                                have t_ := tR (kinfolkref02_Leaf_runs 0 _ h1) <| tR (kinfolkref05_Get_2_runs 1 l n _ h2) <| tF (not_of2 h3) <| tF h4 <| tF h5 <| tR (kinfolkref05_Get_2_runs 2 l_ n3 _ h6) <| tL q_7 <| tF (not_of2 h8) <| tL q_9 <| tL q_10 <| tF h11 <| tF (rfl : false = false) <| tF h12 <| tF (rfl : false = false) <| tT h13 <| tF h14 <| tF (rfl : false = false) <| tF (rfl : false = false) <| tF (rfl : false = false) <| tR q_15 <| tF h16 <| tN
                                have e_ : Runs Tryd.prog 77 [(.one (.ref 0 0)), (.one (.pv (.int .i64 depth)))] [[(.pv (.bools l false)), (.pv (.int .i64 n))]] [] ([(.one (.pv (.imm [(.int .u64 n6), (T_kinfolkref02_Event.pv (T_kinfolkref02_Event.mk n10 (T_kinfolkref02_Event.mk n12 t8 t9) t5)), (T_kinfolkref02_Event.pv (T_kinfolkref02_Event.mk n11 t6 t7))] 0))), (.one (.pv (.int .i64 0)))], [[(.pv (.bools l_5 false)), (.pv (.int .i64 n9))]], []) := runs_of (C := cfg) (objs := [[(.pv (.bools l false)), (.pv (.int .i64 n))]]) (sc := t_.ev) (.k1 t_.pf (by kernel_rfl) (by kernel_rfl))
                                exact e_.out ⟨.eq rfl, .eq rfl, trivial⟩ ⟨⟨.eq rfl, .eq rfl, trivial⟩, trivial⟩ trivial rfl
                      · cases t4 with
                        | nil =>
                          cases t3 with
                          | nil =>
                            cases h
                          | mk n11 t6 t7 =>
                            cases t6 with
                            | nil =>
                              rcases cond_of h with ⟨h14, h⟩ | ⟨h14, h⟩
                              · have h := some_of h
                                subst h
                                have t_ := tR (kinfolkref02_Leaf_runs 0 _ h1) <| tR (kinfolkref05_Get_2_runs 1 l n _ h2) <| tF (not_of2 h3) <| tF h4 <| tF h5 <| tR (kinfolkref05_Get_2_runs 2 l_ n3 _ h6) <| tL q_7 <| tF (not_of2 h8) <| tL q_9 <| tL q_10 <| tF h11 <| tF (rfl : false = false) <| tF h12 <| tF (rfl : false = false) <| tF h13 <| tF (rfl : false = false) <| tT (rfl : true = true) <| tT (rfl : true = true) <| tT h14 <| tN
                                exact runs_of (C := cfg) (objs := [[(.pv (.bools l false)), (.pv (.int .i64 n))]]) (sc := t_.ev) (.k0 t_.pf (by kernel_rfl))
                              · obtain ⟨n12, h15, h⟩ := bind_of h
                                have q_15 := (Runs.coe (as' := [(.one (.pv (.imm [(.int .u64 n6), (T_kinfolkref02_Event.pv (T_kinfolkref02_Event.mk n10 T_kinfolkref02_Event.nil t5)), (T_kinfolkref02_Event.pv (T_kinfolkref02_Event.mk n11 T_kinfolkref02_Event.nil t7))] 0)))]) (objs' := []) (rows' := []) (kinfolkref02_Max_runs N (T_kinfolkref02_Event.mk n6 (T_kinfolkref02_Event.mk n10 T_kinfolkref02_Event.nil t5) (T_kinfolkref02_Event.mk n11 T_kinfolkref02_Event.nil t7)) _ h15) ⟨.eq rfl, trivial⟩ trivial trivial)
                                rcases cond_of h with ⟨h16, h⟩ | ⟨h16, h⟩
                                · have h := some_of h
                                  subst h
                                  have t_ := tR (kinfolkref02_Leaf_runs 0 _ h1) <| tR (kinfolkref05_Get_2_runs 1 l n _ h2) <| tF (not_of2 h3) <| tF h4 <| tF h5 <| tR (kinfolkref05_Get_2_runs 2 l_ n3 _ h6) <| tL q_7 <| tF (not_of2 h8) <| tL q_9 <| tL q_10 <| tF h11 <| tF (rfl : false = false) <| tF h12 <| tF (rfl : false = false) <| tF h13 <| tF (rfl : false = false) <| tT (rfl : true = true) <| tT (rfl : true = true) <| tF h14 <| tR q_15 <| tT h16 <| tN
                                  exact runs_of (C := cfg) (objs := [[(.pv (.bools l false)), (.pv (.int .i64 n))]]) (sc := t_.ev) (.k0 t_.pf (by kernel_rfl))
                                · have h := some_of h
                                  subst h
                                  have t_ := tR (kinfolkref02_Leaf_runs 0 _ h1) <| tR (kinfolkref05_Get_2_runs 1 l n _ h2) <| tF (not_of2 h3) <| tF h4 <| tF h5 <| tR (kinfolkref05_Get_2_runs 2 l_ n3 _ h6) <| tL q_7 <| tF (not_of2 h8) <| tL q_9 <| tL q_10 <| tF h11 <| tF (rfl : false = false) <| tF h12 <| tF (rfl : false = false) <| tF h13 <| tF (rfl : false = false) <| tT (rfl : true = true) <| tT (rfl : true = true) <| tF h14 <| tR q_15 <| tF h16 <| tN
                                  have e_ : Runs Tryd.prog 77 [(.one (.ref 0 0)), (.one (.pv (.int .i64 depth)))] [[(.pv (.bools l false)), (.pv (.int .i64 n))]] [] ([(.one (.pv (.imm [(.int .u64 n6), (T_kinfolkref02_Event.pv (T_kinfolkref02_Event.mk n10 T_kinfolkref02_Event.nil t5)), (T_kinfolkref02_Event.pv (T_kinfolkref02_Event.mk n11 T_kinfolkref02_Event.nil t7))] 0))), (.one (.pv (.int .i64 0)))], [[(.pv (.bools l_5 false)), (.pv (.int .i64 n9))]], []) := runs_of (C := cfg) (objs := [[(.pv (.bools l false)), (.pv (.int .i64 n))]]) (sc := t_.ev) (.k0 t_.pf (by kernel_rfl))
                                  exact e_.out ⟨.eq rfl, .eq rfl, trivial⟩ ⟨⟨.eq rfl, .eq rfl, trivial⟩, trivial⟩ trivial rfl
                            | mk n12 t8 t9 =>
                              obtain ⟨n13, h14, h⟩ := bind_of h
                              have q_14 := (Runs.coe (as' := [(.one (.pv (.imm [(.int .u64 n6), (T_kinfolkref02_Event.pv (T_kinfolkref02_Event.mk n10 T_kinfolkref02_Event.nil t5)), (T_kinfolkref02_Event.pv (T_kinfolkref02_Event.mk n11 (T_kinfolkref02_Event.mk n12 t8 t9) t7))] 0)))]) (objs' := []) (rows' := []) (kinfolkref02_Max_runs N (T_kinfolkref02_Event.mk n6 (T_kinfolkref02_Event.mk n10 T_kinfolkref02_Event.nil t5) (T_kinfolkref02_Event.mk n11 (T_kinfolkref02_Event.mk n12 t8 t9) t7)) _ h14) ⟨.eq rfl, trivial⟩ trivial trivial)
                              rcases cond_of h with ⟨h15, h⟩ | ⟨h15, h⟩
                              · have h := some_of h
                                subst h
                                have t_ := tR (kinfolkref02_Leaf_runs 0 _ h1) <| tR (kinfolkref05_Get_2_runs 1 l n _ h2) <| tF (not_of2 h3) <| tF h4 <| tF h5 <| tR (kinfolkref05_Get_2_runs 2 l_ n3 _ h6) <| tL q_7 <| tF (not_of2 h8) <| tL q_9 <| tL q_10 <| tF h11 <| tF (rfl : false = false) <| tF h12 <| tF (rfl : false = false) <| tF h13 <| tF (rfl : false = false) <| tT (rfl : true = true) <| tF (rfl : false = false) <| tF (rfl : false = false) <| tR q_14 <| tT h15 <| tN
                                exact runs_of (C := cfg) (objs := [[(.pv (.bools l false)), (.pv (.int .i64 n))]]) (sc := t_.ev) (.k1 t_.pf (by kernel_rfl) (by kernel_rfl))
                              · have h := some_of h
                                subst h
                                have t_ := tR (kinfolkref02_Leaf_runs 0 _ h1) <| tR (kinfolkref05_Get_2_runs 1 l n _ h2) <| tF (not_of2 h3) <| tF h4 <| tF h5 <| tR (kinfolkref05_Get_2_runs 2 l_ n3 _ h6) <| tL q_7 <| tF (not_of2 h8) <| tL q_9 <| tL q_10 <| tF h11 <| tF (rfl : false = false) <| tF h12 <| tF (rfl : false = false) <| tF h13 <| tF (rfl : false = false) <| tT (rfl : true = true) <| tF (rfl : false = false) <| tF (rfl : false = false) <| tR q_14 <| tF h15 <| tN
                                have e_ : Runs Tryd.prog 77 [(.one (.ref 0 0)), (.one (.pv (.int .i64 depth)))] [[(.pv (.bools l false)), (.pv (.int .i64 n))]] [] ([(.one (.pv (.imm [(.int .u64 n6), (T_kinfolkref02_Event.pv (T_kinfolkref02_Event.mk n10 T_kinfolkref02_Event.nil t5)), (T_kinfolkref02_Event.pv (T_kinfolkref02_Event.mk n11 (T_kinfolkref02_Event.mk n12 t8 t9) t7))] 0))), (.one (.pv (.int .i64 0)))], [[(.pv (.bools l_5 false)), (.pv (.int .i64 n9))]], []) := runs_of (C := cfg) (objs := [[(.pv (.bools l false)), (.pv (.int .i64 n))]]) (sc := t_.ev) (.k1 t_.pf (by kernel_rfl) (by kernel_rfl))
                                exact e_.out ⟨.eq rfl, .eq rfl, trivial⟩ ⟨⟨.eq rfl, .eq rfl, trivial⟩, trivial⟩ trivial rfl
                        | mk n11 t6 t7 =>
                          obtain ⟨n12, h14, h⟩ := bind_of h
                          have q_14 := (Runs.coe (as' := [(.one (.pv (.imm [(.int .u64 n6), (T_kinfolkref02_Event.pv (T_kinfolkref02_Event.mk n10 (T_kinfolkref02_Event.mk n11 t6 t7) t5)), (T_kinfolkref02_Event.pv t3)] 0)))]) (objs' := []) (rows' := []) (kinfolkref02_Max_runs N (T_kinfolkref02_Event.mk n6 (T_kinfolkref02_Event.mk n10 (T_kinfolkref02_Event.mk n11 t6 t7) t5) t3) _ h14) ⟨.eq rfl, trivial⟩ trivial trivial)
                          rcases cond_of h with ⟨h15, h⟩ | ⟨h15, h⟩
                          · have h := some_of h
                            subst h
                            have t_ := tR (kinfolkref02_Leaf_runs 0 _ h1) <| tR (kinfolkref05_Get_2_runs 1 l n _ h2) <| tF (not_of2 h3) <| tF h4 <| tF h5 <| tR (kinfolkref05_Get_2_runs 2 l_ n3 _ h6) <| tL q_7 <| tF (not_of2 h8) <| tL q_9 <| tL q_10 <| tF h11 <| tF (rfl : false = false) <| tF h12 <| tF (rfl : false = false) <| tF h13 <| tF (rfl : false = false) <| tF (rfl : false = false) <| tF (rfl : false = false) <| tF (rfl : false = false) <| tR q_14 <| tT h15 <| tN
                            exact runs_of (C := cfg) (objs := [[(.pv (.bools l false)), (.pv (.int .i64 n))]]) (sc := t_.ev) (.k1 t_.pf (by kernel_rfl) (by kernel_rfl))
                          · have h := some_of h
                            subst h
                            have t_ := tR (kinfolkref02_Leaf_runs 0 _ h1) <| tR (kinfolkref05_Get_2_runs 1 l n _ h2) <| tF (not_of2 h3) <| tF h4 <| tF h5 <| tR (kinfolkref05_Get_2_runs 2 l_ n3 _ h6) <| tL q_7 <| tF (not_of2 h8) <| tL q_9 <| tL q_10 <| tF h11 <| tF (rfl : false = false) <| tF h12 <| tF (rfl : false = false) <| tF h13 <| tF (rfl : false = false) <| tF (rfl : false = false) <| tF (rfl : false = false) <| tF (rfl : false = false) <| tR q_14 <| tF h15 <| tN
                            have e_ : Runs Tryd.prog 77 [(.one (.ref 0 0)), (.one (.pv (.int .i64 depth)))] [[(.pv (.bools l false)), (.pv (.int .i64 n))]] [] ([(.one (.pv (.imm [(.int .u64 n6), (T_kinfolkref02_Event.pv (T_kinfolkref02_Event.mk n10 (T_kinfolkref02_Event.mk n11 t6 t7) t5)), (T_kinfolkref02_Event.pv t3)] 0))), (.one (.pv (.int .i64 0)))], [[(.pv (.bools l_5 false)), (.pv (.int .i64 n9))]], []) := runs_of (C := cfg) (objs := [[(.pv (.bools l false)), (.pv (.int .i64 n))]]) (sc := t_.ev) (.k1 t_.pf (by kernel_rfl) (by kernel_rfl))
                            exact e_.out ⟨.eq rfl, .eq rfl, trivial⟩ ⟨⟨.eq rfl, .eq rfl, trivial⟩, trivial⟩ trivial rfl
              · have h := some_of h
                subst h
                have t_ := tR (kinfolkref02_Leaf_runs 0 _ h1) <| tR (kinfolkref05_Get_2_runs 1 l n _ h2) <| tF (not_of2 h3) <| tF h4 <| tF h5 <| tR (kinfolkref05_Get_2_runs 2 l_ n3 _ h6) <| tL q_7 <| tF (not_of2 h8) <| tL q_9 <| tL (kinfolkref07_GetEvent_C96_runs rec_kinfolkref07_GetEvent_4 hrec_kinfolkref07_GetEvent_4 depth t b b2 n6 t2 t b2 l_4 n8 _ h10) <| tN
                exact runs_of (C := cfg) (objs := [[(.pv (.bools l false)), (.pv (.int .i64 n))]]) (sc := t_.ev) (.k0 t_.pf (by kernel_rfl))
            · have h := some_of h
              subst h
              have t_ := tR (kinfolkref02_Leaf_runs 0 _ h1) <| tR (kinfolkref05_Get_2_runs 1 l n _ h2) <| tF (not_of2 h3) <| tF h4 <| tF h5 <| tR (kinfolkref05_Get_2_runs 2 l_ n3 _ h6) <| tL q_7 <| tF (not_of2 h8) <| tL (kinfolkref07_GetEvent_C84_2_runs rec_kinfolkref07_GetEvent_4 hrec_kinfolkref07_GetEvent_4 depth t b b2 n6 t t b l_3 n7 _ h9) <| tN
              exact runs_of (C := cfg) (objs := [[(.pv (.bools l false)), (.pv (.int .i64 n))]]) (sc := t_.ev) (.k0 t_.pf (by kernel_rfl))
          · have h := some_of h
            subst h
            have t_ := tR (kinfolkref02_Leaf_runs 0 _ h1) <| tR (kinfolkref05_Get_2_runs 1 l n _ h2) <| tF (not_of2 h3) <| tF h4 <| tF h5 <| tR (kinfolkref05_Get_2_runs 2 l_ n3 _ h6) <| tL q_7 <| tT (not_of h8) <| tN
            exact runs_of (C := cfg) (objs := [[(.pv (.bools l false)), (.pv (.int .i64 n))]]) (sc := t_.ev) (.k0 t_.pf (by kernel_rfl))
  · have h := some_of h
    subst h
    have t_ := tR (kinfolkref02_Leaf_runs 0 _ h1) <| tR (kinfolkref05_Get_2_runs 1 l n _ h2) <| tT (not_of h3) <| tN
    exact runs_of (C := cfg) (objs := [[(.pv (.bools l false)), (.pv (.int .i64 n))]]) (sc := t_.ev) (.k0 t_.pf (by kernel_rfl))
noncomputable def kinfolkref07_GetEvent_4 : Nat → Int → List Bool → Int → Option (T_kinfolkref02_Event × Int × List Bool × Int)
  | 0, _, _, _ => none
  | N + 1, depth, l, n => kinfolkref07_GetEvent_4_b N (kinfolkref07_GetEvent_4 N) depth l n
theorem kinfolkref07_GetEvent_4_runs : ∀ (N : Nat) (depth : Int) (l : List Bool) (n : Int) (r_ : T_kinfolkref02_Event × Int × List Bool × Int), kinfolkref07_GetEvent_4 N depth l n = some r_ → Runs Tryd.prog 77 [(.one (.ref 0 0)), (.one (.pv (.int .i64 depth)))] [[(.pv (.bools l false)), (.pv (.int .i64 n))]] [] (kinfolkref07_GetEvent_4_out depth l n r_)
  | 0, _, _, _, _, h => by cases h
  | N + 1, depth, l, n, r_, h => kinfolkref07_GetEvent_4_b_runs N (kinfolkref07_GetEvent_4 N) (kinfolkref07_GetEvent_4_runs N) depth l n r_ h
/-! ### kinfolkref07_GetEvent_C84 -/
def kinfolkref07_GetEvent_C84_ex (depth : Int) (none_ : T_kinfolkref02_Event) (left : Bool) (right : Bool) (base : Int) (x : T_kinfolkref02_Event) (y : T_kinfolkref02_Event) (b : Bool) (l : List Bool) (n : Int) : (T_kinfolkref02_Event × List Bool × Int) ⊕ (Int × List Bool × Int) → Ex × St
  | .inl (r1, r2, r3) => (.normal, ⟨[(0, (.av (.one (.ref 0 0)))), (1, (.av (.one (.pv (.int .i64 depth))))), (6, (.av (.one (.pv (T_kinfolkref02_Event.pv none_))))), (11, (.av (.one (.pv (.bool left))))), (12, (.av (.one (.pv (.bool right))))), (13, (.av (.one (.pv (.int .u64 base))))), (17, (.av (.one (.pv (T_kinfolkref02_Event.pv r1))))), (18, (.av (.one (.pv (T_kinfolkref02_Event.pv y)))))], [(0, [(.pv (.bools r2 false)), (.pv (.int .i64 r3))])], []⟩)
  | .inr (r1, r2, r3) => (.ret, ⟨[(4, (.av (.one (.pv (T_kinfolkref02_Event.pv none_))))), (5, (.av (.one (.pv (.int .i64 r1)))))], [(0, [(.pv (.bools r2 false)), (.pv (.int .i64 r3))])], []⟩)
noncomputable def kinfolkref07_GetEvent_C84 (N : Nat) (depth : Int) (none_ : T_kinfolkref02_Event) (left : Bool) (right : Bool) (base : Int) (x : T_kinfolkref02_Event) (y : T_kinfolkref02_Event) (b : Bool) (l : List Bool) (n : Int) : Option ((T_kinfolkref02_Event × List Bool × Int) ⊕ (Int × List Bool × Int)) :=
  bif b then
    (kinfolkref07_GetEvent_4 N (iadd .i64 depth 1) l n).bind fun (t, n2, l_, n3) =>
    bif (decide ((n2 : Int) = 0)) then
      some (.inl (t, l_, n3))
    else
      some (.inr (n2, l_, n3))
  else
    some (.inl (x, l, n))
theorem kinfolkref07_GetEvent_C84_runs (N : Nat) (depth : Int) (none_ : T_kinfolkref02_Event) (left : Bool) (right : Bool) (base : Int) (x : T_kinfolkref02_Event) (y : T_kinfolkref02_Event) (b : Bool) (l : List Bool) (n : Int) (r_ : (T_kinfolkref02_Event × List Bool × Int) ⊕ (Int × List Bool × Int)) (h : kinfolkref07_GetEvent_C84 N depth none_ left right base x y b l n = some r_) : LRuns Tryd.prog (lEnv Tryd.prog cfg 77 1).nt 1 (.cond (.tmp 84) (condAt Tryd.prog 77 84).1 (condAt Tryd.prog 77 84).2) ⟨[(0, (.av (.one (.ref 0 0)))), (1, (.av (.one (.pv (.int .i64 depth))))), (6, (.av (.one (.pv (T_kinfolkref02_Event.pv none_))))), (11, (.av (.one (.pv (.bool left))))), (12, (.av (.one (.pv (.bool right))))), (13, (.av (.one (.pv (.int .u64 base))))), (17, (.av (.one (.pv (T_kinfolkref02_Event.pv x))))), (18, (.av (.one (.pv (T_kinfolkref02_Event.pv y))))), (84, (.av (.one (.pv (.bool b)))))], [(0, [(.pv (.bools l false)), (.pv (.int .i64 n))])], []⟩ (kinfolkref07_GetEvent_C84_ex depth none_ left right base x y b l n r_).1 (kinfolkref07_GetEvent_C84_ex depth none_ left right base x y b l n r_).2 := by
  unfold kinfolkref07_GetEvent_C84 at h
  rcases cond_of h with ⟨h1, h⟩ | ⟨h1, h⟩
  · obtain ⟨⟨t, n2, l_, n3⟩, h2, h⟩ := bind_of h
    have q_2 := (kinfolkref07_GetEvent_4_runs N (iadd .i64 depth 1) l n _ h2)
    rcases cond_of h with ⟨h3, h⟩ | ⟨h3, h⟩
    · have h := some_of h
      subst h
      have t_ := tT h1 <| tR q_2 <| tF (not_of2 h3) <| tN
      exact piece_ok (C := cfg) (sc := t_.ev) (.k0 t_.pf (by kernel_rfl))
    · have h := some_of h
      subst h
      have t_ := tT h1 <| tR q_2 <| tT (not_of h3) <| tN
      exact piece_ok (C := cfg) (sc := t_.ev) (.k0 t_.pf (by kernel_rfl))
  · have h := some_of h
    subst h
    have t_ := tF h1 <| tN
    exact piece_ok (C := cfg) (sc := t_.ev) (.k0 t_.pf (by kernel_rfl))

end Go.Proofs.YtjjakdmcnkldoaaDoor
