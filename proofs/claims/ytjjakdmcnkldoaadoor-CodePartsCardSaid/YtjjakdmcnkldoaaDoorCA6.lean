/- What functions compute, and that they do. -/
import Derived.Test.YtjjakdmcnkldoaaDoorCA5
set_option linter.unusedVariables false
set_option linter.unusedSimpArgs false
set_option maxRecDepth 100000
namespace Go.Proofs.YtjjakdmcnkldoaaDoor
open Go.Ev

/-! ### kinfolkref07_GetEvent_3 -/
noncomputable def kinfolkref07_GetEvent_3 (N : Nat) (depth : Int) (n : Int) (l : List Bool) : Option (T_kinfolkref02_Event × Int × List Bool × Int) :=
  (kinfolkref02_Leaf 0).bind fun t =>
  (kinfolkref05_Get 1 n l).bind fun (n2, l_, n3) =>
  bif (decide ((n3 : Int) = 0)) then
    bif (decide ((n2 : Int) = 1)) then
      (kinfolkref07_number l_ n3).bind fun (n4, n5, l_2, n6) =>
      bif (decide ((n5 : Int) = 0)) then
        (kinfolkref02_Leaf n4).bind fun t2 =>
        some (t2, 0, l_2, n6)
      else
        some (t, n5, l_2, n6)
    else
      bif (decide ((depth : Int) = 16)) then
        some (t, 3, l_, n3)
      else
        (kinfolkref05_Get_2 2 l_ n3).bind fun (n4, l_2, n5) =>
        (kinfolkref07_GetEvent_C53 depth t (!(decide ((n4 : Int) = 0))) (!(decide ((n4 : Int) = 1))) (decide ((n4 : Int) = 3)) l_2 n5).bind fun z_ => match z_ with
        | .inl (n6, l_3, n7) =>
          some (t, n6, l_3, n7)
        | .inr (b, b2, n6, l_3, n7) =>
          bif (decide ((n7 : Int) = 0)) then
            (kinfolkref07_GetEvent_C84 N depth t b b2 n6 t t b l_3 n7).bind fun z_ => match z_ with
            | .inl (t2, l_4, n8) =>
              (kinfolkref07_GetEvent_C96 (kinfolkref07_GetEvent_4 N) depth t b b2 n6 t2 t b2 l_4 n8).bind fun z_ => match z_ with
              | .inl (t3, l_5, n9) =>
                bif b then
                  (kinfolkref07_zero t2).bind fun b3 =>
                  bif b3 then
                    some (t, 6, l_5, n9)
                  else
                    bif b2 then
                      (kinfolkref07_zero t3).bind fun b4 =>
                      bif b4 then
                        some (t, 6, l_5, n9)
                      else
                        match t2 with
                        | .nil =>
                          none
                        | .mk n10 t4 t5 =>
                          bif (decide ((0 : Int) < n10)) then
                            match t3 with
                            | .nil =>
                              none
                            | .mk n11 t6 t7 =>
                              bif (decide ((0 : Int) < n11)) then
                                some (t, 6, l_5, n9)
                              else
                                match t4 with
                                | .nil =>
                                  match t6 with
                                  | .nil =>
                                    bif (decide ((n10 : Int) = n11)) then
                                      some (t, 6, l_5, n9)
                                    else
                                      (kinfolkref02_Max N (T_kinfolkref02_Event.mk n6 t2 t3)).bind fun n12 =>
                                      bif (decide ((1048576 : Int) < n12)) then
                                        some (t, 4, l_5, n9)
                                      else
                                        some ((T_kinfolkref02_Event.mk n6 t2 t3), 0, l_5, n9)
                                  | .mk n12 t8 t9 =>
                                    (kinfolkref02_Max N (T_kinfolkref02_Event.mk n6 t2 t3)).bind fun n13 =>
                                    bif (decide ((1048576 : Int) < n13)) then
                                      some (t, 4, l_5, n9)
                                    else
                                      some ((T_kinfolkref02_Event.mk n6 t2 t3), 0, l_5, n9)
                                | .mk n12 t8 t9 =>
                                  (kinfolkref02_Max N (T_kinfolkref02_Event.mk n6 t2 t3)).bind fun n13 =>
                                  bif (decide ((1048576 : Int) < n13)) then
                                    some (t, 4, l_5, n9)
                                  else
                                    some ((T_kinfolkref02_Event.mk n6 t2 t3), 0, l_5, n9)
                          else
                            match t4 with
                            | .nil =>
                              match t3 with
                              | .nil =>
                                none
                              | .mk n11 t6 t7 =>
                                match t6 with
                                | .nil =>
                                  bif (decide ((n10 : Int) = n11)) then
                                    some (t, 6, l_5, n9)
                                  else
                                    (kinfolkref02_Max N (T_kinfolkref02_Event.mk n6 t2 t3)).bind fun n12 =>
                                    bif (decide ((1048576 : Int) < n12)) then
                                      some (t, 4, l_5, n9)
                                    else
                                      some ((T_kinfolkref02_Event.mk n6 t2 t3), 0, l_5, n9)
                                | .mk n12 t8 t9 =>
                                  (kinfolkref02_Max N (T_kinfolkref02_Event.mk n6 t2 t3)).bind fun n13 =>
                                  bif (decide ((1048576 : Int) < n13)) then
                                    some (t, 4, l_5, n9)
                                  else
                                    some ((T_kinfolkref02_Event.mk n6 t2 t3), 0, l_5, n9)
                            | .mk n11 t6 t7 =>
                              (kinfolkref02_Max N (T_kinfolkref02_Event.mk n6 t2 t3)).bind fun n12 =>
                              bif (decide ((1048576 : Int) < n12)) then
                                some (t, 4, l_5, n9)
                              else
                                some ((T_kinfolkref02_Event.mk n6 t2 t3), 0, l_5, n9)
                    else
                      match t2 with
                      | .nil =>
                        none
                      | .mk n10 t4 t5 =>
                        bif (decide ((0 : Int) < n10)) then
                          match t3 with
                          | .nil =>
                            none
                          | .mk n11 t6 t7 =>
                            bif (decide ((0 : Int) < n11)) then
                              some (t, 6, l_5, n9)
                            else
                              match t4 with
                              | .nil =>
                                match t6 with
                                | .nil =>
                                  bif (decide ((n10 : Int) = n11)) then
                                    some (t, 6, l_5, n9)
                                  else
                                    (kinfolkref02_Max N (T_kinfolkref02_Event.mk n6 t2 t3)).bind fun n12 =>
                                    bif (decide ((1048576 : Int) < n12)) then
                                      some (t, 4, l_5, n9)
                                    else
                                      some ((T_kinfolkref02_Event.mk n6 t2 t3), 0, l_5, n9)
                                | .mk n12 t8 t9 =>
                                  (kinfolkref02_Max N (T_kinfolkref02_Event.mk n6 t2 t3)).bind fun n13 =>
                                  bif (decide ((1048576 : Int) < n13)) then
                                    some (t, 4, l_5, n9)
                                  else
                                    some ((T_kinfolkref02_Event.mk n6 t2 t3), 0, l_5, n9)
                              | .mk n12 t8 t9 =>
                                (kinfolkref02_Max N (T_kinfolkref02_Event.mk n6 t2 t3)).bind fun n13 =>
                                bif (decide ((1048576 : Int) < n13)) then
                                  some (t, 4, l_5, n9)
                                else
                                  some ((T_kinfolkref02_Event.mk n6 t2 t3), 0, l_5, n9)
                        else
                          match t4 with
                          | .nil =>
                            match t3 with
                            | .nil =>
                              none
                            | .mk n11 t6 t7 =>
                              match t6 with
                              | .nil =>
                                bif (decide ((n10 : Int) = n11)) then
                                  some (t, 6, l_5, n9)
                                else
                                  (kinfolkref02_Max N (T_kinfolkref02_Event.mk n6 t2 t3)).bind fun n12 =>
                                  bif (decide ((1048576 : Int) < n12)) then
                                    some (t, 4, l_5, n9)
                                  else
                                    some ((T_kinfolkref02_Event.mk n6 t2 t3), 0, l_5, n9)
                              | .mk n12 t8 t9 =>
                                (kinfolkref02_Max N (T_kinfolkref02_Event.mk n6 t2 t3)).bind fun n13 =>
                                bif (decide ((1048576 : Int) < n13)) then
                                  some (t, 4, l_5, n9)
                                else
                                  some ((T_kinfolkref02_Event.mk n6 t2 t3), 0, l_5, n9)
                          | .mk n11 t6 t7 =>
                            (kinfolkref02_Max N (T_kinfolkref02_Event.mk n6 t2 t3)).bind fun n12 =>
                            bif (decide ((1048576 : Int) < n12)) then
                              some (t, 4, l_5, n9)
                            else
                              some ((T_kinfolkref02_Event.mk n6 t2 t3), 0, l_5, n9)
                else
                  bif b2 then
                    (kinfolkref07_zero t3).bind fun b3 =>
                    bif b3 then
                      some (t, 6, l_5, n9)
                    else
                      match t2 with
                      | .nil =>
                        none
                      | .mk n10 t4 t5 =>
                        bif (decide ((0 : Int) < n10)) then
                          match t3 with
                          | .nil =>
                            none
                          | .mk n11 t6 t7 =>
                            bif (decide ((0 : Int) < n11)) then
                              some (t, 6, l_5, n9)
                            else
                              match t4 with
                              | .nil =>
                                match t6 with
                                | .nil =>
                                  bif (decide ((n10 : Int) = n11)) then
                                    some (t, 6, l_5, n9)
                                  else
                                    (kinfolkref02_Max N (T_kinfolkref02_Event.mk n6 t2 t3)).bind fun n12 =>
                                    bif (decide ((1048576 : Int) < n12)) then
                                      some (t, 4, l_5, n9)
                                    else
                                      some ((T_kinfolkref02_Event.mk n6 t2 t3), 0, l_5, n9)
                                | .mk n12 t8 t9 =>
                                  (kinfolkref02_Max N (T_kinfolkref02_Event.mk n6 t2 t3)).bind fun n13 =>
                                  bif (decide ((1048576 : Int) < n13)) then
                                    some (t, 4, l_5, n9)
                                  else
                                    some ((T_kinfolkref02_Event.mk n6 t2 t3), 0, l_5, n9)
                              | .mk n12 t8 t9 =>
                                (kinfolkref02_Max N (T_kinfolkref02_Event.mk n6 t2 t3)).bind fun n13 =>
                                bif (decide ((1048576 : Int) < n13)) then
                                  some (t, 4, l_5, n9)
                                else
                                  some ((T_kinfolkref02_Event.mk n6 t2 t3), 0, l_5, n9)
                        else
                          match t4 with
                          | .nil =>
                            match t3 with
                            | .nil =>
                              none
                            | .mk n11 t6 t7 =>
                              match t6 with
                              | .nil =>
                                bif (decide ((n10 : Int) = n11)) then
                                  some (t, 6, l_5, n9)
                                else
                                  (kinfolkref02_Max N (T_kinfolkref02_Event.mk n6 t2 t3)).bind fun n12 =>
                                  bif (decide ((1048576 : Int) < n12)) then
                                    some (t, 4, l_5, n9)
                                  else
                                    some ((T_kinfolkref02_Event.mk n6 t2 t3), 0, l_5, n9)
                              | .mk n12 t8 t9 =>
                                (kinfolkref02_Max N (T_kinfolkref02_Event.mk n6 t2 t3)).bind fun n13 =>
                                bif (decide ((1048576 : Int) < n13)) then
                                  some (t, 4, l_5, n9)
                                else
                                  some ((T_kinfolkref02_Event.mk n6 t2 t3), 0, l_5, n9)
                          | .mk n11 t6 t7 =>
                            (kinfolkref02_Max N (T_kinfolkref02_Event.mk n6 t2 t3)).bind fun n12 =>
                            bif (decide ((1048576 : Int) < n12)) then
                              some (t, 4, l_5, n9)
                            else
                              some ((T_kinfolkref02_Event.mk n6 t2 t3), 0, l_5, n9)
                  else
                    match t2 with
                    | .nil =>
                      none
                    | .mk n10 t4 t5 =>
                      bif (decide ((0 : Int) < n10)) then
                        match t3 with
                        | .nil =>
                          none
                        | .mk n11 t6 t7 =>
                          bif (decide ((0 : Int) < n11)) then
                            some (t, 6, l_5, n9)
                          else
                            match t4 with
                            | .nil =>
                              match t6 with
                              | .nil =>
                                bif (decide ((n10 : Int) = n11)) then
                                  some (t, 6, l_5, n9)
                                else
                                  (kinfolkref02_Max N (T_kinfolkref02_Event.mk n6 t2 t3)).bind fun n12 =>
                                  bif (decide ((1048576 : Int) < n12)) then
                                    some (t, 4, l_5, n9)
                                  else
                                    some ((T_kinfolkref02_Event.mk n6 t2 t3), 0, l_5, n9)
                              | .mk n12 t8 t9 =>
                                (kinfolkref02_Max N (T_kinfolkref02_Event.mk n6 t2 t3)).bind fun n13 =>
                                bif (decide ((1048576 : Int) < n13)) then
                                  some (t, 4, l_5, n9)
                                else
                                  some ((T_kinfolkref02_Event.mk n6 t2 t3), 0, l_5, n9)
                            | .mk n12 t8 t9 =>
                              (kinfolkref02_Max N (T_kinfolkref02_Event.mk n6 t2 t3)).bind fun n13 =>
                              bif (decide ((1048576 : Int) < n13)) then
                                some (t, 4, l_5, n9)
                              else
                                some ((T_kinfolkref02_Event.mk n6 t2 t3), 0, l_5, n9)
                      else
                        match t4 with
                        | .nil =>
                          match t3 with
                          | .nil =>
                            none
                          | .mk n11 t6 t7 =>
                            match t6 with
                            | .nil =>
                              bif (decide ((n10 : Int) = n11)) then
                                some (t, 6, l_5, n9)
                              else
                                (kinfolkref02_Max N (T_kinfolkref02_Event.mk n6 t2 t3)).bind fun n12 =>
                                bif (decide ((1048576 : Int) < n12)) then
                                  some (t, 4, l_5, n9)
                                else
                                  some ((T_kinfolkref02_Event.mk n6 t2 t3), 0, l_5, n9)
                            | .mk n12 t8 t9 =>
                              (kinfolkref02_Max N (T_kinfolkref02_Event.mk n6 t2 t3)).bind fun n13 =>
                              bif (decide ((1048576 : Int) < n13)) then
                                some (t, 4, l_5, n9)
                              else
                                some ((T_kinfolkref02_Event.mk n6 t2 t3), 0, l_5, n9)
                        | .mk n11 t6 t7 =>
                          (kinfolkref02_Max N (T_kinfolkref02_Event.mk n6 t2 t3)).bind fun n12 =>
                          bif (decide ((1048576 : Int) < n12)) then
                            some (t, 4, l_5, n9)
                          else
                            some ((T_kinfolkref02_Event.mk n6 t2 t3), 0, l_5, n9)
              | .inr (n9, l_5, n10) =>
                some (t, n9, l_5, n10)
            | .inr (n8, l_4, n9) =>
              some (t, n8, l_4, n9)
          else
            some (t, 6, l_3, n7)
  else
    some (t, 6, l_, n3)
theorem kinfolkref07_GetEvent_3_runs (N : Nat) (depth : Int) (n : Int) (l : List Bool) (r_ : T_kinfolkref02_Event × Int × List Bool × Int) (h : kinfolkref07_GetEvent_3 N depth n l = some r_) : Runs Tryd.prog 77 [(.one (.ref 0 0)), (.one (.pv (.int .i64 depth)))] [[(.own 0 0 (l).length false), (.pv (.int .i64 n))]] [(.bools l)] (kinfolkref07_GetEvent_3_out depth n l r_) := by
  unfold kinfolkref07_GetEvent_3 at h
  obtain ⟨t, h1, h⟩ := bind_of h
  obtain ⟨⟨n2, l_, n3⟩, h2, h⟩ := bind_of h
  rcases cond_of h with ⟨h3, h⟩ | ⟨h3, h⟩
  · rcases cond_of h with ⟨h4, h⟩ | ⟨h4, h⟩
    · obtain ⟨⟨n4, n5, l_2, n6⟩, h5, h⟩ := bind_of h
      rcases cond_of h with ⟨h6, h⟩ | ⟨h6, h⟩
      · obtain ⟨t2, h7, h⟩ := bind_of h
        have h := some_of h
        subst h
        have t_ := tR (kinfolkref02_Leaf_runs 0 _ h1) <| tR (kinfolkref05_Get_runs 1 n l _ h2) <| tF (not_of2 h3) <| tT h4 <| tR (kinfolkref07_number_runs l_ n3 _ h5) <| tF (not_of2 h6) <| tR (kinfolkref02_Leaf_runs n4 _ h7) <| tN
        exact runs_of (C := cfg) (objs := [[(.own 0 0 (l).length false), (.pv (.int .i64 n))]]) (sc := t_.ev) (.k0 t_.pf (by kernel_rfl))
      · have h := some_of h
        subst h
        have t_ := tR (kinfolkref02_Leaf_runs 0 _ h1) <| tR (kinfolkref05_Get_runs 1 n l _ h2) <| tF (not_of2 h3) <| tT h4 <| tR (kinfolkref07_number_runs l_ n3 _ h5) <| tT (not_of h6) <| tN
        exact runs_of (C := cfg) (objs := [[(.own 0 0 (l).length false), (.pv (.int .i64 n))]]) (sc := t_.ev) (.k0 t_.pf (by kernel_rfl))
    · rcases cond_of h with ⟨h5, h⟩ | ⟨h5, h⟩
      · have h := some_of h
        subst h
        have t_ := tR (kinfolkref02_Leaf_runs 0 _ h1) <| tR (kinfolkref05_Get_runs 1 n l _ h2) <| tF (not_of2 h3) <| tF h4 <| tT h5 <| tN
        exact runs_of (C := cfg) (objs := [[(.own 0 0 (l).length false), (.pv (.int .i64 n))]]) (sc := t_.ev) (.k0 t_.pf (by kernel_rfl))
      · obtain ⟨⟨n4, l_2, n5⟩, h6, h⟩ := bind_of h
        obtain ⟨z_, h7, h⟩ := bind_of h
        rcases z_ with ⟨n6, l_3, n7⟩ | ⟨b, b2, n6, l_3, n7⟩
        · have h := some_of h
          subst h
          have t_ := tR (kinfolkref02_Leaf_runs 0 _ h1) <| tR (kinfolkref05_Get_runs 1 n l _ h2) <| tF (not_of2 h3) <| tF h4 <| tF h5 <| tR (kinfolkref05_Get_2_runs 2 l_ n3 _ h6) <| tL (kinfolkref07_GetEvent_C53_runs depth t (!(decide ((n4 : Int) = 0))) (!(decide ((n4 : Int) = 1))) (decide ((n4 : Int) = 3)) l_2 n5 _ h7) <| tN
          exact runs_of (C := cfg) (objs := [[(.own 0 0 (l).length false), (.pv (.int .i64 n))]]) (sc := t_.ev) (.k0 t_.pf (by kernel_rfl))
        · have q_7 := (kinfolkref07_GetEvent_C53_runs depth t (!(decide ((n4 : Int) = 0))) (!(decide ((n4 : Int) = 1))) (decide ((n4 : Int) = 3)) l_2 n5 _ h7)
          rcases cond_of h with ⟨h8, h⟩ | ⟨h8, h⟩
          · obtain ⟨z_, h9, h⟩ := bind_of h
            rcases z_ with ⟨t2, l_4, n8⟩ | ⟨n8, l_4, n9⟩
            · have q_9 := (kinfolkref07_GetEvent_C84_runs N depth t b b2 n6 t t b l_3 n7 _ h9)
              obtain ⟨z_, h10, h⟩ := bind_of h
              rcases z_ with ⟨t3, l_5, n9⟩ | ⟨n9, l_5, n10⟩
              · have q_10 := (kinfolkref07_GetEvent_C96_runs (kinfolkref07_GetEvent_4 N) (kinfolkref07_GetEvent_4_runs N) depth t b b2 n6 t2 t b2 l_4 n8 _ h10)
                rcases cond_of h with ⟨h11, h⟩ | ⟨h11, h⟩
                · obtain ⟨b3, h12, h⟩ := bind_of h
                  rcases cond_of h with ⟨h13, h⟩ | ⟨h13, h⟩
                  · have h := some_of h
                    subst h
                    have t_ := tR (kinfolkref02_Leaf_runs 0 _ h1) <| tR (kinfolkref05_Get_runs 1 n l _ h2) <| tF (not_of2 h3) <| tF h4 <| tF h5 <| tR (kinfolkref05_Get_2_runs 2 l_ n3 _ h6) <| tL q_7 <| tF (not_of2 h8) <| tL q_9 <| tL q_10 <| tT h11 <| tR (kinfolkref07_zero_runs t2 _ h12) <| tT h13 <| tT (rfl : true = true) <| tT (rfl : true = true) <| tT (rfl : true = true) <| tN
                    exact runs_of (C := cfg) (objs := [[(.own 0 0 (l).length false), (.pv (.int .i64 n))]]) (sc := t_.ev) (.k1 t_.pf (by kernel_rfl) (by kernel_rfl))
                  · rcases cond_of h with ⟨h14, h⟩ | ⟨h14, h⟩
                    · obtain ⟨b4, h15, h⟩ := bind_of h
                      rcases cond_of h with ⟨h16, h⟩ | ⟨h16, h⟩
                      · have h := some_of h
                        subst h
                        have t_ := tR (kinfolkref02_Leaf_runs 0 _ h1) <| tR (kinfolkref05_Get_runs 1 n l _ h2) <| tF (not_of2 h3) <| tF h4 <| tF h5 <| tR (kinfolkref05_Get_2_runs 2 l_ n3 _ h6) <| tL q_7 <| tF (not_of2 h8) <| tL q_9 <| tL q_10 <| tT h11 <| tR (kinfolkref07_zero_runs t2 _ h12) <| tF h13 <| tT h14 <| tR (kinfolkref07_zero_runs t3 _ h15) <| tT h16 <| tT (rfl : true = true) <| tT (rfl : true = true) <| tN
                        exact runs_of (C := cfg) (objs := [[(.own 0 0 (l).length false), (.pv (.int .i64 n))]]) (sc := t_.ev) (.k1 t_.pf (by kernel_rfl) (by kernel_rfl))
                      · cases t2 with
                        | nil =>
                          cases h
                        | mk n10 t4 t5 =>
                          rcases cond_of h with ⟨h17, h⟩ | ⟨h17, h⟩
                          · cases t3 with
                            | nil =>
                              cases h
                            | mk n11 t6 t7 =>
                              rcases cond_of h with ⟨h18, h⟩ | ⟨h18, h⟩
                              · have h := some_of h
                                subst h
                                have t_ := tR (kinfolkref02_Leaf_runs 0 _ h1) <| tR (kinfolkref05_Get_runs 1 n l _ h2) <| tF (not_of2 h3) <| tF h4 <| tF h5 <| tR (kinfolkref05_Get_2_runs 2 l_ n3 _ h6) <| tL q_7 <| tF (not_of2 h8) <| tL q_9 <| tL q_10 <| tT h11 <| tR (kinfolkref07_zero_runs (T_kinfolkref02_Event.mk n10 t4 t5) _ h12) <| tF h13 <| tT h14 <| tR (kinfolkref07_zero_runs (T_kinfolkref02_Event.mk n11 t6 t7) _ h15) <| tF h16 <| tT h17 <| tT h18 <| tT (rfl : true = true) <| tN
                                exact runs_of (C := cfg) (objs := [[(.own 0 0 (l).length false), (.pv (.int .i64 n))]]) (sc := t_.ev) (.k1 t_.pf (by kernel_rfl) (by kernel_rfl))
                              · cases t4 with
                                | nil =>
                                  cases t6 with
                                  | nil =>
                                    rcases cond_of h with ⟨h19, h⟩ | ⟨h19, h⟩
                                    · have h := some_of h
                                      subst h
                                      have t_ := tR (kinfolkref02_Leaf_runs 0 _ h1) <| tR (kinfolkref05_Get_runs 1 n l _ h2) <| tF (not_of2 h3) <| tF h4 <| tF h5 <| tR (kinfolkref05_Get_2_runs 2 l_ n3 _ h6) <| tL q_7 <| tF (not_of2 h8) <| tL q_9 <| tL q_10 <| tT h11 <| tR (kinfolkref07_zero_runs (T_kinfolkref02_Event.mk n10 T_kinfolkref02_Event.nil t5) _ h12) <| tF h13 <| tT h14 <| tR (kinfolkref07_zero_runs (T_kinfolkref02_Event.mk n11 T_kinfolkref02_Event.nil t7) _ h15) <| tF h16 <| tT h17 <| tF h18 <| tT (rfl : true = true) <| tT (rfl : true = true) <| tT h19 <| tN
                                      exact runs_of (C := cfg) (objs := [[(.own 0 0 (l).length false), (.pv (.int .i64 n))]]) (sc := t_.ev) (.k0 t_.pf (by kernel_rfl))
                                    · obtain ⟨n12, h20, h⟩ := bind_of h
                                      have q_20 := (Runs.coe (as' := [(.one (.pv (.imm [(.int .u64 n6), (T_kinfolkref02_Event.pv (T_kinfolkref02_Event.mk n10 T_kinfolkref02_Event.nil t5)), (T_kinfolkref02_Event.pv (T_kinfolkref02_Event.mk n11 T_kinfolkref02_Event.nil t7))] 0)))]) (objs' := []) (rows' := []) (kinfolkref02_Max_runs N (T_kinfolkref02_Event.mk n6 (T_kinfolkref02_Event.mk n10 T_kinfolkref02_Event.nil t5) (T_kinfolkref02_Event.mk n11 T_kinfolkref02_Event.nil t7)) _ h20) ⟨.eq rfl, trivial⟩ trivial trivial)
                                      rcases cond_of h with ⟨h21, h⟩ | ⟨h21, h⟩
                                      · have h := some_of h
                                        subst h
                                        have t_ := tR (kinfolkref02_Leaf_runs 0 _ h1) <| tR (kinfolkref05_Get_runs 1 n l _ h2) <| tF (not_of2 h3) <| tF h4 <| tF h5 <| tR (kinfolkref05_Get_2_runs 2 l_ n3 _ h6) <| tL q_7 <| tF (not_of2 h8) <| tL q_9 <| tL q_10 <| tT h11 <| tR (kinfolkref07_zero_runs (T_kinfolkref02_Event.mk n10 T_kinfolkref02_Event.nil t5) _ h12) <| tF h13 <| tT h14 <| tR (kinfolkref07_zero_runs (T_kinfolkref02_Event.mk n11 T_kinfolkref02_Event.nil t7) _ h15) <| tF h16 <| tT h17 <| tF h18 <| tT (rfl : true = true) <| tT (rfl : true = true) <| tF h19 <| tR q_20 <| tT h21 <| tN
                                        exact runs_of (C := cfg) (objs := [[(.own 0 0 (l).length false), (.pv (.int .i64 n))]]) (sc := t_.ev) (.k0 t_.pf (by kernel_rfl))
                                      · have h := some_of h
                                        subst h
                                        have t_ := tR (kinfolkref02_Leaf_runs 0 _ h1) <| tR (kinfolkref05_Get_runs 1 n l _ h2) <| tF (not_of2 h3) <| tF h4 <| tF h5 <| tR (kinfolkref05_Get_2_runs 2 l_ n3 _ h6) <| tL q_7 <| tF (not_of2 h8) <| tL q_9 <| tL q_10 <| tT h11 <| tR (kinfolkref07_zero_runs (T_kinfolkref02_Event.mk n10 T_kinfolkref02_Event.nil t5) _ h12) <| tF h13 <| tT h14 <| tR (kinfolkref07_zero_runs (T_kinfolkref02_Event.mk n11 T_kinfolkref02_Event.nil t7) _ h15) <| tF h16 <| tT h17 <| tF h18 <| tT (rfl : true = true) <| tT (rfl : true = true) <| tF h19 <| tR q_20 <| tF h21 <| tN
                                        have e_ : Runs Tryd.prog 77 [(.one (.ref 0 0)), (.one (.pv (.int .i64 depth)))] [[(.own 0 0 (l).length false), (.pv (.int .i64 n))]] [(.bools l)] ([(.one (.pv (.imm [(.int .u64 n6), (T_kinfolkref02_Event.pv (T_kinfolkref02_Event.mk n10 T_kinfolkref02_Event.nil t5)), (T_kinfolkref02_Event.pv (T_kinfolkref02_Event.mk n11 T_kinfolkref02_Event.nil t7))] 0))), (.one (.pv (.int .i64 0)))], [[(.pv (.bools l_5 false)), (.pv (.int .i64 n9))]], []) := runs_of (C := cfg) (objs := [[(.own 0 0 (l).length false), (.pv (.int .i64 n))]]) (sc := t_.ev) (.k0 t_.pf (by kernel_rfl))
                                        exact e_.out ⟨.eq rfl, .eq rfl, trivial⟩ ⟨⟨.eq rfl, .eq rfl, trivial⟩, trivial⟩ trivial rfl
                                  | mk n12 t8 t9 =>
                                    obtain ⟨n13, h19, h⟩ := bind_of h
                                    have q_19 := (Runs.coe (as' := [(.one (.pv (.imm [(.int .u64 n6), (T_kinfolkref02_Event.pv (T_kinfolkref02_Event.mk n10 T_kinfolkref02_Event.nil t5)), (T_kinfolkref02_Event.pv (T_kinfolkref02_Event.mk n11 (T_kinfolkref02_Event.mk n12 t8 t9) t7))] 0)))]) (objs' := []) (rows' := []) (kinfolkref02_Max_runs N (T_kinfolkref02_Event.mk n6 (T_kinfolkref02_Event.mk n10 T_kinfolkref02_Event.nil t5) (T_kinfolkref02_Event.mk n11 (T_kinfolkref02_Event.mk n12 t8 t9) t7)) _ h19) ⟨.eq rfl, trivial⟩ trivial trivial)
                                    rcases cond_of h with ⟨h20, h⟩ | ⟨h20, h⟩
                                    · have h := some_of h
                                      subst h
                                      have t_ := tR (kinfolkref02_Leaf_runs 0 _ h1) <| tR (kinfolkref05_Get_runs 1 n l _ h2) <| tF (not_of2 h3) <| tF h4 <| tF h5 <| tR (kinfolkref05_Get_2_runs 2 l_ n3 _ h6) <| tL q_7 <| tF (not_of2 h8) <| tL q_9 <| tL q_10 <| tT h11 <| tR (kinfolkref07_zero_runs (T_kinfolkref02_Event.mk n10 T_kinfolkref02_Event.nil t5) _ h12) <| tF h13 <| tT h14 <| tR (kinfolkref07_zero_runs (T_kinfolkref02_Event.mk n11 (T_kinfolkref02_Event.mk n12 t8 t9) t7) _ h15) <| tF h16 <| tT h17 <| tF h18 <| tT (rfl : true = true) <| tF (rfl : false = false) <| tF (rfl : false = false) <| tR q_19 <| tT h20 <| tN
                                      exact runs_of (C := cfg) (objs := [[(.own 0 0 (l).length false), (.pv (.int .i64 n))]]) (sc := t_.ev) (.k1 t_.pf (by kernel_rfl) (by kernel_rfl))
                                    · have h := some_of h
                                      subst h
                                      have t_ := tR (kinfolkref02_Leaf_runs 0 _ h1) <| tR (kinfolkref05_Get_runs 1 n l _ h2) <| tF (not_of2 h3) <| tF h4 <| tF h5 <| tR (kinfolkref05_Get_2_runs 2 l_ n3 _ h6) <| tL q_7 <| tF (not_of2 h8) <| tL q_9 <| tL q_10 <| tT h11 <| tR (kinfolkref07_zero_runs (T_kinfolkref02_Event.mk n10 T_kinfolkref02_Event.nil t5) _ h12) <| tF h13 <| tT h14 <| tR (kinfolkref07_zero_runs (T_kinfolkref02_Event.mk n11 (T_kinfolkref02_Event.mk n12 t8 t9) t7) _ h15) <| tF h16 <| tT h17 <| tF h18 <| tT (rfl : true = true) <| tF (rfl : false = false) <| tF (rfl : false = false) <| tR q_19 <| tF h20 <| tN
                                      have e_ : Runs Tryd.prog 77 [(.one (.ref 0 0)), (.one (.pv (.int .i64 depth)))] [[(.own 0 0 (l).length false), (.pv (.int .i64 n))]] [(.bools l)] ([(.one (.pv (.imm [(.int .u64 n6), (T_kinfolkref02_Event.pv (T_kinfolkref02_Event.mk n10 T_kinfolkref02_Event.nil t5)), (T_kinfolkref02_Event.pv (T_kinfolkref02_Event.mk n11 (T_kinfolkref02_Event.mk n12 t8 t9) t7))] 0))), (.one (.pv (.int .i64 0)))], [[(.pv (.bools l_5 false)), (.pv (.int .i64 n9))]], []) := runs_of (C := cfg) (objs := [[(.own 0 0 (l).length false), (.pv (.int .i64 n))]]) (sc := t_.ev) (.k1 t_.pf (by kernel_rfl) (by kernel_rfl))
                                      exact e_.out ⟨.eq rfl, .eq rfl, trivial⟩ ⟨⟨.eq rfl, .eq rfl, trivial⟩, trivial⟩ trivial rfl
                                | mk n12 t8 t9 =>
                                  obtain ⟨n13, h19, h⟩ := bind_of h
                                  have q_19 := (Runs.coe (as' := [(.one (.pv (.imm [(.int .u64 n6), (T_kinfolkref02_Event.pv (T_kinfolkref02_Event.mk n10 (T_kinfolkref02_Event.mk n12 t8 t9) t5)), (T_kinfolkref02_Event.pv (T_kinfolkref02_Event.mk n11 t6 t7))] 0)))]) (objs' := []) (rows' := []) (kinfolkref02_Max_runs N (T_kinfolkref02_Event.mk n6 (T_kinfolkref02_Event.mk n10 (T_kinfolkref02_Event.mk n12 t8 t9) t5) (T_kinfolkref02_Event.mk n11 t6 t7)) _ h19) ⟨.eq rfl, trivial⟩ trivial trivial)
                                  rcases cond_of h with ⟨h20, h⟩ | ⟨h20, h⟩
                                  · have h := some_of h
                                    subst h
                                    have t_ := tR (kinfolkref02_Leaf_runs 0 _ h1) <| tR (kinfolkref05_Get_runs 1 n l _ h2) <| tF (not_of2 h3) <| tF h4 <| tF h5 <| tR (kinfolkref05_Get_2_runs 2 l_ n3 _ h6) <| tL q_7 <| tF (not_of2 h8) <| tL q_9 <| tL q_10 <| tT h11 <| tR (kinfolkref07_zero_runs (T_kinfolkref02_Event.mk n10 (T_kinfolkref02_Event.mk n12 t8 t9) t5) _ h12) <| tF h13 <| tT h14 <| tR (kinfolkref07_zero_runs (T_kinfolkref02_Event.mk n11 t6 t7) _ h15) <| tF h16 <| tT h17 <| tF h18 <| tF (rfl : false = false) <| tF (rfl : false = false) <| tF (rfl : false = false) <| tR q_19 <| tT h20 <| tN
                                    exact runs_of (C := cfg) (objs := [[(.own 0 0 (l).length false), (.pv (.int .i64 n))]]) (sc := t_.ev) (.k1 t_.pf (by kernel_rfl) (by kernel_rfl))
                                  · have h := some_of h
                                    subst h
                                    have t_ := tR (kinfolkref02_Leaf_runs 0 _ h1) <| tR (kinfolkref05_Get_runs 1 n l _ h2) <| tF (not_of2 h3) <| tF h4 <| tF h5 <| tR (kinfolkref05_Get_2_runs 2 l_ n3 _ h6) <| tL q_7 <| tF (not_of2 h8) <| tL q_9 <| tL q_10 <| tT h11 <| tR (kinfolkref07_zero_runs (T_kinfolkref02_Event.mk n10 (T_kinfolkref02_Event.mk n12 t8 t9) t5) _ h12) <| tF h13 <| tT h14 <| tR (kinfolkref07_zero_runs (T_kinfolkref02_Event.mk n11 t6 t7) _ h15) <| tF h16 <| tT h17 <| tF h18 <| tF (rfl : false = false) <| tF (rfl : false = false) <| tF (rfl : false = false) <| tR q_19 <| tF h20 <| tN
                                    have e_ : Runs Tryd.prog 77 [(.one (.ref 0 0)), (.one (.pv (.int .i64 depth)))] [[(.own 0 0 (l).length false), (.pv (.int .i64 n))]] [(.bools l)] ([(.one (.pv (.imm [(.int .u64 n6), (T_kinfolkref02_Event.pv (T_kinfolkref02_Event.mk n10 (T_kinfolkref02_Event.mk n12 t8 t9) t5)), (T_kinfolkref02_Event.pv (T_kinfolkref02_Event.mk n11 t6 t7))] 0))), (.one (.pv (.int .i64 0)))], [[(.pv (.bools l_5 false)), (.pv (.int .i64 n9))]], []) := runs_of (C := cfg) (objs := [[(.own 0 0 (l).length false), (.pv (.int .i64 n))]]) (sc := t_.ev) (.k1 t_.pf (by kernel_rfl) (by kernel_rfl))
                                    exact e_.out ⟨.eq rfl, .eq rfl, trivial⟩ ⟨⟨.eq rfl, .eq rfl, trivial⟩, trivial⟩ trivial rfl
                          · cases t4 with
                            | nil =>
                              cases t3 with
                              | nil =>
                                cases h
                              | mk n11 t6 t7 =>
                                cases t6 with
                                | nil =>
                                  rcases cond_of h with ⟨h18, h⟩ | ⟨h18, h⟩
                                  · have h := some_of h
                                    subst h
                                    have t_ := tR (kinfolkref02_Leaf_runs 0 _ h1) <| tR (kinfolkref05_Get_runs 1 n l _ h2) <| tF (not_of2 h3) <| tF h4 <| tF h5 <| tR (kinfolkref05_Get_2_runs 2 l_ n3 _ h6) <| tL q_7 <| tF (not_of2 h8) <| tL q_9 <| tL q_10 <| tT h11 <| tR (kinfolkref07_zero_runs (T_kinfolkref02_Event.mk n10 T_kinfolkref02_Event.nil t5) _ h12) <| tF h13 <| tT h14 <| tR (kinfolkref07_zero_runs (T_kinfolkref02_Event.mk n11 T_kinfolkref02_Event.nil t7) _ h15) <| tF h16 <| tF h17 <| tF (rfl : false = false) <| tT (rfl : true = true) <| tT (rfl : true = true) <| tT h18 <| tN
                                    exact runs_of (C := cfg) (objs := [[(.own 0 0 (l).length false), (.pv (.int .i64 n))]]) (sc := t_.ev) (.k0 t_.pf (by kernel_rfl))
                                  · obtain ⟨n12, h19, h⟩ := bind_of h
                                    have q_19 := (Runs.coe (as' := [(.one (.pv (.imm [(.int .u64 n6), (T_kinfolkref02_Event.pv (T_kinfolkref02_Event.mk n10 T_kinfolkref02_Event.nil t5)), (T_kinfolkref02_Event.pv (T_kinfolkref02_Event.mk n11 T_kinfolkref02_Event.nil t7))] 0)))]) (objs' := []) (rows' := []) (kinfolkref02_Max_runs N (T_kinfolkref02_Event.mk n6 (T_kinfolkref02_Event.mk n10 T_kinfolkref02_Event.nil t5) (T_kinfolkref02_Event.mk n11 T_kinfolkref02_Event.nil t7)) _ h19) ⟨.eq rfl, trivial⟩ trivial trivial)
                                    rcases cond_of h with ⟨h20, h⟩ | ⟨h20, h⟩
                                    · have h := some_of h
                                      subst h
                                      have t_ := tR (kinfolkref02_Leaf_runs 0 _ h1) <| tR (kinfolkref05_Get_runs 1 n l _ h2) <| tF (not_of2 h3) <| tF h4 <| tF h5 <| tR (kinfolkref05_Get_2_runs 2 l_ n3 _ h6) <| tL q_7 <| tF (not_of2 h8) <| tL q_9 <| tL q_10 <| tT h11 <| tR (kinfolkref07_zero_runs (T_kinfolkref02_Event.mk n10 T_kinfolkref02_Event.nil t5) _ h12) <| tF h13 <| tT h14 <| tR (kinfolkref07_zero_runs (T_kinfolkref02_Event.mk n11 T_kinfolkref02_Event.nil t7) _ h15) <| tF h16 <| tF h17 <| tF (rfl : false = false) <| tT (rfl : true = true) <| tT (rfl : true = true) <| tF h18 <| tR q_19 <| tT h20 <| tN
                                      exact runs_of (C := cfg) (objs := [[(.own 0 0 (l).length false), (.pv (.int .i64 n))]]) (sc := t_.ev) (.k0 t_.pf (by kernel_rfl))
                                    · have h := some_of h
                                      subst h
                                      have t_ := tR (kinfolkref02_Leaf_runs 0 _ h1) <| tR (kinfolkref05_Get_runs 1 n l _ h2) <| tF (not_of2 h3) <| tF h4 <| tF h5 <| tR (kinfolkref05_Get_2_runs 2 l_ n3 _ h6) <| tL q_7 <| tF (not_of2 h8) <| tL q_9 <| tL q_10 <| tT h11 <| tR (kinfolkref07_zero_runs (T_kinfolkref02_Event.mk n10 T_kinfolkref02_Event.nil t5) _ h12) <| tF h13 <| tT h14 <| tR (kinfolkref07_zero_runs (T_kinfolkref02_Event.mk n11 T_kinfolkref02_Event.nil t7) _ h15) <| tF h16 <| tF h17 <| tF (rfl : false = false) <| tT (rfl : true = true) <| tT (rfl : true = true) <| tF h18 <| tR q_19 <| tF h20 <| tN
                                      have e_ : Runs Tryd.prog 77 [(.one (.ref 0 0)), (.one (.pv (.int .i64 depth)))] [[(.own 0 0 (l).length false), (.pv (.int .i64 n))]] [(.bools l)] ([(.one (.pv (.imm [(.int .u64 n6), (T_kinfolkref02_Event.pv (T_kinfolkref02_Event.mk n10 T_kinfolkref02_Event.nil t5)), (T_kinfolkref02_Event.pv (T_kinfolkref02_Event.mk n11 T_kinfolkref02_Event.nil t7))] 0))), (.one (.pv (.int .i64 0)))], [[(.pv (.bools l_5 false)), (.pv (.int .i64 n9))]], []) := runs_of (C := cfg) (objs := [[(.own 0 0 (l).length false), (.pv (.int .i64 n))]]) (sc := t_.ev) (.k0 t_.pf (by kernel_rfl))
                                      exact e_.out ⟨.eq rfl, .eq rfl, trivial⟩ ⟨⟨.eq rfl, .eq rfl, trivial⟩, trivial⟩ trivial rfl
                                | mk n12 t8 t9 =>
                                  obtain ⟨n13, h18, h⟩ := bind_of h
                                  have q_18 := (Runs.coe (as' := [(.one (.pv (.imm [(.int .u64 n6), (T_kinfolkref02_Event.pv (T_kinfolkref02_Event.mk n10 T_kinfolkref02_Event.nil t5)), (T_kinfolkref02_Event.pv (T_kinfolkref02_Event.mk n11 (T_kinfolkref02_Event.mk n12 t8 t9) t7))] 0)))]) (objs' := []) (rows' := []) (kinfolkref02_Max_runs N (T_kinfolkref02_Event.mk n6 (T_kinfolkref02_Event.mk n10 T_kinfolkref02_Event.nil t5) (T_kinfolkref02_Event.mk n11 (T_kinfolkref02_Event.mk n12 t8 t9) t7)) _ h18) ⟨.eq rfl, trivial⟩ trivial trivial)
                                  rcases cond_of h with ⟨h19, h⟩ | ⟨h19, h⟩
                                  · have h := some_of h
                                    subst h
                                    have t_ := tR (kinfolkref02_Leaf_runs 0 _ h1) <| tR (kinfolkref05_Get_runs 1 n l _ h2) <| tF (not_of2 h3) <| tF h4 <| tF h5 <| tR (kinfolkref05_Get_2_runs 2 l_ n3 _ h6) <| tL q_7 <| tF (not_of2 h8) <| tL q_9 <| tL q_10 <| tT h11 <| tR (kinfolkref07_zero_runs (T_kinfolkref02_Event.mk n10 T_kinfolkref02_Event.nil t5) _ h12) <| tF h13 <| tT h14 <| tR (kinfolkref07_zero_runs (T_kinfolkref02_Event.mk n11 (T_kinfolkref02_Event.mk n12 t8 t9) t7) _ h15) <| tF h16 <| tF h17 <| tF (rfl : false = false) <| tT (rfl : true = true) <| tF (rfl : false = false) <| tF (rfl : false = false) <| tR q_18 <| tT h19 <| tN
                                    exact runs_of (C := cfg) (objs := [[(.own 0 0 (l).length false), (.pv (.int .i64 n))]]) (sc := t_.ev) (.k1 t_.pf (by kernel_rfl) (by kernel_rfl))
                                  · have h := some_of h
                                    subst h
                                    have t_ := tR (kinfolkref02_Leaf_runs 0 _ h1) <| tR (kinfolkref05_Get_runs 1 n l _ h2) <| tF (not_of2 h3) <| tF h4 <| tF h5 <| tR (kinfolkref05_Get_2_runs 2 l_ n3 _ h6) <| tL q_7 <| tF (not_of2 h8) <| tL q_9 <| tL q_10 <| tT h11 <| tR (kinfolkref07_zero_runs (T_kinfolkref02_Event.mk n10 T_kinfolkref02_Event.nil t5) _ h12) <| tF h13 <| tT h14 <| tR (kinfolkref07_zero_runs (T_kinfolkref02_Event.mk n11 (T_kinfolkref02_Event.mk n12 t8 t9) t7) _ h15) <| tF h16 <| tF h17 <| tF (rfl : false = false) <| tT (rfl : true = true) <| tF (rfl : false = false) <| tF (rfl : false = false) <| tR q_18 <| tF h19 <| tN
                                    have e_ : Runs Tryd.prog 77 [(.one (.ref 0 0)), (.one (.pv (.int .i64 depth)))] [[(.own 0 0 (l).length false), (.pv (.int .i64 n))]] [(.bools l)] ([(.one (.pv (.imm [(.int .u64 n6), (T_kinfolkref02_Event.pv (T_kinfolkref02_Event.mk n10 T_kinfolkref02_Event.nil t5)), (T_kinfolkref02_Event.pv (T_kinfolkref02_Event.mk n11 (T_kinfolkref02_Event.mk n12 t8 t9) t7))] 0))), (.one (.pv (.int .i64 0)))], [[(.pv (.bools l_5 false)), (.pv (.int .i64 n9))]], []) := runs_of (C := cfg) (objs := [[(.own 0 0 (l).length false), (.pv (.int .i64 n))]]) (sc := t_.ev) (.k1 t_.pf (by kernel_rfl) (by kernel_rfl))
                                    exact e_.out ⟨.eq rfl, .eq rfl, trivial⟩ ⟨⟨.eq rfl, .eq rfl, trivial⟩, trivial⟩ trivial rfl
                            | mk n11 t6 t7 =>
                              obtain ⟨n12, h18, h⟩ := bind_of h
                              have q_18 := (Runs.coe (as' := [(.one (.pv (.imm [(.int .u64 n6), (T_kinfolkref02_Event.pv (T_kinfolkref02_Event.mk n10 (T_kinfolkref02_Event.mk n11 t6 t7) t5)), (T_kinfolkref02_Event.pv t3)] 0)))]) (objs' := []) (rows' := []) (kinfolkref02_Max_runs N (T_kinfolkref02_Event.mk n6 (T_kinfolkref02_Event.mk n10 (T_kinfolkref02_Event.mk n11 t6 t7) t5) t3) _ h18) ⟨.eq rfl, trivial⟩ trivial trivial)
                              rcases cond_of h with ⟨h19, h⟩ | ⟨h19, h⟩
                              · have h := some_of h
                                subst h
                                have t_ := tR (kinfolkref02_Leaf_runs 0 _ h1) <| tR (kinfolkref05_Get_runs 1 n l _ h2) <| tF (not_of2 h3) <| tF h4 <| tF h5 <| tR (kinfolkref05_Get_2_runs 2 l_ n3 _ h6) <| tL q_7 <| tF (not_of2 h8) <| tL q_9 <| tL q_10 <| tT h11 <| tR (kinfolkref07_zero_runs (T_kinfolkref02_Event.mk n10 (T_kinfolkref02_Event.mk n11 t6 t7) t5) _ h12) <| tF h13 <| tT h14 <| tR (kinfolkref07_zero_runs t3 _ h15) <| tF h16 <| tF h17 <| tF (rfl : false = false) <| tF (rfl : false = false) <| tF (rfl : false = false) <| tF (rfl : false = false) <| tR q_18 <| tT h19 <| tN
                                exact runs_of (C := cfg) (objs := [[(.own 0 0 (l).length false), (.pv (.int .i64 n))]]) (sc := t_.ev) (.k1 t_.pf (by kernel_rfl) (by kernel_rfl))
                              · have h := some_of h
                                subst h
                                have t_ := tR (kinfolkref02_Leaf_runs 0 _ h1) <| tR (kinfolkref05_Get_runs 1 n l _ h2) <| tF (not_of2 h3) <| tF h4 <| tF h5 <| tR (kinfolkref05_Get_2_runs 2 l_ n3 _ h6) <| tL q_7 <| tF (not_of2 h8) <| tL q_9 <| tL q_10 <| tT h11 <| tR (kinfolkref07_zero_runs (T_kinfolkref02_Event.mk n10 (T_kinfolkref02_Event.mk n11 t6 t7) t5) _ h12) <| tF h13 <| tT h14 <| tR (kinfolkref07_zero_runs t3 _ h15) <| tF h16 <| tF h17 <| tF (rfl : false = false) <| tF (rfl : false = false) <| tF (rfl : false = false) <| tF (rfl : false = false) <| tR q_18 <| tF h19 <| tN
                                have e_ : Runs Tryd.prog 77 [(.one (.ref 0 0)), (.one (.pv (.int .i64 depth)))] [[(.own 0 0 (l).length false), (.pv (.int .i64 n))]] [(.bools l)] ([(.one (.pv (.imm [(.int .u64 n6), (T_kinfolkref02_Event.pv (T_kinfolkref02_Event.mk n10 (T_kinfolkref02_Event.mk n11 t6 t7) t5)), (T_kinfolkref02_Event.pv t3)] 0))), (.one (.pv (.int .i64 0)))], [[(.pv (.bools l_5 false)), (.pv (.int .i64 n9))]], []) := runs_of (C := cfg) (objs := [[(.own 0 0 (l).length false), (.pv (.int .i64 n))]]) (sc := t_.ev) (.k1 t_.pf (by kernel_rfl) (by kernel_rfl))
                                exact e_.out ⟨.eq rfl, .eq rfl, trivial⟩ ⟨⟨.eq rfl, .eq rfl, trivial⟩, trivial⟩ trivial rfl
                    · cases t2 with
                      | nil =>
                        cases h
                      | mk n10 t4 t5 =>
                        rcases cond_of h with ⟨h15, h⟩ | ⟨h15, h⟩
                        · cases t3 with
                          | nil =>
                            cases h
                          | mk n11 t6 t7 =>
                            rcases cond_of h with ⟨h16, h⟩ | ⟨h16, h⟩
                            · have h := some_of h
                              subst h
                              have t_ := tR (kinfolkref02_Leaf_runs 0 _ h1) <| tR (kinfolkref05_Get_runs 1 n l _ h2) <| tF (not_of2 h3) <| tF h4 <| tF h5 <| tR (kinfolkref05_Get_2_runs 2 l_ n3 _ h6) <| tL q_7 <| tF (not_of2 h8) <| tL q_9 <| tL q_10 <| tT h11 <| tR (kinfolkref07_zero_runs (T_kinfolkref02_Event.mk n10 t4 t5) _ h12) <| tF h13 <| tF h14 <| tF (rfl : false = false) <| tT h15 <| tT h16 <| tT (rfl : true = true) <| tN
                              exact runs_of (C := cfg) (objs := [[(.own 0 0 (l).length false), (.pv (.int .i64 n))]]) (sc := t_.ev) (.k1 t_.pf (by kernel_rfl) (by kernel_rfl))
                            · cases t4 with
                              | nil =>
                                cases t6 with
                                | nil =>
                                  rcases cond_of h with ⟨h17, h⟩ | ⟨h17, h⟩
                                  · have h := some_of h
                                    subst h
                                    have t_ := tR (kinfolkref02_Leaf_runs 0 _ h1) <| tR (kinfolkref05_Get_runs 1 n l _ h2) <| tF (not_of2 h3) <| tF h4 <| tF h5 <| tR (kinfolkref05_Get_2_runs 2 l_ n3 _ h6) <| tL q_7 <| tF (not_of2 h8) <| tL q_9 <| tL q_10 <| tT h11 <| tR (kinfolkref07_zero_runs (T_kinfolkref02_Event.mk n10 T_kinfolkref02_Event.nil t5) _ h12) <| tF h13 <| tF h14 <| tF (rfl : false = false) <| tT h15 <| tF h16 <| tT (rfl : true = true) <| tT (rfl : true = true) <| tT h17 <| tN
                                    exact runs_of (C := cfg) (objs := [[(.own 0 0 (l).length false), (.pv (.int .i64 n))]]) (sc := t_.ev) (.k0 t_.pf (by kernel_rfl))
                                  · obtain ⟨n12, h18, h⟩ := bind_of h
                                    have q_18 := (Runs.coe (as' := [(.one (.pv (.imm [(.int .u64 n6), (T_kinfolkref02_Event.pv (T_kinfolkref02_Event.mk n10 T_kinfolkref02_Event.nil t5)), (T_kinfolkref02_Event.pv (T_kinfolkref02_Event.mk n11 T_kinfolkref02_Event.nil t7))] 0)))]) (objs' := []) (rows' := []) (kinfolkref02_Max_runs N (T_kinfolkref02_Event.mk n6 (T_kinfolkref02_Event.mk n10 T_kinfolkref02_Event.nil t5) (T_kinfolkref02_Event.mk n11 T_kinfolkref02_Event.nil t7)) _ h18) ⟨.eq rfl, trivial⟩ trivial trivial)
                                    rcases cond_of h with ⟨h19, h⟩ | ⟨h19, h⟩
                                    · have h := some_of h
                                      subst h
                                      have t_ := tR (kinfolkref02_Leaf_runs 0 _ h1) <| tR (kinfolkref05_Get_runs 1 n l _ h2) <| tF (not_of2 h3) <| tF h4 <| tF h5 <| tR (kinfolkref05_Get_2_runs 2 l_ n3 _ h6) <| tL q_7 <| tF (not_of2 h8) <| tL q_9 <| tL q_10 <| tT h11 <| tR (kinfolkref07_zero_runs (T_kinfolkref02_Event.mk n10 T_kinfolkref02_Event.nil t5) _ h12) <| tF h13 <| tF h14 <| tF (rfl : false = false) <| tT h15 <| tF h16 <| tT (rfl : true = true) <| tT (rfl : true = true) <| tF h17 <| tR q_18 <| tT h19 <| tN
                                      exact runs_of (C := cfg) (objs := [[(.own 0 0 (l).length false), (.pv (.int .i64 n))]]) (sc := t_.ev) (.k0 t_.pf (by kernel_rfl))
                                    · have h := some_of h
                                      subst h
                                      have t_ := tR (kinfolkref02_Leaf_runs 0 _ h1) <| tR (kinfolkref05_Get_runs 1 n l _ h2) <| tF (not_of2 h3) <| tF h4 <| tF h5 <| tR (kinfolkref05_Get_2_runs 2 l_ n3 _ h6) <| tL q_7 <| tF (not_of2 h8) <| tL q_9 <| tL q_10 <| tT h11 <| tR (kinfolkref07_zero_runs (T_kinfolkref02_Event.mk n10 T_kinfolkref02_Event.nil t5) _ h12) <| tF h13 <| tF h14 <| tF (rfl : false = false) <| tT h15 <| tF h16 <| tT (rfl : true = true) <| tT (rfl : true = true) <| tF h17 <| tR q_18 <| tF h19 <| tN
                                      have e_ : Runs Tryd.prog 77 [(.one (.ref 0 0)), (.one (.pv (.int .i64 depth)))] [[(.own 0 0 (l).length false), (.pv (.int .i64 n))]] [(.bools l)] ([(.one (.pv (.imm [(.int .u64 n6), (T_kinfolkref02_Event.pv (T_kinfolkref02_Event.mk n10 T_kinfolkref02_Event.nil t5)), (T_kinfolkref02_Event.pv (T_kinfolkref02_Event.mk n11 T_kinfolkref02_Event.nil t7))] 0))), (.one (.pv (.int .i64 0)))], [[(.pv (.bools l_5 false)), (.pv (.int .i64 n9))]], []) := runs_of (C := cfg) (objs := [[(.own 0 0 (l).length false), (.pv (.int .i64 n))]]) (sc := t_.ev) (.k0 t_.pf (by kernel_rfl))
                                      exact e_.out ⟨.eq rfl, .eq rfl, trivial⟩ ⟨⟨.eq rfl, .eq rfl, trivial⟩, trivial⟩ trivial rfl
                                | mk n12 t8 t9 =>
                                  obtain ⟨n13, h17, h⟩ := bind_of h
                                  have q_17 := (Runs.coe (as' := [(.one (.pv (.imm [(.int .u64 n6), (T_kinfolkref02_Event.pv (T_kinfolkref02_Event.mk n10 T_kinfolkref02_Event.nil t5)), (T_kinfolkref02_Event.pv (T_kinfolkref02_Event.mk n11 (T_kinfolkref02_Event.mk n12 t8 t9) t7))] 0)))]) (objs' := []) (rows' := []) (kinfolkref02_Max_runs N (T_kinfolkref02_Event.mk n6 (T_kinfolkref02_Event.mk n10 T_kinfolkref02_Event.nil t5) (T_kinfolkref02_Event.mk n11 (T_kinfolkref02_Event.mk n12 t8 t9) t7)) _ h17) ⟨.eq rfl, trivial⟩ trivial trivial)
                                  rcases cond_of h with ⟨h18, h⟩ | ⟨h18, h⟩
                                  · have h := some_of h
                                    subst h
                                    have t_ := tR (kinfolkref02_Leaf_runs 0 _ h1) <| tR (kinfolkref05_Get_runs 1 n l _ h2) <| tF (not_of2 h3) <| tF h4 <| tF h5 <| tR (kinfolkref05_Get_2_runs 2 l_ n3 _ h6) <| tL q_7 <| tF (not_of2 h8) <| tL q_9 <| tL q_10 <| tT h11 <| tR (kinfolkref07_zero_runs (T_kinfolkref02_Event.mk n10 T_kinfolkref02_Event.nil t5) _ h12) <| tF h13 <| tF h14 <| tF (rfl : false = false) <| tT h15 <| tF h16 <| tT (rfl : true = true) <| tF (rfl : false = false) <| tF (rfl : false = false) <| tR q_17 <| tT h18 <| tN
                                    exact runs_of (C := cfg) (objs := [[(.own 0 0 (l).length false), (.pv (.int .i64 n))]]) (sc := t_.ev) (.k1 t_.pf (by kernel_rfl) (by kernel_rfl))
                                  · have h := some_of h
                                    subst h
                                    have t_ := tR (kinfolkref02_Leaf_runs 0 _ h1) <| tR (kinfolkref05_Get_runs 1 n l _ h2) <| tF (not_of2 h3) <| tF h4 <| tF h5 <| tR (kinfolkref05_Get_2_runs 2 l_ n3 _ h6) <| tL q_7 <| tF (not_of2 h8) <| tL q_9 <| tL q_10 <| tT h11 <| tR (kinfolkref07_zero_runs (T_kinfolkref02_Event.mk n10 T_kinfolkref02_Event.nil t5) _ h12) <| tF h13 <| tF h14 <| tF (rfl : false = false) <| tT h15 <| tF h16 <| tT (rfl : true = true) <| tF (rfl : false = false) <| tF (rfl : false = false) <| tR q_17 <| tF h18 <| tN
                                    have e_ : Runs Tryd.prog 77 [(.one (.ref 0 0)), (.one (.pv (.int .i64 depth)))] [[(.own 0 0 (l).length false), (.pv (.int .i64 n))]] [(.bools l)] ([(.one (.pv (.imm [(.int .u64 n6), (T_kinfolkref02_Event.pv (T_kinfolkref02_Event.mk n10 T_kinfolkref02_Event.nil t5)), (T_kinfolkref02_Event.pv (T_kinfolkref02_Event.mk n11 (T_kinfolkref02_Event.mk n12 t8 t9) t7))] 0))), (.one (.pv (.int .i64 0)))], [[(.pv (.bools l_5 false)), (.pv (.int .i64 n9))]], []) := runs_of (C := cfg) (objs := [[(.own 0 0 (l).length false), (.pv (.int .i64 n))]]) (sc := t_.ev) (.k1 t_.pf (by kernel_rfl) (by kernel_rfl))
                                    exact e_.out ⟨.eq rfl, .eq rfl, trivial⟩ ⟨⟨.eq rfl, .eq rfl, trivial⟩, trivial⟩ trivial rfl
                              | mk n12 t8 t9 =>
                                obtain ⟨n13, h17, h⟩ := bind_of h
                                have q_17 := (Runs.coe (as' := [(.one (.pv (.imm [(.int .u64 n6), (T_kinfolkref02_Event.pv (T_kinfolkref02_Event.mk n10 (T_kinfolkref02_Event.mk n12 t8 t9) t5)), (T_kinfolkref02_Event.pv (T_kinfolkref02_Event.mk n11 t6 t7))] 0)))]) (objs' := []) (rows' := []) (kinfolkref02_Max_runs N (T_kinfolkref02_Event.mk n6 (T_kinfolkref02_Event.mk n10 (T_kinfolkref02_Event.mk n12 t8 t9) t5) (T_kinfolkref02_Event.mk n11 t6 t7)) _ h17) ⟨.eq rfl, trivial⟩ trivial trivial)
                                rcases cond_of h with ⟨h18, h⟩ | ⟨h18, h⟩
                                · have h := some_of h
                                  subst h
                                  have t_ := tR (kinfolkref02_Leaf_runs 0 _ h1) <| tR (kinfolkref05_Get_runs 1 n l _ h2) <| tF (not_of2 h3) <| tF h4 <| tF h5 <| tR (kinfolkref05_Get_2_runs 2 l_ n3 _ h6) <| tL q_7 <| tF (not_of2 h8) <| tL q_9 <| tL q_10 <| tT h11 <| tR (kinfolkref07_zero_runs (T_kinfolkref02_Event.mk n10 (T_kinfolkref02_Event.mk n12 t8 t9) t5) _ h12) <| tF h13 <| tF h14 <| tF (rfl : false = false) <| tT h15 <| tF h16 <| tF (rfl : false = false) <| tF (rfl : false = false) <| tF (rfl : false = false) <| tR q_17 <| tT h18 <| tN
                                  exact runs_of (C := cfg) (objs := [[(.own 0 0 (l).length false), (.pv (.int .i64 n))]]) (sc := t_.ev) (.k1 t_.pf (by kernel_rfl) (by kernel_rfl))
                                · have h := some_of h
                                  subst h
                                  have t_ := tR (kinfolkref02_Leaf_runs 0 _ h1) <| tR (kinfolkref05_Get_runs 1 n l _ h2) <| tF (not_of2 h3) <| tF h4 <| tF h5 <| tR (kinfolkref05_Get_2_runs 2 l_ n3 _ h6) <| tL q_7 <| tF (not_of2 h8) <| tL q_9 <| tL q_10 <| tT h11 <| tR (kinfolkref07_zero_runs (T_kinfolkref02_Event.mk n10 (T_kinfolkref02_Event.mk n12 t8 t9) t5) _ h12) <| tF h13 <| tF h14 <| tF (rfl : false = false) <| tT h15 <| tF h16 <| tF (rfl : false = false) <| tF (rfl : false = false) <| tF (rfl : false = false) <| tR q_17 <| tF h18 <| tN
                                  have e_ : Runs Tryd.prog 77 [(.one (.ref 0 0)), (.one (.pv (.int .i64 depth)))] [[(.own 0 0 (l).length false), (.pv (.int .i64 n))]] [(.bools l)] ([(.one (.pv (.imm [(.int .u64 n6), (T_kinfolkref02_Event.pv (T_kinfolkref02_Event.mk n10 (T_kinfolkref02_Event.mk n12 t8 t9) t5)), (T_kinfolkref02_Event.pv (T_kinfolkref02_Event.mk n11 t6 t7))] 0))), (.one (.pv (.int .i64 0)))], [[(.pv (.bools l_5 false)), (.pv (.int .i64 n9))]], []) := runs_of (C := cfg) (objs := [[(.own 0 0 (l).length false), (.pv (.int .i64 n))]]) (sc := t_.ev) (.k1 t_.pf (by kernel_rfl) (by kernel_rfl))
                                  exact e_.out ⟨.eq rfl, .eq rfl, trivial⟩ ⟨⟨.eq rfl, .eq rfl, trivial⟩, trivial⟩ trivial rfl
                        · cases t4 with
                          | nil =>
                            cases t3 with
                            | nil =>
                              cases h
                            | mk n11 t6 t7 =>
                              cases t6 with
                              | nil =>
                                rcases cond_of h with ⟨h16, h⟩ | ⟨h16, h⟩
                                · have h := some_of h
                                  subst h
                                  have t_ := tR (kinfolkref02_Leaf_runs 0 _ h1) <| tR (kinfolkref05_Get_runs 1 n l _ h2) <| tF (not_of2 h3) <| tF h4 <| tF h5 <| tR (kinfolkref05_Get_2_runs 2 l_ n3 _ h6) <| tL q_7 <| tF (not_of2 h8) <| tL q_9 <| tL q_10 <| tT h11 <| tR (kinfolkref07_zero_runs (T_kinfolkref02_Event.mk n10 T_kinfolkref02_Event.nil t5) _ h12) <| tF h13 <| tF h14 <| tF (rfl : false = false) <| tF h15 <| tF (rfl : false = false) <| tT (rfl : true = true) <| tT (rfl : true = true) <| tT h16 <| tN
                                  exact runs_of (C := cfg) (objs := [[(.own 0 0 (l).length false), (.pv (.int .i64 n))]]) (sc := t_.ev) (.k0 t_.pf (by kernel_rfl))
                                · obtain ⟨n12, h17, h⟩ := bind_of h
                                  have q_17 := (Runs.coe (as' := [(.one (.pv (.imm [(.int .u64 n6), (T_kinfolkref02_Event.pv (T_kinfolkref02_Event.mk n10 T_kinfolkref02_Event.nil t5)), (T_kinfolkref02_Event.pv (T_kinfolkref02_Event.mk n11 T_kinfolkref02_Event.nil t7))] 0)))]) (objs' := []) (rows' := []) (kinfolkref02_Max_runs N (T_kinfolkref02_Event.mk n6 (T_kinfolkref02_Event.mk n10 T_kinfolkref02_Event.nil t5) (T_kinfolkref02_Event.mk n11 T_kinfolkref02_Event.nil t7)) _ h17) ⟨.eq rfl, trivial⟩ trivial trivial)
                                  rcases cond_of h with ⟨h18, h⟩ | ⟨h18, h⟩
                                  · have h := some_of h
                                    subst h
                                    have t_ := tR (kinfolkref02_Leaf_runs 0 _ h1) <| tR (kinfolkref05_Get_runs 1 n l _ h2) <| tF (not_of2 h3) <| tF h4 <| tF h5 <| tR (kinfolkref05_Get_2_runs 2 l_ n3 _ h6) <| tL q_7 <| tF (not_of2 h8) <| tL q_9 <| tL q_10 <| tT h11 <| tR (kinfolkref07_zero_runs (T_kinfolkref02_Event.mk n10 T_kinfolkref02_Event.nil t5) _ h12) <| tF h13 <| tF h14 <| tF (rfl : false = false) <| tF h15 <| tF (rfl : false = false) <| tT (rfl : true = true) <| tT (rfl : true = true) <| tF h16 <| tR q_17 <| tT h18 <| tN
                                    exact runs_of (C := cfg) (objs := [[(.own 0 0 (l).length false), (.pv (.int .i64 n))]]) (sc := t_.ev) (.k0 t_.pf (by kernel_rfl))
                                  · have h := some_of h
                                    subst h
                                    have t_ := tR (kinfolkref02_Leaf_runs 0 _ h1) <| tR (kinfolkref05_Get_runs 1 n l _ h2) <| tF (not_of2 h3) <| tF h4 <| tF h5 <| tR (kinfolkref05_Get_2_runs 2 l_ n3 _ h6) <| tL q_7 <| tF (not_of2 h8) <| tL q_9 <| tL q_10 <| tT h11 <| tR (kinfolkref07_zero_runs (T_kinfolkref02_Event.mk n10 T_kinfolkref02_Event.nil t5) _ h12) <| tF h13 <| tF h14 <| tF (rfl : false = false) <| tF h15 <| tF (rfl : false = false) <| tT (rfl : true = true) <| tT (rfl : true = true) <| tF h16 <| tR q_17 <| tF h18 <| tN
                                    have e_ : Runs Tryd.prog 77 [(.one (.ref 0 0)), (.one (.pv (.int .i64 depth)))] [[(.own 0 0 (l).length false), (.pv (.int .i64 n))]] [(.bools l)] ([(.one (.pv (.imm [(.int .u64 n6), (T_kinfolkref02_Event.pv (T_kinfolkref02_Event.mk n10 T_kinfolkref02_Event.nil t5)), (T_kinfolkref02_Event.pv (T_kinfolkref02_Event.mk n11 T_kinfolkref02_Event.nil t7))] 0))), (.one (.pv (.int .i64 0)))], [[(.pv (.bools l_5 false)), (.pv (.int .i64 n9))]], []) := runs_of (C := cfg) (objs := [[(.own 0 0 (l).length false), (.pv (.int .i64 n))]]) (sc := t_.ev) (.k0 t_.pf (by kernel_rfl))
                                    exact e_.out ⟨.eq rfl, .eq rfl, trivial⟩ ⟨⟨.eq rfl, .eq rfl, trivial⟩, trivial⟩ trivial rfl
                              | mk n12 t8 t9 =>
                                obtain ⟨n13, h16, h⟩ := bind_of h
                                have q_16 := (Runs.coe (as' := [(.one (.pv (.imm [(.int .u64 n6), (T_kinfolkref02_Event.pv (T_kinfolkref02_Event.mk n10 T_kinfolkref02_Event.nil t5)), (T_kinfolkref02_Event.pv (T_kinfolkref02_Event.mk n11 (T_kinfolkref02_Event.mk n12 t8 t9) t7))] 0)))]) (objs' := []) (rows' := []) (kinfolkref02_Max_runs N (T_kinfolkref02_Event.mk n6 (T_kinfolkref02_Event.mk n10 T_kinfolkref02_Event.nil t5) (T_kinfolkref02_Event.mk n11 (T_kinfolkref02_Event.mk n12 t8 t9) t7)) _ h16) ⟨.eq rfl, trivial⟩ trivial trivial)
                                rcases cond_of h with ⟨h17, h⟩ | ⟨h17, h⟩
                                · have h := some_of h
                                  subst h
                                  have t_ := tR (kinfolkref02_Leaf_runs 0 _ h1) <| tR (kinfolkref05_Get_runs 1 n l _ h2) <| tF (not_of2 h3) <| tF h4 <| tF h5 <| tR (kinfolkref05_Get_2_runs 2 l_ n3 _ h6) <| tL q_7 <| tF (not_of2 h8) <| tL q_9 <| tL q_10 <| tT h11 <| tR (kinfolkref07_zero_runs (T_kinfolkref02_Event.mk n10 T_kinfolkref02_Event.nil t5) _ h12) <| tF h13 <| tF h14 <| tF (rfl : false = false) <| tF h15 <| tF (rfl : false = false) <| tT (rfl : true = true) <| tF (rfl : false = false) <| tF (rfl : false = false) <| tR q_16 <| tT h17 <| tN
                                  exact runs_of (C := cfg) (objs := [[(.own 0 0 (l).length false), (.pv (.int .i64 n))]]) (sc := t_.ev) (.k1 t_.pf (by kernel_rfl) (by kernel_rfl))
                                · have h := some_of h
                                  subst h
                                  have t_ := tR (kinfolkref02_Leaf_runs 0 _ h1) <| tR (kinfolkref05_Get_runs 1 n l _ h2) <| tF (not_of2 h3) <| tF h4 <| tF h5 <| tR (kinfolkref05_Get_2_runs 2 l_ n3 _ h6) <| tL q_7 <| tF (not_of2 h8) <| tL q_9 <| tL q_10 <| tT h11 <| tR (kinfolkref07_zero_runs (T_kinfolkref02_Event.mk n10 T_kinfolkref02_Event.nil t5) _ h12) <| tF h13 <| tF h14 <| tF (rfl : false = false) <| tF h15 <| tF (rfl : false = false) <| tT (rfl : true = true) <| tF (rfl : false = false) <| tF (rfl : false = false) <| tR q_16 <| tF h17 <| tN
                                  have e_ : Runs Tryd.prog 77 [(.one (.ref 0 0)), (.one (.pv (.int .i64 depth)))] [[(.own 0 0 (l).length false), (.pv (.int .i64 n))]] [(.bools l)] ([(.one (.pv (.imm [(.int .u64 n6), (T_kinfolkref02_Event.pv (T_kinfolkref02_Event.mk n10 T_kinfolkref02_Event.nil t5)), (T_kinfolkref02_Event.pv (T_kinfolkref02_Event.mk n11 (T_kinfolkref02_Event.mk n12 t8 t9) t7))] 0))), (.one (.pv (.int .i64 0)))], [[(.pv (.bools l_5 false)), (.pv (.int .i64 n9))]], []) := runs_of (C := cfg) (objs := [[(.own 0 0 (l).length false), (.pv (.int .i64 n))]]) (sc := t_.ev) (.k1 t_.pf (by kernel_rfl) (by kernel_rfl))
                                  exact e_.out ⟨.eq rfl, .eq rfl, trivial⟩ ⟨⟨.eq rfl, .eq rfl, trivial⟩, trivial⟩ trivial rfl
                          | mk n11 t6 t7 =>
                            obtain ⟨n12, h16, h⟩ := bind_of h
                            have q_16 := (Runs.coe (as' := [(.one (.pv (.imm [(.int .u64 n6), (T_kinfolkref02_Event.pv (T_kinfolkref02_Event.mk n10 (T_kinfolkref02_Event.mk n11 t6 t7) t5)), (T_kinfolkref02_Event.pv t3)] 0)))]) (objs' := []) (rows' := []) (kinfolkref02_Max_runs N (T_kinfolkref02_Event.mk n6 (T_kinfolkref02_Event.mk n10 (T_kinfolkref02_Event.mk n11 t6 t7) t5) t3) _ h16) ⟨.eq rfl, trivial⟩ trivial trivial)
                            rcases cond_of h with ⟨h17, h⟩ | ⟨h17, h⟩
                            · have h := some_of h
                              subst h
                              have t_ := tR (kinfolkref02_Leaf_runs 0 _ h1) <| tR (kinfolkref05_Get_runs 1 n l _ h2) <| tF (not_of2 h3) <| tF h4 <| tF h5 <| tR (kinfolkref05_Get_2_runs 2 l_ n3 _ h6) <| tL q_7 <| tF (not_of2 h8) <| tL q_9 <| tL q_10 <| tT h11 <| tR (kinfolkref07_zero_runs (T_kinfolkref02_Event.mk n10 (T_kinfolkref02_Event.mk n11 t6 t7) t5) _ h12) <| tF h13 <| tF h14 <| tF (rfl : false = false) <| tF h15 <| tF (rfl : false = false) <| tF (rfl : false = false) <| tF (rfl : false = false) <| tF (rfl : false = false) <| tR q_16 <| tT h17 <| tN
                              exact runs_of (C := cfg) (objs := [[(.own 0 0 (l).length false), (.pv (.int .i64 n))]]) (sc := t_.ev) (.k1 t_.pf (by kernel_rfl) (by kernel_rfl))
                            · have h := some_of h
                              subst h
                              have t_ := tR (kinfolkref02_Leaf_runs 0 _ h1) <| tR (kinfolkref05_Get_runs 1 n l _ h2) <| tF (not_of2 h3) <| tF h4 <| tF h5 <| tR (kinfolkref05_Get_2_runs 2 l_ n3 _ h6) <| tL q_7 <| tF (not_of2 h8) <| tL q_9 <| tL q_10 <| tT h11 <| tR (kinfolkref07_zero_runs (T_kinfolkref02_Event.mk n10 (T_kinfolkref02_Event.mk n11 t6 t7) t5) _ h12) <| tF h13 <| tF h14 <| tF (rfl : false = false) <| tF h15 <| tF (rfl : false = false) <| tF (rfl : false = false) <| tF (rfl : false = false) <| tF (rfl : false = false) <| tR q_16 <| tF h17 <| tN
                              have e_ : Runs Tryd.prog 77 [(.one (.ref 0 0)), (.one (.pv (.int .i64 depth)))] [[(.own 0 0 (l).length false), (.pv (.int .i64 n))]] [(.bools l)] ([(.one (.pv (.imm [(.int .u64 n6), (T_kinfolkref02_Event.pv (T_kinfolkref02_Event.mk n10 (T_kinfolkref02_Event.mk n11 t6 t7) t5)), (T_kinfolkref02_Event.pv t3)] 0))), (.one (.pv (.int .i64 0)))], [[(.pv (.bools l_5 false)), (.pv (.int .i64 n9))]], []) := runs_of (C := cfg) (objs := [[(.own 0 0 (l).length false), (.pv (.int .i64 n))]]) (sc := t_.ev) (.k1 t_.pf (by kernel_rfl) (by kernel_rfl))
                              exact e_.out ⟨.eq rfl, .eq rfl, trivial⟩ ⟨⟨.eq rfl, .eq rfl, trivial⟩, trivial⟩ trivial rfl
                · rcases cond_of h with ⟨h12, h⟩ | ⟨h12, h⟩
                  · obtain ⟨b3, h13, h⟩ := bind_of h
                    rcases cond_of h with ⟨h14, h⟩ | ⟨h14, h⟩
                    · have h := some_of h
                      subst h
                      have t_ := tR (kinfolkref02_Leaf_runs 0 _ h1) <| tR (kinfolkref05_Get_runs 1 n l _ h2) <| tF (not_of2 h3) <| tF h4 <| tF h5 <| tR (kinfolkref05_Get_2_runs 2 l_ n3 _ h6) <| tL q_7 <| tF (not_of2 h8) <| tL q_9 <| tL q_10 <| tF h11 <| tF (rfl : false = false) <| tT h12 <| tR (kinfolkref07_zero_runs t3 _ h13) <| tT h14 <| tT (rfl : true = true) <| tT (rfl : true = true) <| tN
                      exact runs_of (C := cfg) (objs := [[(.own 0 0 (l).length false), (.pv (.int .i64 n))]]) (sc := t_.ev) (.k1 t_.pf (by kernel_rfl) (by kernel_rfl))
                    · cases t2 with
                      | nil =>
                        cases h
                      | mk n10 t4 t5 =>
                        rcases cond_of h with ⟨h15, h⟩ | ⟨h15, h⟩
                        · cases t3 with
                          | nil =>
                            cases h
                          | mk n11 t6 t7 =>
                            rcases cond_of h with ⟨h16, h⟩ | ⟨h16, h⟩
                            · have h := some_of h
                              subst h
                              have t_ := tR (kinfolkref02_Leaf_runs 0 _ h1) <| tR (kinfolkref05_Get_runs 1 n l _ h2) <| tF (not_of2 h3) <| tF h4 <| tF h5 <| tR (kinfolkref05_Get_2_runs 2 l_ n3 _ h6) <| tL q_7 <| tF (not_of2 h8) <| tL q_9 <| tL q_10 <| tF h11 <| tF (rfl : false = false) <| tT h12 <| tR (kinfolkref07_zero_runs (T_kinfolkref02_Event.mk n11 t6 t7) _ h13) <| tF h14 <| tT h15 <| tT h16 <| tT (rfl : true = true) <| tN
                              exact runs_of (C := cfg) (objs := [[(.own 0 0 (l).length false), (.pv (.int .i64 n))]]) (sc := t_.ev) (.k1 t_.pf (by kernel_rfl) (by kernel_rfl))
                            · cases t4 with
                              | nil =>
                                cases t6 with
                                | nil =>
                                  rcases cond_of h with ⟨h17, h⟩ | ⟨h17, h⟩
                                  · have h := some_of h
                                    subst h
                                    have t_ := tR (kinfolkref02_Leaf_runs 0 _ h1) <| tR (kinfolkref05_Get_runs 1 n l _ h2) <| tF (not_of2 h3) <| tF h4 <| tF h5 <| tR (kinfolkref05_Get_2_runs 2 l_ n3 _ h6) <| tL q_7 <| tF (not_of2 h8) <| tL q_9 <| tL q_10 <| tF h11 <| tF (rfl : false = false) <| tT h12 <| tR (kinfolkref07_zero_runs (T_kinfolkref02_Event.mk n11 T_kinfolkref02_Event.nil t7) _ h13) <| tF h14 <| tT h15 <| tF h16 <| tT (rfl : true = true) <| tT (rfl : true = true) <| tT h17 <| tN
                                    exact runs_of (C := cfg) (objs := [[(.own 0 0 (l).length false), (.pv (.int .i64 n))]]) (sc := t_.ev) (.k0 t_.pf (by kernel_rfl))
                                  · obtain ⟨n12, h18, h⟩ := bind_of h
                                    have q_18 := (Runs.coe (as' := [(.one (.pv (.imm [(.int .u64 n6), (T_kinfolkref02_Event.pv (T_kinfolkref02_Event.mk n10 T_kinfolkref02_Event.nil t5)), (T_kinfolkref02_Event.pv (T_kinfolkref02_Event.mk n11 T_kinfolkref02_Event.nil t7))] 0)))]) (objs' := []) (rows' := []) (kinfolkref02_Max_runs N (T_kinfolkref02_Event.mk n6 (T_kinfolkref02_Event.mk n10 T_kinfolkref02_Event.nil t5) (T_kinfolkref02_Event.mk n11 T_kinfolkref02_Event.nil t7)) _ h18) ⟨.eq rfl, trivial⟩ trivial trivial)
                                    rcases cond_of h with ⟨h19, h⟩ | ⟨h19, h⟩
                                    · have h := some_of h
                                      subst h
                                      have t_ := tR (kinfolkref02_Leaf_runs 0 _ h1) <| tR (kinfolkref05_Get_runs 1 n l _ h2) <| tF (not_of2 h3) <| tF h4 <| tF h5 <| tR (kinfolkref05_Get_2_runs 2 l_ n3 _ h6) <| tL q_7 <| tF (not_of2 h8) <| tL q_9 <| tL q_10 <| tF h11 <| tF (rfl : false = false) <| tT h12 <| tR (kinfolkref07_zero_runs (T_kinfolkref02_Event.mk n11 T_kinfolkref02_Event.nil t7) _ h13) <| tF h14 <| tT h15 <| tF h16 <| tT (rfl : true = true) <| tT (rfl : true = true) <| tF h17 <| tR q_18 <| tT h19 <| tN
                                      exact runs_of (C := cfg) (objs := [[(.own 0 0 (l).length false), (.pv (.int .i64 n))]]) (sc := t_.ev) (.k0 t_.pf (by kernel_rfl))
                                    · have h := some_of h
                                      subst h
                                      have t_ := tR (kinfolkref02_Leaf_runs 0 _ h1) <| tR (kinfolkref05_Get_runs 1 n l _ h2) <| tF (not_of2 h3) <| tF h4 <| tF h5 <| tR (kinfolkref05_Get_2_runs 2 l_ n3 _ h6) <| tL q_7 <| tF (not_of2 h8) <| tL q_9 <| tL q_10 <| tF h11 <| tF (rfl : false = false) <| tT h12 <| tR (kinfolkref07_zero_runs (T_kinfolkref02_Event.mk n11 T_kinfolkref02_Event.nil t7) _ h13) <| tF h14 <| tT h15 <| tF h16 <| tT (rfl : true = true) <| tT (rfl : true = true) <| tF h17 <| tR q_18 <| tF h19 <| tN
                                      have e_ : Runs Tryd.prog 77 [(.one (.ref 0 0)), (.one (.pv (.int .i64 depth)))] [[(.own 0 0 (l).length false), (.pv (.int .i64 n))]] [(.bools l)] ([(.one (.pv (.imm [(.int .u64 n6), (T_kinfolkref02_Event.pv (T_kinfolkref02_Event.mk n10 T_kinfolkref02_Event.nil t5)), (T_kinfolkref02_Event.pv (T_kinfolkref02_Event.mk n11 T_kinfolkref02_Event.nil t7))] 0))), (.one (.pv (.int .i64 0)))], [[(.pv (.bools l_5 false)), (.pv (.int .i64 n9))]], []) := runs_of (C := cfg) (objs := [[(.own 0 0 (l).length false), (.pv (.int .i64 n))]]) (sc := t_.ev) (.k0 t_.pf (by kernel_rfl))
                                      exact e_.out ⟨.eq rfl, .eq rfl, trivial⟩ ⟨⟨.eq rfl, .eq rfl, trivial⟩, trivial⟩ trivial rfl
                                | mk n12 t8 t9 =>
                                  obtain ⟨n13, h17, h⟩ := bind_of h
                                  have q_17 := (Runs.coe (as' := [(.one (.pv (.imm [(.int .u64 n6), (T_kinfolkref02_Event.pv (T_kinfolkref02_Event.mk n10 T_kinfolkref02_Event.nil t5)), (T_kinfolkref02_Event.pv (T_kinfolkref02_Event.mk n11 (T_kinfolkref02_Event.mk n12 t8 t9) t7))] 0)))]) (objs' := []) (rows' := []) (kinfolkref02_Max_runs N (T_kinfolkref02_Event.mk n6 (T_kinfolkref02_Event.mk n10 T_kinfolkref02_Event.nil t5) (T_kinfolkref02_Event.mk n11 (T_kinfolkref02_Event.mk n12 t8 t9) t7)) _ h17) ⟨.eq rfl, trivial⟩ trivial trivial)
                                  rcases cond_of h with ⟨h18, h⟩ | ⟨h18, h⟩
                                  · have h := some_of h
                                    subst h
                                    have t_ := tR (kinfolkref02_Leaf_runs 0 _ h1) <| tR (kinfolkref05_Get_runs 1 n l _ h2) <| tF (not_of2 h3) <| tF h4 <| tF h5 <| tR (kinfolkref05_Get_2_runs 2 l_ n3 _ h6) <| tL q_7 <| tF (not_of2 h8) <| tL q_9 <| tL q_10 <| tF h11 <| tF (rfl : false = false) <| tT h12 <| tR (kinfolkref07_zero_runs (T_kinfolkref02_Event.mk n11 (T_kinfolkref02_Event.mk n12 t8 t9) t7) _ h13) <| tF h14 <| tT h15 <| tF h16 <| tT (rfl : true = true) <| tF (rfl : false = false) <| tF (rfl : false = false) <| tR q_17 <| tT h18 <| tN
                                    exact runs_of (C := cfg) (objs := [[(.own 0 0 (l).length false), (.pv (.int .i64 n))]]) (sc := t_.ev) (.k1 t_.pf (by kernel_rfl) (by kernel_rfl))
                                  · have h := some_of h
                                    subst h
                                    have t_ := tR (kinfolkref02_Leaf_runs 0 _ h1) <| tR (kinfolkref05_Get_runs 1 n l _ h2) <| tF (not_of2 h3) <| tF h4 <| tF h5 <| tR (kinfolkref05_Get_2_runs 2 l_ n3 _ h6) <| tL q_7 <| tF (not_of2 h8) <| tL q_9 <| tL q_10 <| tF h11 <| tF (rfl : false = false) <| tT h12 <| tR (kinfolkref07_zero_runs (T_kinfolkref02_Event.mk n11 (T_kinfolkref02_Event.mk n12 t8 t9) t7) _ h13) <| tF h14 <| tT h15 <| tF h16 <| tT (rfl : true = true) <| tF (rfl : false = false) <| tF (rfl : false = false) <| tR q_17 <| tF h18 <| tN
                                    have e_ : Runs Tryd.prog 77 [(.one (.ref 0 0)), (.one (.pv (.int .i64 depth)))] [[(.own 0 0 (l).length false), (.pv (.int .i64 n))]] [(.bools l)] ([(.one (.pv (.imm [(.int .u64 n6), (T_kinfolkref02_Event.pv (T_kinfolkref02_Event.mk n10 T_kinfolkref02_Event.nil t5)), (T_kinfolkref02_Event.pv (T_kinfolkref02_Event.mk n11 (T_kinfolkref02_Event.mk n12 t8 t9) t7))] 0))), (.one (.pv (.int .i64 0)))], [[(.pv (.bools l_5 false)), (.pv (.int .i64 n9))]], []) := runs_of (C := cfg) (objs := [[(.own 0 0 (l).length false), (.pv (.int .i64 n))]]) (sc := t_.ev) (.k1 t_.pf (by kernel_rfl) (by kernel_rfl))
                                    exact e_.out ⟨.eq rfl, .eq rfl, trivial⟩ ⟨⟨.eq rfl, .eq rfl, trivial⟩, trivial⟩ trivial rfl
                              | mk n12 t8 t9 =>
                                obtain ⟨n13, h17, h⟩ := bind_of h
                                have q_17 := (Runs.coe (as' := [(.one (.pv (.imm [(.int .u64 n6), (T_kinfolkref02_Event.pv (T_kinfolkref02_Event.mk n10 (T_kinfolkref02_Event.mk n12 t8 t9) t5)), (T_kinfolkref02_Event.pv (T_kinfolkref02_Event.mk n11 t6 t7))] 0)))]) (objs' := []) (rows' := []) (kinfolkref02_Max_runs N (T_kinfolkref02_Event.mk n6 (T_kinfolkref02_Event.mk n10 (T_kinfolkref02_Event.mk n12 t8 t9) t5) (T_kinfolkref02_Event.mk n11 t6 t7)) _ h17) ⟨.eq rfl, trivial⟩ trivial trivial)
                                rcases cond_of h with ⟨h18, h⟩ | ⟨h18, h⟩
                                · have h := some_of h
                                  subst h
                                  have t_ := tR (kinfolkref02_Leaf_runs 0 _ h1) <| tR (kinfolkref05_Get_runs 1 n l _ h2) <| tF (not_of2 h3) <| tF h4 <| tF h5 <| tR (kinfolkref05_Get_2_runs 2 l_ n3 _ h6) <| tL q_7 <| tF (not_of2 h8) <| tL q_9 <| tL q_10 <| tF h11 <| tF (rfl : false = false) <| tT h12 <| tR (kinfolkref07_zero_runs (T_kinfolkref02_Event.mk n11 t6 t7) _ h13) <| tF h14 <| tT h15 <| tF h16 <| tF (rfl : false = false) <| tF (rfl : false = false) <| tF (rfl : false = false) <| tR q_17 <| tT h18 <| tN
                                  exact runs_of (C := cfg) (objs := [[(.own 0 0 (l).length false), (.pv (.int .i64 n))]]) (sc := t_.ev) (.k1 t_.pf (by kernel_rfl) (by kernel_rfl))
                                · have h := some_of h
                                  subst h
                                  have t_ := tR (kinfolkref02_Leaf_runs 0 _ h1) <| tR (kinfolkref05_Get_runs 1 n l _ h2) <| tF (not_of2 h3) <| tF h4 <| tF h5 <| tR (kinfolkref05_Get_2_runs 2 l_ n3 _ h6) <| tL q_7 <| tF (not_of2 h8) <| tL q_9 <| tL q_10 <| tF h11 <| tF (rfl : false = false) <| tT h12 <| tR (kinfolkref07_zero_runs (T_kinfolkref02_Event.mk n11 t6 t7) _ h13) <| tF h14 <| tT h15 <| tF h16 <| tF (rfl : false = false) <| tF (rfl : false = false) <| tF (rfl : false = false) <| tR q_17 <| tF h18 <| tN
                                  have e_ : Runs Tryd.prog 77 [(.one (.ref 0 0)), (.one (.pv (.int .i64 depth)))] [[(.own 0 0 (l).length false), (.pv (.int .i64 n))]] [(.bools l)] ([(.one (.pv (.imm [(.int .u64 n6), (T_kinfolkref02_Event.pv (T_kinfolkref02_Event.mk n10 (T_kinfolkref02_Event.mk n12 t8 t9) t5)), (T_kinfolkref02_Event.pv (T_kinfolkref02_Event.mk n11 t6 t7))] 0))), (.one (.pv (.int .i64 0)))], [[(.pv (.bools l_5 false)), (.pv (.int .i64 n9))]], []) := runs_of (C := cfg) (objs := [[(.own 0 0 (l).length false), (.pv (.int .i64 n))]]) (sc := t_.ev) (.k1 t_.pf (by kernel_rfl) (by kernel_rfl))
                                  exact e_.out ⟨.eq rfl, .eq rfl, trivial⟩ ⟨⟨.eq rfl, .eq rfl, trivial⟩, trivial⟩ trivial rfl
                        · cases t4 with
                          | nil =>
                            cases t3 with
                            | nil =>
                              cases h
                            | mk n11 t6 t7 =>
                              cases t6 with
                              | nil =>
                                rcases cond_of h with ⟨h16, h⟩ | ⟨h16, h⟩
                                · have h := some_of h
                                  subst h
                                  have t_ := tR (kinfolkref02_Leaf_runs 0 _ h1) <| tR (kinfolkref05_Get_runs 1 n l _ h2) <| tF (not_of2 h3) <| tF h4 <| tF h5 <| tR (kinfolkref05_Get_2_runs 2 l_ n3 _ h6) <| tL q_7 <| tF (not_of2 h8) <| tL q_9 <| tL q_10 <| tF h11 <| tF (rfl : false = false) <| tT h12 <| tR (kinfolkref07_zero_runs (T_kinfolkref02_Event.mk n11 T_kinfolkref02_Event.nil t7) _ h13) <| tF h14 <| tF h15 <| tF (rfl : false = false) <| tT (rfl : true = true) <| tT (rfl : true = true) <| tT h16 <| tN
                                  exact runs_of (C := cfg) (objs := [[(.own 0 0 (l).length false), (.pv (.int .i64 n))]]) (sc := t_.ev) (.k0 t_.pf (by kernel_rfl))
                                · obtain ⟨n12, h17, h⟩ := bind_of h
                                  have q_17 := (Runs.coe (as' := [(.one (.pv (.imm [(.int .u64 n6), (T_kinfolkref02_Event.pv (T_kinfolkref02_Event.mk n10 T_kinfolkref02_Event.nil t5)), (T_kinfolkref02_Event.pv (T_kinfolkref02_Event.mk n11 T_kinfolkref02_Event.nil t7))] 0)))]) (objs' := []) (rows' := []) (kinfolkref02_Max_runs N (T_kinfolkref02_Event.mk n6 (T_kinfolkref02_Event.mk n10 T_kinfolkref02_Event.nil t5) (T_kinfolkref02_Event.mk n11 T_kinfolkref02_Event.nil t7)) _ h17) ⟨.eq rfl, trivial⟩ trivial trivial)
                                  rcases cond_of h with ⟨h18, h⟩ | ⟨h18, h⟩
                                  · have h := some_of h
                                    subst h
                                    have t_ := tR (kinfolkref02_Leaf_runs 0 _ h1) <| tR (kinfolkref05_Get_runs 1 n l _ h2) <| tF (not_of2 h3) <| tF h4 <| tF h5 <| tR (kinfolkref05_Get_2_runs 2 l_ n3 _ h6) <| tL q_7 <| tF (not_of2 h8) <| tL q_9 <| tL q_10 <| tF h11 <| tF (rfl : false = false) <| tT h12 <| tR (kinfolkref07_zero_runs (T_kinfolkref02_Event.mk n11 T_kinfolkref02_Event.nil t7) _ h13) <| tF h14 <| tF h15 <| tF (rfl : false = false) <| tT (rfl : true = true) <| tT (rfl : true = true) <| tF h16 <| tR q_17 <| tT h18 <| tN
                                    exact runs_of (C := cfg) (objs := [[(.own 0 0 (l).length false), (.pv (.int .i64 n))]]) (sc := t_.ev) (.k0 t_.pf (by kernel_rfl))
                                  · have h := some_of h
                                    subst h
                                    have t_ := tR (kinfolkref02_Leaf_runs 0 _ h1) <| tR (kinfolkref05_Get_runs 1 n l _ h2) <| tF (not_of2 h3) <| tF h4 <| tF h5 <| tR (kinfolkref05_Get_2_runs 2 l_ n3 _ h6) <| tL q_7 <| tF (not_of2 h8) <| tL q_9 <| tL q_10 <| tF h11 <| tF (rfl : false = false) <| tT h12 <| tR (kinfolkref07_zero_runs (T_kinfolkref02_Event.mk n11 T_kinfolkref02_Event.nil t7) _ h13) <| tF h14 <| tF h15 <| tF (rfl : false = false) <| tT (rfl : true = true) <| tT (rfl : true = true) <| tF h16 <| tR q_17 <| tF h18 <| tN
                                    have e_ : Runs Tryd.prog 77 [(.one (.ref 0 0)), (.one (.pv (.int .i64 depth)))] [[(.own 0 0 (l).length false), (.pv (.int .i64 n))]] [(.bools l)] ([(.one (.pv (.imm [(.int .u64 n6), (T_kinfolkref02_Event.pv (T_kinfolkref02_Event.mk n10 T_kinfolkref02_Event.nil t5)), (T_kinfolkref02_Event.pv (T_kinfolkref02_Event.mk n11 T_kinfolkref02_Event.nil t7))] 0))), (.one (.pv (.int .i64 0)))], [[(.pv (.bools l_5 false)), (.pv (.int .i64 n9))]], []) := runs_of (C := cfg) (objs := [[(.own 0 0 (l).length false), (.pv (.int .i64 n))]]) (sc := t_.ev) (.k0 t_.pf (by kernel_rfl))
                                    exact e_.out ⟨.eq rfl, .eq rfl, trivial⟩ ⟨⟨.eq rfl, .eq rfl, trivial⟩, trivial⟩ trivial rfl
                              | mk n12 t8 t9 =>
                                obtain ⟨n13, h16, h⟩ := bind_of h
                                have q_16 := (Runs.coe (as' := [(.one (.pv (.imm [(.int .u64 n6), (T_kinfolkref02_Event.pv (T_kinfolkref02_Event.mk n10 T_kinfolkref02_Event.nil t5)), (T_kinfolkref02_Event.pv (T_kinfolkref02_Event.mk n11 (T_kinfolkref02_Event.mk n12 t8 t9) t7))] 0)))]) (objs' := []) (rows' := []) (kinfolkref02_Max_runs N (T_kinfolkref02_Event.mk n6 (T_kinfolkref02_Event.mk n10 T_kinfolkref02_Event.nil t5) (T_kinfolkref02_Event.mk n11 (T_kinfolkref02_Event.mk n12 t8 t9) t7)) _ h16) ⟨.eq rfl, trivial⟩ trivial trivial)
                                rcases cond_of h with ⟨h17, h⟩ | ⟨h17, h⟩
                                · have h := some_of h
                                  subst h
                                  have t_ := tR (kinfolkref02_Leaf_runs 0 _ h1) <| tR (kinfolkref05_Get_runs 1 n l _ h2) <| tF (not_of2 h3) <| tF h4 <| tF h5 <| tR (kinfolkref05_Get_2_runs 2 l_ n3 _ h6) <| tL q_7 <| tF (not_of2 h8) <| tL q_9 <| tL q_10 <| tF h11 <| tF (rfl : false = false) <| tT h12 <| tR (kinfolkref07_zero_runs (T_kinfolkref02_Event.mk n11 (T_kinfolkref02_Event.mk n12 t8 t9) t7) _ h13) <| tF h14 <| tF h15 <| tF (rfl : false = false) <| tT (rfl : true = true) <| tF (rfl : false = false) <| tF (rfl : false = false) <| tR q_16 <| tT h17 <| tN
                                  exact runs_of (C := cfg) (objs := [[(.own 0 0 (l).length false), (.pv (.int .i64 n))]]) (sc := t_.ev) (.k1 t_.pf (by kernel_rfl) (by kernel_rfl))
                                · have h := some_of h
                                  subst h
                                  have t_ := tR (kinfolkref02_Leaf_runs 0 _ h1) <| tR (kinfolkref05_Get_runs 1 n l _ h2) <| tF (not_of2 h3) <| tF h4 <| tF h5 <| tR (kinfolkref05_Get_2_runs 2 l_ n3 _ h6) <| tL q_7 <| tF (not_of2 h8) <| tL q_9 <| tL q_10 <| tF h11 <| tF (rfl : false = false) <| tT h12 <| tR (kinfolkref07_zero_runs (T_kinfolkref02_Event.mk n11 (T_kinfolkref02_Event.mk n12 t8 t9) t7) _ h13) <| tF h14 <| tF h15 <| tF (rfl : false = false) <| tT (rfl : true = true) <| tF (rfl : false = false) <| tF (rfl : false = false) <| tR q_16 <| tF h17 <| tN
                                  have e_ : Runs Tryd.prog 77 [(.one (.ref 0 0)), (.one (.pv (.int .i64 depth)))] [[(.own 0 0 (l).length false), (.pv (.int .i64 n))]] [(.bools l)] ([(.one (.pv (.imm [(.int .u64 n6), (T_kinfolkref02_Event.pv (T_kinfolkref02_Event.mk n10 T_kinfolkref02_Event.nil t5)), (T_kinfolkref02_Event.pv (T_kinfolkref02_Event.mk n11 (T_kinfolkref02_Event.mk n12 t8 t9) t7))] 0))), (.one (.pv (.int .i64 0)))], [[(.pv (.bools l_5 false)), (.pv (.int .i64 n9))]], []) := runs_of (C := cfg) (objs := [[(.own 0 0 (l).length false), (.pv (.int .i64 n))]]) (sc := t_.ev) (.k1 t_.pf (by kernel_rfl) (by kernel_rfl))
                                  exact e_.out ⟨.eq rfl, .eq rfl, trivial⟩ ⟨⟨.eq rfl, .eq rfl, trivial⟩, trivial⟩ trivial rfl
                          | mk n11 t6 t7 =>
                            obtain ⟨n12, h16, h⟩ := bind_of h
                            have q_16 := (Runs.coe (as' := [(.one (.pv (.imm [(.int .u64 n6), (T_kinfolkref02_Event.pv (T_kinfolkref02_Event.mk n10 (T_kinfolkref02_Event.mk n11 t6 t7) t5)), (T_kinfolkref02_Event.pv t3)] 0)))]) (objs' := []) (rows' := []) (kinfolkref02_Max_runs N (T_kinfolkref02_Event.mk n6 (T_kinfolkref02_Event.mk n10 (T_kinfolkref02_Event.mk n11 t6 t7) t5) t3) _ h16) ⟨.eq rfl, trivial⟩ trivial trivial)
                            rcases cond_of h with ⟨h17, h⟩ | ⟨h17, h⟩
                            · have h := some_of h
                              subst h
                              have t_ := tR (kinfolkref02_Leaf_runs 0 _ h1) <| tR (kinfolkref05_Get_runs 1 n l _ h2) <| tF (not_of2 h3) <| tF h4 <| tF h5 <| tR (kinfolkref05_Get_2_runs 2 l_ n3 _ h6) <| tL q_7 <| tF (not_of2 h8) <| tL q_9 <| tL q_10 <| tF h11 <| tF (rfl : false = false) <| tT h12 <| tR (kinfolkref07_zero_runs t3 _ h13) <| tF h14 <| tF h15 <| tF (rfl : false = false) <| tF (rfl : false = false) <| tF (rfl : false = false) <| tF (rfl : false = false) <| tR q_16 <| tT h17 <| tN
                              exact runs_of (C := cfg) (objs := [[(.own 0 0 (l).length false), (.pv (.int .i64 n))]]) (sc := t_.ev) (.k1 t_.pf (by kernel_rfl) (by kernel_rfl))
                            · have h := some_of h
                              subst h
                              have t_ := tR (kinfolkref02_Leaf_runs 0 _ h1) <| tR (kinfolkref05_Get_runs 1 n l _ h2) <| tF (not_of2 h3) <| tF h4 <| tF h5 <| tR (kinfolkref05_Get_2_runs 2 l_ n3 _ h6) <| tL q_7 <| tF (not_of2 h8) <| tL q_9 <| tL q_10 <| tF h11 <| tF (rfl : false = false) <| tT h12 <| tR (kinfolkref07_zero_runs t3 _ h13) <| tF h14 <| tF h15 <| tF (rfl : false = false) <| tF (rfl : false = false) <| tF (rfl : false = false) <| tF (rfl : false = false) <| tR q_16 <| tF h17 <| tN
                              have e_ : Runs Tryd.prog 77 [(.one (.ref 0 0)), (.one (.pv (.int .i64 depth)))] [[(.own 0 0 (l).length false), (.pv (.int .i64 n))]] [(.bools l)] ([(.one (.pv (.imm [(.int .u64 n6), (T_kinfolkref02_Event.pv (T_kinfolkref02_Event.mk n10 (T_kinfolkref02_Event.mk n11 t6 t7) t5)), (T_kinfolkref02_Event.pv t3)] 0))), (.one (.pv (.int .i64 0)))], [[(.pv (.bools l_5 false)), (.pv (.int .i64 n9))]], []) := runs_of (C := cfg) (objs := [[(.own 0 0 (l).length false), (.pv (.int .i64 n))]]) (sc := t_.ev) (.k1 t_.pf (by kernel_rfl) (by kernel_rfl))
                              exact e_.out ⟨.eq rfl, .eq rfl, trivial⟩ ⟨⟨.eq rfl, .eq rfl, trivial⟩, trivial⟩ trivial rfl
                  · cases t2 with
                    | nil =>
                      cases h
                    | mk n10 t4 t5 =>
                      rcases cond_of h with ⟨h13, h⟩ | ⟨h13, h⟩
                      · cases t3 with
                        | nil =>
                          cases h
                        | mk n11 t6 t7 =>
                          rcases cond_of h with ⟨h14, h⟩ | ⟨h14, h⟩
                          · have h := some_of h
                            subst h
                            have t_ := tR (kinfolkref02_Leaf_runs 0 _ h1) <| tR (kinfolkref05_Get_runs 1 n l _ h2) <| tF (not_of2 h3) <| tF h4 <| tF h5 <| tR (kinfolkref05_Get_2_runs 2 l_ n3 _ h6) <| tL q_7 <| tF (not_of2 h8) <| tL q_9 <| tL q_10 <| tF h11 <| tF (rfl : false = false) <| tF h12 <| tF (rfl : false = false) <| tT h13 <| tT h14 <| tT (rfl : true = true) <| tN
                            exact runs_of (C := cfg) (objs := [[(.own 0 0 (l).length false), (.pv (.int .i64 n))]]) (sc := t_.ev) (.k1 t_.pf (by kernel_rfl) (by kernel_rfl))
                          · cases t4 with
                            | nil =>
                              cases t6 with
                              | nil =>
                                rcases cond_of h with ⟨h15, h⟩ | ⟨h15, h⟩
                                · have h := some_of h
                                  subst h
                                  have t_ := tR (kinfolkref02_Leaf_runs 0 _ h1) <| tR (kinfolkref05_Get_runs 1 n l _ h2) <| tF (not_of2 h3) <| tF h4 <| tF h5 <| tR (kinfolkref05_Get_2_runs 2 l_ n3 _ h6) <| tL q_7 <| tF (not_of2 h8) <| tL q_9 <| tL q_10 <| tF h11 <| tF (rfl : false = false) <| tF h12 <| tF (rfl : false = false) <| tT h13 <| tF h14 <| tT (rfl : true = true) <| tT (rfl : true = true) <| tT h15 <| tN
                                  exact runs_of (C := cfg) (objs := [[(.own 0 0 (l).length false), (.pv (.int .i64 n))]]) (sc := t_.ev) (.k0 t_.pf (by kernel_rfl))
                                · obtain ⟨n12, h16, h⟩ := bind_of h
                                  have q_16 := (Runs.coe (as' := [(.one (.pv (.imm [(.int .u64 n6), (T_kinfolkref02_Event.pv (T_kinfolkref02_Event.mk n10 T_kinfolkref02_Event.nil t5)), (T_kinfolkref02_Event.pv (T_kinfolkref02_Event.mk n11 T_kinfolkref02_Event.nil t7))] 0)))]) (objs' := []) (rows' := []) (kinfolkref02_Max_runs N (T_kinfolkref02_Event.mk n6 (T_kinfolkref02_Event.mk n10 T_kinfolkref02_Event.nil t5) (T_kinfolkref02_Event.mk n11 T_kinfolkref02_Event.nil t7)) _ h16) ⟨.eq rfl, trivial⟩ trivial trivial)
                                  rcases cond_of h with ⟨h17, h⟩ | ⟨h17, h⟩
                                  · have h := some_of h
                                    subst h
                                    have t_ := tR (kinfolkref02_Leaf_runs 0 _ h1) <| tR (kinfolkref05_Get_runs 1 n l _ h2) <| tF (not_of2 h3) <| tF h4 <| tF h5 <| tR (kinfolkref05_Get_2_runs 2 l_ n3 _ h6) <| tL q_7 <| tF (not_of2 h8) <| tL q_9 <| tL q_10 <| tF h11 <| tF (rfl : false = false) <| tF h12 <| tF (rfl : false = false) <| tT h13 <| tF h14 <| tT (rfl : true = true) <| tT (rfl : true = true) <| tF h15 <| tR q_16 <| tT h17 <| tN
                                    exact runs_of (C := cfg) (objs := [[(.own 0 0 (l).length false), (.pv (.int .i64 n))]]) (sc := t_.ev) (.k0 t_.pf (by kernel_rfl))
                                  · have h := some_of h
                                    subst h
                                    have t_ := tR (kinfolkref02_Leaf_runs 0 _ h1) <| tR (kinfolkref05_Get_runs 1 n l _ h2) <| tF (not_of2 h3) <| tF h4 <| tF h5 <| tR (kinfolkref05_Get_2_runs 2 l_ n3 _ h6) <| tL q_7 <| tF (not_of2 h8) <| tL q_9 <| tL q_10 <| tF h11 <| tF (rfl : false = false) <| tF h12 <| tF (rfl : false = false) <| tT h13 <| tF h14 <| tT (rfl : true = true) <| tT (rfl : true = true) <| tF h15 <| tR q_16 <| tF h17 <| tN
                                    have e_ : Runs Tryd.prog 77 [(.one (.ref 0 0)), (.one (.pv (.int .i64 depth)))] [[(.own 0 0 (l).length false), (.pv (.int .i64 n))]] [(.bools l)] ([(.one (.pv (.imm [(.int .u64 n6), (T_kinfolkref02_Event.pv (T_kinfolkref02_Event.mk n10 T_kinfolkref02_Event.nil t5)), (T_kinfolkref02_Event.pv (T_kinfolkref02_Event.mk n11 T_kinfolkref02_Event.nil t7))] 0))), (.one (.pv (.int .i64 0)))], [[(.pv (.bools l_5 false)), (.pv (.int .i64 n9))]], []) := runs_of (C := cfg) (objs := [[(.own 0 0 (l).length false), (.pv (.int .i64 n))]]) (sc := t_.ev) (.k0 t_.pf (by kernel_rfl))
                                    exact e_.out ⟨.eq rfl, .eq rfl, trivial⟩ ⟨⟨.eq rfl, .eq rfl, trivial⟩, trivial⟩ trivial rfl
                              | mk n12 t8 t9 =>
                                obtain ⟨n13, h15, h⟩ := bind_of h
                                have q_15 := (Runs.coe (as' := [(.one (.pv (.imm [(.int .u64 n6), (T_kinfolkref02_Event.pv (T_kinfolkref02_Event.mk n10 T_kinfolkref02_Event.nil t5)), (T_kinfolkref02_Event.pv (T_kinfolkref02_Event.mk n11 (T_kinfolkref02_Event.mk n12 t8 t9) t7))] 0)))]) (objs' := []) (rows' := []) (kinfolkref02_Max_runs N (T_kinfolkref02_Event.mk n6 (T_kinfolkref02_Event.mk n10 T_kinfolkref02_Event.nil t5) (T_kinfolkref02_Event.mk n11 (T_kinfolkref02_Event.mk n12 t8 t9) t7)) _ h15) ⟨.eq rfl, trivial⟩ trivial trivial)
                                rcases cond_of h with ⟨h16, h⟩ | ⟨h16, h⟩
                                · have h := some_of h
                                  subst h
                                  have t_ := tR (kinfolkref02_Leaf_runs 0 _ h1) <| tR (kinfolkref05_Get_runs 1 n l _ h2) <| tF (not_of2 h3) <| tF h4 <| tF h5 <| tR (kinfolkref05_Get_2_runs 2 l_ n3 _ h6) <| tL q_7 <| tF (not_of2 h8) <| tL q_9 <| tL q_10 <| tF h11 <| tF (rfl : false = false) <| tF h12 <| tF (rfl : false = false) <| tT h13 <| tF h14 <| tT (rfl : true = true) <| tF (rfl : false = false) <| tF (rfl : false = false) <| tR q_15 <| tT h16 <| tN
                                  exact runs_of (C := cfg) (objs := [[(.own 0 0 (l).length false), (.pv (.int .i64 n))]]) (sc := t_.ev) (.k1 t_.pf (by kernel_rfl) (by kernel_rfl))
                                · have h := some_of h
                                  subst h
                                  have t_ := tR (kinfolkref02_Leaf_runs 0 _ h1) <| tR (kinfolkref05_Get_runs 1 n l _ h2) <| tF (not_of2 h3) <| tF h4 <| tF h5 <| tR (kinfolkref05_Get_2_runs 2 l_ n3 _ h6) <| tL q_7 <| tF (not_of2 h8) <| tL q_9 <| tL q_10 <| tF h11 <| tF (rfl : false = false) <| tF h12 <| tF (rfl : false = false) <| tT h13 <| tF h14 <| tT (rfl : true = true) <| tF (rfl : false = false) <| tF (rfl : false = false) <| tR q_15 <| tF h16 <| tN
                                  have e_ : Runs Tryd.prog 77 [(.one (.ref 0 0)), (.one (.pv (.int .i64 depth)))] [[(.own 0 0 (l).length false), (.pv (.int .i64 n))]] [(.bools l)] ([(.one (.pv (.imm [(.int .u64 n6), (T_kinfolkref02_Event.pv (T_kinfolkref02_Event.mk n10 T_kinfolkref02_Event.nil t5)), (T_kinfolkref02_Event.pv (T_kinfolkref02_Event.mk n11 (T_kinfolkref02_Event.mk n12 t8 t9) t7))] 0))), (.one (.pv (.int .i64 0)))], [[(.pv (.bools l_5 false)), (.pv (.int .i64 n9))]], []) := runs_of (C := cfg) (objs := [[(.own 0 0 (l).length false), (.pv (.int .i64 n))]]) (sc := t_.ev) (.k1 t_.pf (by kernel_rfl) (by kernel_rfl))
                                  exact e_.out ⟨.eq rfl, .eq rfl, trivial⟩ ⟨⟨.eq rfl, .eq rfl, trivial⟩, trivial⟩ trivial rfl
                            | mk n12 t8 t9 =>
                              obtain ⟨n13, h15, h⟩ := bind_of h
                              have q_15 := (Runs.coe (as' := [(.one (.pv (.imm [(.int .u64 n6), (T_kinfolkref02_Event.pv (T_kinfolkref02_Event.mk n10 (T_kinfolkref02_Event.mk n12 t8 t9) t5)), (T_kinfolkref02_Event.pv (T_kinfolkref02_Event.mk n11 t6 t7))] 0)))]) (objs' := []) (rows' := []) (kinfolkref02_Max_runs N (T_kinfolkref02_Event.mk n6 (T_kinfolkref02_Event.mk n10 (T_kinfolkref02_Event.mk n12 t8 t9) t5) (T_kinfolkref02_Event.mk n11 t6 t7)) _ h15) ⟨.eq rfl, trivial⟩ trivial trivial)
                              rcases cond_of h with ⟨h16, h⟩ | ⟨h16, h⟩
                              · have h := some_of h
                                subst h
                                have t_ := tR (kinfolkref02_Leaf_runs 0 _ h1) <| tR (kinfolkref05_Get_runs 1 n l _ h2) <| tF (not_of2 h3) <| tF h4 <| tF h5 <| tR (kinfolkref05_Get_2_runs 2 l_ n3 _ h6) <| tL q_7 <| tF (not_of2 h8) <| tL q_9 <| tL q_10 <| tF h11 <| tF (rfl : false = false) <| tF h12 <| tF (rfl : false = false) <| tT h13 <| tF h14 <| tF (rfl : false = false) <| tF (rfl : false = false) <| tF (rfl : false = false) <| tR q_15 <| tT h16 <| tN
                                exact runs_of (C := cfg) (objs := [[(.own 0 0 (l).length false), (.pv (.int .i64 n))]]) (sc := t_.ev) (.k1 t_.pf (by kernel_rfl) (by kernel_rfl))
                              · have h := some_of h
                                subst h
                                have t_ := tR (kinfolkref02_Leaf_runs 0 _ h1) <| tR (kinfolkref05_Get_runs 1 n l _ h2) <| tF (not_of2 h3) <| tF h4 <| tF h5 <| tR (kinfolkref05_Get_2_runs 2 l_ n3 _ h6) <| tL q_7 <| tF (not_of2 h8) <| tL q_9 <| tL q_10 <| tF h11 <| tF (rfl : false = false) <| tF h12 <| tF (rfl : false = false) <| tT h13 <| tF h14 <| tF (rfl : false = false) <| tF (rfl : false = false) <| tF (rfl : false = false) <| tR q_15 <| tF h16 <| tN
                                have e_ : Runs Tryd.prog 77 [(.one (.ref 0 0)), (.one (.pv (.int .i64 depth)))] [[(.own 0 0 (l).length false), (.pv (.int .i64 n))]] [(.bools l)] ([(.one (.pv (.imm [(.int .u64 n6), (T_kinfolkref02_Event.pv (T_kinfolkref02_Event.mk n10 (T_kinfolkref02_Event.mk n12 t8 t9) t5)), (T_kinfolkref02_Event.pv (T_kinfolkref02_Event.mk n11 t6 t7))] 0))), (.one (.pv (.int .i64 0)))], [[(.pv (.bools l_5 false)), (.pv (.int .i64 n9))]], []) := runs_of (C := cfg) (objs := [[(.own 0 0 (l).length false), (.pv (.int .i64 n))]]) (sc := t_.ev) (.k1 t_.pf (by kernel_rfl) (by kernel_rfl))
                                exact e_.out ⟨.eq rfl, .eq rfl, trivial⟩ ⟨⟨.eq rfl, .eq rfl, trivial⟩, trivial⟩ trivial rfl
                      · cases t4 with
                        | nil =>
                          cases t3 with
                          | nil =>
                            cases h
                          | mk n11 t6 t7 =>
                            cases t6 with
                            | nil =>
                              rcases cond_of h with ⟨h14, h⟩ | ⟨h14, h⟩
                              · have h := some_of h
                                subst h
                                have t_ := tR (kinfolkref02_Leaf_runs 0 _ h1) <| tR (kinfolkref05_Get_runs 1 n l _ h2) <| tF (not_of2 h3) <| tF h4 <| tF h5 <| tR (kinfolkref05_Get_2_runs 2 l_ n3 _ h6) <| tL q_7 <| tF (not_of2 h8) <| tL q_9 <| tL q_10 <| tF h11 <| tF (rfl : false = false) <| tF h12 <| tF (rfl : false = false) <| tF h13 <| tF (rfl : false = false) <| tT (rfl : true = true) <| tT (rfl : true = true) <| tT h14 <| tN
                                exact runs_of (C := cfg) (objs := [[(.own 0 0 (l).length false), (.pv (.int .i64 n))]]) (sc := t_.ev) (.k0 t_.pf (by kernel_rfl))
                              · obtain ⟨n12, h15, h⟩ := bind_of h
                                have q_15 := (Runs.coe (as' := [(.one (.pv (.imm [(.int .u64 n6), (T_kinfolkref02_Event.pv (T_kinfolkref02_Event.mk n10 T_kinfolkref02_Event.nil t5)), (T_kinfolkref02_Event.pv (T_kinfolkref02_Event.mk n11 T_kinfolkref02_Event.nil t7))] 0)))]) (objs' := []) (rows' := []) (kinfolkref02_Max_runs N (T_kinfolkref02_Event.mk n6 (T_kinfolkref02_Event.mk n10 T_kinfolkref02_Event.nil t5) (T_kinfolkref02_Event.mk n11 T_kinfolkref02_Event.nil t7)) _ h15) ⟨.eq rfl, trivial⟩ trivial trivial)
                                rcases cond_of h with ⟨h16, h⟩ | ⟨h16, h⟩
                                · have h := some_of h
                                  subst h
                                  have t_ := tR (kinfolkref02_Leaf_runs 0 _ h1) <| tR (kinfolkref05_Get_runs 1 n l _ h2) <| tF (not_of2 h3) <| tF h4 <| tF h5 <| tR (kinfolkref05_Get_2_runs 2 l_ n3 _ h6) <| tL q_7 <| tF (not_of2 h8) <| tL q_9 <| tL q_10 <| tF h11 <| tF (rfl : false = false) <| tF h12 <| tF (rfl : false = false) <| tF h13 <| tF (rfl : false = false) <| tT (rfl : true = true) <| tT (rfl : true = true) <| tF h14 <| tR q_15 <| tT h16 <| tN
                                  exact runs_of (C := cfg) (objs := [[(.own 0 0 (l).length false), (.pv (.int .i64 n))]]) (sc := t_.ev) (.k0 t_.pf (by kernel_rfl))
                                · have h := some_of h
                                  subst h
                                  have t_ := tR (kinfolkref02_Leaf_runs 0 _ h1) <| tR (kinfolkref05_Get_runs 1 n l _ h2) <| tF (not_of2 h3) <| tF h4 <| tF h5 <| tR (kinfolkref05_Get_2_runs 2 l_ n3 _ h6) <| tL q_7 <| tF (not_of2 h8) <| tL q_9 <| tL q_10 <| tF h11 <| tF (rfl : false = false) <| tF h12 <| tF (rfl : false = false) <| tF h13 <| tF (rfl : false = false) <| tT (rfl : true = true) <| tT (rfl : true = true) <| tF h14 <| tR q_15 <| tF h16 <| tN
                                  have e_ : Runs Tryd.prog 77 [(.one (.ref 0 0)), (.one (.pv (.int .i64 depth)))] [[(.own 0 0 (l).length false), (.pv (.int .i64 n))]] [(.bools l)] ([(.one (.pv (.imm [(.int .u64 n6), (T_kinfolkref02_Event.pv (T_kinfolkref02_Event.mk n10 T_kinfolkref02_Event.nil t5)), (T_kinfolkref02_Event.pv (T_kinfolkref02_Event.mk n11 T_kinfolkref02_Event.nil t7))] 0))), (.one (.pv (.int .i64 0)))], [[(.pv (.bools l_5 false)), (.pv (.int .i64 n9))]], []) := runs_of (C := cfg) (objs := [[(.own 0 0 (l).length false), (.pv (.int .i64 n))]]) (sc := t_.ev) (.k0 t_.pf (by kernel_rfl))
                                  exact e_.out ⟨.eq rfl, .eq rfl, trivial⟩ ⟨⟨.eq rfl, .eq rfl, trivial⟩, trivial⟩ trivial rfl
                            | mk n12 t8 t9 =>
                              obtain ⟨n13, h14, h⟩ := bind_of h
                              have q_14 := (Runs.coe (as' := [(.one (.pv (.imm [(.int .u64 n6), (T_kinfolkref02_Event.pv (T_kinfolkref02_Event.mk n10 T_kinfolkref02_Event.nil t5)), (T_kinfolkref02_Event.pv (T_kinfolkref02_Event.mk n11 (T_kinfolkref02_Event.mk n12 t8 t9) t7))] 0)))]) (objs' := []) (rows' := []) (kinfolkref02_Max_runs N (T_kinfolkref02_Event.mk n6 (T_kinfolkref02_Event.mk n10 T_kinfolkref02_Event.nil t5) (T_kinfolkref02_Event.mk n11 (T_kinfolkref02_Event.mk n12 t8 t9) t7)) _ h14) ⟨.eq rfl, trivial⟩ trivial trivial)
                              rcases cond_of h with ⟨h15, h⟩ | ⟨h15, h⟩
                              · have h := some_of h
                                subst h
                                have t_ := tR (kinfolkref02_Leaf_runs 0 _ h1) <| tR (kinfolkref05_Get_runs 1 n l _ h2) <| tF (not_of2 h3) <| tF h4 <| tF h5 <| tR (kinfolkref05_Get_2_runs 2 l_ n3 _ h6) <| tL q_7 <| tF (not_of2 h8) <| tL q_9 <| tL q_10 <| tF h11 <| tF (rfl : false = false) <| tF h12 <| tF (rfl : false = false) <| tF h13 <| tF (rfl : false = false) <| tT (rfl : true = true) <| tF (rfl : false = false) <| tF (rfl : false = false) <| tR q_14 <| tT h15 <| tN
                                exact runs_of (C := cfg) (objs := [[(.own 0 0 (l).length false), (.pv (.int .i64 n))]]) (sc := t_.ev) (.k1 t_.pf (by kernel_rfl) (by kernel_rfl))
                              · have h := some_of h
                                subst h
                                have t_ := tR (kinfolkref02_Leaf_runs 0 _ h1) <| tR (kinfolkref05_Get_runs 1 n l _ h2) <| tF (not_of2 h3) <| tF h4 <| tF h5 <| tR (kinfolkref05_Get_2_runs 2 l_ n3 _ h6) <| tL q_7 <| tF (not_of2 h8) <| tL q_9 <| tL q_10 <| tF h11 <| tF (rfl : false = false) <| tF h12 <| tF (rfl : false = false) <| tF h13 <| tF (rfl : false = false) <| tT (rfl : true = true) <| tF (rfl : false = false) <| tF (rfl : false = false) <| tR q_14 <| tF h15 <| tN
                                have e_ : Runs Tryd.prog 77 [(.one (.ref 0 0)), (.one (.pv (.int .i64 depth)))] [[(.own 0 0 (l).length false), (.pv (.int .i64 n))]] [(.bools l)] ([(.one (.pv (.imm [(.int .u64 n6), (T_kinfolkref02_Event.pv (T_kinfolkref02_Event.mk n10 T_kinfolkref02_Event.nil t5)), (T_kinfolkref02_Event.pv (T_kinfolkref02_Event.mk n11 (T_kinfolkref02_Event.mk n12 t8 t9) t7))] 0))), (.one (.pv (.int .i64 0)))], [[(.pv (.bools l_5 false)), (.pv (.int .i64 n9))]], []) := runs_of (C := cfg) (objs := [[(.own 0 0 (l).length false), (.pv (.int .i64 n))]]) (sc := t_.ev) (.k1 t_.pf (by kernel_rfl) (by kernel_rfl))
                                exact e_.out ⟨.eq rfl, .eq rfl, trivial⟩ ⟨⟨.eq rfl, .eq rfl, trivial⟩, trivial⟩ trivial rfl
                        | mk n11 t6 t7 =>
                          obtain ⟨n12, h14, h⟩ := bind_of h
                          have q_14 := (Runs.coe (as' := [(.one (.pv (.imm [(.int .u64 n6), (T_kinfolkref02_Event.pv (T_kinfolkref02_Event.mk n10 (T_kinfolkref02_Event.mk n11 t6 t7) t5)), (T_kinfolkref02_Event.pv t3)] 0)))]) (objs' := []) (rows' := []) (kinfolkref02_Max_runs N (T_kinfolkref02_Event.mk n6 (T_kinfolkref02_Event.mk n10 (T_kinfolkref02_Event.mk n11 t6 t7) t5) t3) _ h14) ⟨.eq rfl, trivial⟩ trivial trivial)
                          rcases cond_of h with ⟨h15, h⟩ | ⟨h15, h⟩
                          · have h := some_of h
                            subst h
                            have t_ := tR (kinfolkref02_Leaf_runs 0 _ h1) <| tR (kinfolkref05_Get_runs 1 n l _ h2) <| tF (not_of2 h3) <| tF h4 <| tF h5 <| tR (kinfolkref05_Get_2_runs 2 l_ n3 _ h6) <| tL q_7 <| tF (not_of2 h8) <| tL q_9 <| tL q_10 <| tF h11 <| tF (rfl : false = false) <| tF h12 <| tF (rfl : false = false) <| tF h13 <| tF (rfl : false = false) <| tF (rfl : false = false) <| tF (rfl : false = false) <| tF (rfl : false = false) <| tR q_14 <| tT h15 <| tN
                            exact runs_of (C := cfg) (objs := [[(.own 0 0 (l).length false), (.pv (.int .i64 n))]]) (sc := t_.ev) (.k1 t_.pf (by kernel_rfl) (by kernel_rfl))
                          · have h := some_of h
                            subst h
                            have t_ := tR (kinfolkref02_Leaf_runs 0 _ h1) <| tR (kinfolkref05_Get_runs 1 n l _ h2) <| tF (not_of2 h3) <| tF h4 <| tF h5 <| tR (kinfolkref05_Get_2_runs 2 l_ n3 _ h6) <| tL q_7 <| tF (not_of2 h8) <| tL q_9 <| tL q_10 <| tF h11 <| tF (rfl : false = false) <| tF h12 <| tF (rfl : false = false) <| tF h13 <| tF (rfl : false = false) <| tF (rfl : false = false) <| tF (rfl : false = false) <| tF (rfl : false = false) <| tR q_14 <| tF h15 <| tN
                            have e_ : Runs Tryd.prog 77 [(.one (.ref 0 0)), (.one (.pv (.int .i64 depth)))] [[(.own 0 0 (l).length false), (.pv (.int .i64 n))]] [(.bools l)] ([(.one (.pv (.imm [(.int .u64 n6), (T_kinfolkref02_Event.pv (T_kinfolkref02_Event.mk n10 (T_kinfolkref02_Event.mk n11 t6 t7) t5)), (T_kinfolkref02_Event.pv t3)] 0))), (.one (.pv (.int .i64 0)))], [[(.pv (.bools l_5 false)), (.pv (.int .i64 n9))]], []) := runs_of (C := cfg) (objs := [[(.own 0 0 (l).length false), (.pv (.int .i64 n))]]) (sc := t_.ev) (.k1 t_.pf (by kernel_rfl) (by kernel_rfl))
                            exact e_.out ⟨.eq rfl, .eq rfl, trivial⟩ ⟨⟨.eq rfl, .eq rfl, trivial⟩, trivial⟩ trivial rfl
              · have h := some_of h
                subst h
                have t_ := tR (kinfolkref02_Leaf_runs 0 _ h1) <| tR (kinfolkref05_Get_runs 1 n l _ h2) <| tF (not_of2 h3) <| tF h4 <| tF h5 <| tR (kinfolkref05_Get_2_runs 2 l_ n3 _ h6) <| tL q_7 <| tF (not_of2 h8) <| tL q_9 <| tL (kinfolkref07_GetEvent_C96_runs (kinfolkref07_GetEvent_4 N) (kinfolkref07_GetEvent_4_runs N) depth t b b2 n6 t2 t b2 l_4 n8 _ h10) <| tN
                exact runs_of (C := cfg) (objs := [[(.own 0 0 (l).length false), (.pv (.int .i64 n))]]) (sc := t_.ev) (.k0 t_.pf (by kernel_rfl))
            · have h := some_of h
              subst h
              have t_ := tR (kinfolkref02_Leaf_runs 0 _ h1) <| tR (kinfolkref05_Get_runs 1 n l _ h2) <| tF (not_of2 h3) <| tF h4 <| tF h5 <| tR (kinfolkref05_Get_2_runs 2 l_ n3 _ h6) <| tL q_7 <| tF (not_of2 h8) <| tL (kinfolkref07_GetEvent_C84_runs N depth t b b2 n6 t t b l_3 n7 _ h9) <| tN
              exact runs_of (C := cfg) (objs := [[(.own 0 0 (l).length false), (.pv (.int .i64 n))]]) (sc := t_.ev) (.k0 t_.pf (by kernel_rfl))
          · have h := some_of h
            subst h
            have t_ := tR (kinfolkref02_Leaf_runs 0 _ h1) <| tR (kinfolkref05_Get_runs 1 n l _ h2) <| tF (not_of2 h3) <| tF h4 <| tF h5 <| tR (kinfolkref05_Get_2_runs 2 l_ n3 _ h6) <| tL q_7 <| tT (not_of h8) <| tN
            exact runs_of (C := cfg) (objs := [[(.own 0 0 (l).length false), (.pv (.int .i64 n))]]) (sc := t_.ev) (.k0 t_.pf (by kernel_rfl))
  · have h := some_of h
    subst h
    have t_ := tR (kinfolkref02_Leaf_runs 0 _ h1) <| tR (kinfolkref05_Get_runs 1 n l _ h2) <| tT (not_of h3) <| tN
    exact runs_of (C := cfg) (objs := [[(.own 0 0 (l).length false), (.pv (.int .i64 n))]]) (sc := t_.ev) (.k0 t_.pf (by kernel_rfl))
/-! ### id_ID_Text_out -/
def id_ID_Text_out (i : Bool) (i2 : T_id_halves) : ByteArray → Res
  | r1 => ([(.one (.pv (.str r1)))], [], [])
/-! ### id_ID_Text -/
noncomputable def id_ID_Text_b (rec_id_ID_Text : Bool → T_id_halves → Option (ByteArray)) (i : Bool) (i2 : T_id_halves) : Option (ByteArray) :=
  (id_ID_IsZero i i2).bind fun b =>
  bif b then
    some (⟨#[48]⟩ : ByteArray)
  else
    (id_ID_IsOne i i2).bind fun _ =>
    bif i then
      some (⟨#[49]⟩ : ByteArray)
    else
      match i2 with
      | .nil =>
        none
      | .mk b2 t b3 t2 =>
        (rec_id_ID_Text b2 t).bind fun s =>
        bif decide ((⟨#[40]⟩ : ByteArray).size + s.size ≤ 140737488355328) then
        bif decide (((⟨#[40]⟩ : ByteArray) ++ s).size + (⟨#[44]⟩ : ByteArray).size ≤ 140737488355328) then
        (rec_id_ID_Text b3 t2).bind fun s2 =>
        bif decide ((((⟨#[40]⟩ : ByteArray) ++ s) ++ (⟨#[44]⟩ : ByteArray)).size + s2.size ≤ 140737488355328) then
        bif decide (((((⟨#[40]⟩ : ByteArray) ++ s) ++ (⟨#[44]⟩ : ByteArray)) ++ s2).size + (⟨#[41]⟩ : ByteArray).size ≤ 140737488355328) then
        some (((((⟨#[40]⟩ : ByteArray) ++ s) ++ (⟨#[44]⟩ : ByteArray)) ++ s2) ++ (⟨#[41]⟩ : ByteArray))
        else none
        else none
        else none
        else none
theorem id_ID_Text_b_runs (rec_id_ID_Text : Bool → T_id_halves → Option (ByteArray)) (hrec_id_ID_Text : ∀ i i2 r_, rec_id_ID_Text i i2 = some r_ → Runs Tryd.prog 79 [(.agg [(.pv (.bool i)), (.pv (T_id_halves.pv i2))])] [] [] (id_ID_Text_out i i2 r_)) (i : Bool) (i2 : T_id_halves) (r_ : ByteArray) (h : id_ID_Text_b rec_id_ID_Text i i2 = some r_) : Runs Tryd.prog 79 [(.agg [(.pv (.bool i)), (.pv (T_id_halves.pv i2))])] [] [] (id_ID_Text_out i i2 r_) := by
  unfold id_ID_Text_b at h
  obtain ⟨b, h1, h⟩ := bind_of h
  rcases cond_of h with ⟨h2, h⟩ | ⟨h2, h⟩
  · have h := some_of h
    subst h
    have t_ := tR (id_ID_IsZero_runs i i2 _ h1) <| tT h2 <| tN
    exact runs_of (C := cfg) (objs := []) (sc := t_.ev) (.k0 t_.pf (by kernel_rfl))
  · obtain ⟨_, h3, h⟩ := bind_of h
    rcases cond_of h with ⟨h4, h⟩ | ⟨h4, h⟩
    · have h := some_of h
      subst h
      have t_ := tR (id_ID_IsZero_runs i i2 _ h1) <| tF h2 <| tR (id_ID_IsOne_runs i i2 _ h3) <| tT h4 <| tN
      exact runs_of (C := cfg) (objs := []) (sc := t_.ev) (.k0 t_.pf (by kernel_rfl))
    · cases i2 with
      | nil =>
        cases h
      | mk b2 t b3 t2 =>
        obtain ⟨s, h5, h⟩ := bind_of h
        obtain ⟨h6, h⟩ := need_of h
        obtain ⟨h7, h⟩ := need_of h
        obtain ⟨s2, h8, h⟩ := bind_of h
        obtain ⟨h9, h⟩ := need_of h
        obtain ⟨h10, h⟩ := need_of h
        have h := some_of h
        subst h
        have t_ := tR (id_ID_IsZero_runs i (T_id_halves.mk b2 t b3 t2) _ h1) <| tF h2 <| tR (id_ID_IsOne_runs i (T_id_halves.mk b2 t b3 t2) _ h3) <| tF h4 <| tR (hrec_id_ID_Text b2 t _ h5) <| tO h6 <| tO h7 <| tR (hrec_id_ID_Text b2 t _ h5) <| tO h6 <| tO h7 <| tR (hrec_id_ID_Text b3 t2 _ h8) <| tO h9 <| tO h10 <| tN
        exact runs_of (C := cfg) (objs := []) (sc := t_.ev) (.k1 t_.pf (by kernel_rfl) (by kernel_rfl))
noncomputable def id_ID_Text : Nat → Bool → T_id_halves → Option (ByteArray)
  | 0, _, _ => none
  | N + 1, i, i2 => id_ID_Text_b (id_ID_Text N) i i2
theorem id_ID_Text_runs : ∀ (N : Nat) (i : Bool) (i2 : T_id_halves) (r_ : ByteArray), id_ID_Text N i i2 = some r_ → Runs Tryd.prog 79 [(.agg [(.pv (.bool i)), (.pv (T_id_halves.pv i2))])] [] [] (id_ID_Text_out i i2 r_)
  | 0, _, _, _, h => by cases h
  | N + 1, i, i2, r_, h => id_ID_Text_b_runs (id_ID_Text N) (id_ID_Text_runs N) i i2 r_ h
/-! ### kinfolkref01_Text_out -/
def kinfolkref01_Text_out (i : T_kinfolkref01_ID) : ByteArray → Res
  | r1 => ([(.one (.pv (.str r1)))], [], [])
/-! ### kinfolkref01_Text -/
noncomputable def kinfolkref01_Text_b (rec_kinfolkref01_Text : T_kinfolkref01_ID → Option (ByteArray)) (i : T_kinfolkref01_ID) : Option (ByteArray) :=
  match i with
  | .nil =>
    none
  | .mk n t t2 =>
    bif (decide ((n : Int) = 0)) then
      some (⟨#[48]⟩ : ByteArray)
    else
      bif (decide ((n : Int) = 1)) then
        some (⟨#[49]⟩ : ByteArray)
      else
        (rec_kinfolkref01_Text t).bind fun s =>
        bif decide ((⟨#[40]⟩ : ByteArray).size + s.size ≤ 140737488355328) then
        bif decide (((⟨#[40]⟩ : ByteArray) ++ s).size + (⟨#[44]⟩ : ByteArray).size ≤ 140737488355328) then
        (rec_kinfolkref01_Text t2).bind fun s2 =>
        bif decide ((((⟨#[40]⟩ : ByteArray) ++ s) ++ (⟨#[44]⟩ : ByteArray)).size + s2.size ≤ 140737488355328) then
        bif decide (((((⟨#[40]⟩ : ByteArray) ++ s) ++ (⟨#[44]⟩ : ByteArray)) ++ s2).size + (⟨#[41]⟩ : ByteArray).size ≤ 140737488355328) then
        some (((((⟨#[40]⟩ : ByteArray) ++ s) ++ (⟨#[44]⟩ : ByteArray)) ++ s2) ++ (⟨#[41]⟩ : ByteArray))
        else none
        else none
        else none
        else none
theorem kinfolkref01_Text_b_runs (rec_kinfolkref01_Text : T_kinfolkref01_ID → Option (ByteArray)) (hrec_kinfolkref01_Text : ∀ i r_, rec_kinfolkref01_Text i = some r_ → Runs Tryd.prog 80 [(.one (.pv (T_kinfolkref01_ID.pv i)))] [] [] (kinfolkref01_Text_out i r_)) (i : T_kinfolkref01_ID) (r_ : ByteArray) (h : kinfolkref01_Text_b rec_kinfolkref01_Text i = some r_) : Runs Tryd.prog 80 [(.one (.pv (T_kinfolkref01_ID.pv i)))] [] [] (kinfolkref01_Text_out i r_) := by
  unfold kinfolkref01_Text_b at h
  cases i with
  | nil =>
    cases h
  | mk n t t2 =>
    rcases cond_of h with ⟨h1, h⟩ | ⟨h1, h⟩
    · have h := some_of h
      subst h
      have t_ := tT h1 <| tN
      exact runs_of (C := cfg) (objs := []) (sc := t_.ev) (.k0 t_.pf (by kernel_rfl))
    · rcases cond_of h with ⟨h2, h⟩ | ⟨h2, h⟩
      · have h := some_of h
        subst h
        have t_ := tF h1 <| tT h2 <| tN
        exact runs_of (C := cfg) (objs := []) (sc := t_.ev) (.k0 t_.pf (by kernel_rfl))
      · obtain ⟨s, h3, h⟩ := bind_of h
        obtain ⟨h4, h⟩ := need_of h
        obtain ⟨h5, h⟩ := need_of h
        obtain ⟨s2, h6, h⟩ := bind_of h
        obtain ⟨h7, h⟩ := need_of h
        obtain ⟨h8, h⟩ := need_of h
        have h := some_of h
        subst h
        have t_ := tF h1 <| tF h2 <| tR (hrec_kinfolkref01_Text t _ h3) <| tO h4 <| tO h5 <| tR (hrec_kinfolkref01_Text t2 _ h6) <| tO h7 <| tO h8 <| tN
        exact runs_of (C := cfg) (objs := []) (sc := t_.ev) (.k0 t_.pf (by kernel_rfl))
noncomputable def kinfolkref01_Text : Nat → T_kinfolkref01_ID → Option (ByteArray)
  | 0, _ => none
  | N + 1, i => kinfolkref01_Text_b (kinfolkref01_Text N) i
theorem kinfolkref01_Text_runs : ∀ (N : Nat) (i : T_kinfolkref01_ID) (r_ : ByteArray), kinfolkref01_Text N i = some r_ → Runs Tryd.prog 80 [(.one (.pv (T_kinfolkref01_ID.pv i)))] [] [] (kinfolkref01_Text_out i r_)
  | 0, _, _, h => by cases h
  | N + 1, i, r_, h => kinfolkref01_Text_b_runs (kinfolkref01_Text N) (kinfolkref01_Text_runs N) i r_ h
/-! ### event_Event_Text_out -/
def event_Event_Text_out (e : Int) (e2 : T_event_halves) : ByteArray → Res
  | r1 => ([(.one (.pv (.str r1)))], [], [])
/-! ### strconv_FormatUint_out -/
def strconv_FormatUint_out (i : Int) (base : Int) : ByteArray → Res
  | r1 => ([(.one (.pv (.str r1)))], [], [])
/-! ### strconv_FormatUint -/
noncomputable def strconv_FormatUint (i : Int) (base : Int) : Option (ByteArray) :=
  (strconv_FormatUint10 i base).bind fun s =>
  some s
theorem strconv_FormatUint_runs (i : Int) (base : Int) (r_ : ByteArray) (h : strconv_FormatUint i base = some r_) : Runs Tryd.prog 97 [(.one (.pv (.int .u64 i))), (.one (.pv (.int .i64 base)))] [] [] (strconv_FormatUint_out i base r_) := by
  unfold strconv_FormatUint at h
  obtain ⟨s, h1, h⟩ := bind_of h
  have h := some_of h
  subst h
  have t_ := tR (strconv_FormatUint10_runs i base _ h1) <| tN
  exact runs_of (C := cfg) (objs := []) (sc := t_.ev) (.k0 t_.pf (by kernel_rfl))
/-! ### event_Event_Text -/
noncomputable def event_Event_Text_b (rec_event_Event_Text : Int → T_event_halves → Option (ByteArray)) (e : Int) (e2 : T_event_halves) : Option (ByteArray) :=
  (strconv_FormatUint e 10).bind fun s =>
  match e2 with
  | .nil =>
    some s
  | .mk n t n2 t2 =>
    bif decide ((⟨#[40]⟩ : ByteArray).size + s.size ≤ 140737488355328) then
    bif decide (((⟨#[40]⟩ : ByteArray) ++ s).size + (⟨#[44]⟩ : ByteArray).size ≤ 140737488355328) then
    (rec_event_Event_Text n t).bind fun s2 =>
    bif decide ((((⟨#[40]⟩ : ByteArray) ++ s) ++ (⟨#[44]⟩ : ByteArray)).size + s2.size ≤ 140737488355328) then
    bif decide (((((⟨#[40]⟩ : ByteArray) ++ s) ++ (⟨#[44]⟩ : ByteArray)) ++ s2).size + (⟨#[44]⟩ : ByteArray).size ≤ 140737488355328) then
    (rec_event_Event_Text n2 t2).bind fun s3 =>
    bif decide ((((((⟨#[40]⟩ : ByteArray) ++ s) ++ (⟨#[44]⟩ : ByteArray)) ++ s2) ++ (⟨#[44]⟩ : ByteArray)).size + s3.size ≤ 140737488355328) then
    bif decide (((((((⟨#[40]⟩ : ByteArray) ++ s) ++ (⟨#[44]⟩ : ByteArray)) ++ s2) ++ (⟨#[44]⟩ : ByteArray)) ++ s3).size + (⟨#[41]⟩ : ByteArray).size ≤ 140737488355328) then
    some (((((((⟨#[40]⟩ : ByteArray) ++ s) ++ (⟨#[44]⟩ : ByteArray)) ++ s2) ++ (⟨#[44]⟩ : ByteArray)) ++ s3) ++ (⟨#[41]⟩ : ByteArray))
    else none
    else none
    else none
    else none
    else none
    else none
theorem event_Event_Text_b_runs (rec_event_Event_Text : Int → T_event_halves → Option (ByteArray)) (hrec_event_Event_Text : ∀ e e2 r_, rec_event_Event_Text e e2 = some r_ → Runs Tryd.prog 21 [(.agg [(.pv (.int .u64 e)), (.pv (T_event_halves.pv e2))])] [] [] (event_Event_Text_out e e2 r_)) (e : Int) (e2 : T_event_halves) (r_ : ByteArray) (h : event_Event_Text_b rec_event_Event_Text e e2 = some r_) : Runs Tryd.prog 21 [(.agg [(.pv (.int .u64 e)), (.pv (T_event_halves.pv e2))])] [] [] (event_Event_Text_out e e2 r_) := by
  unfold event_Event_Text_b at h
  obtain ⟨s, h1, h⟩ := bind_of h
  cases e2 with
  | nil =>
    have h := some_of h
    subst h
    have t_ := tR (strconv_FormatUint_runs e 10 _ h1) <| tT (rfl : true = true) <| tN
    exact runs_of (C := cfg) (objs := []) (sc := t_.ev) (.k0 t_.pf (by kernel_rfl))
  | mk n t n2 t2 =>
    obtain ⟨h2, h⟩ := need_of h
    obtain ⟨h3, h⟩ := need_of h
    obtain ⟨s2, h4, h⟩ := bind_of h
    obtain ⟨h5, h⟩ := need_of h
    obtain ⟨h6, h⟩ := need_of h
    obtain ⟨s3, h7, h⟩ := bind_of h
    obtain ⟨h8, h⟩ := need_of h
    obtain ⟨h9, h⟩ := need_of h
    have h := some_of h
    subst h
    have t_ := tR (strconv_FormatUint_runs e 10 _ h1) <| tF (rfl : false = false) <| tO h2 <| tO h3 <| tR (hrec_event_Event_Text n t _ h4) <| tO h5 <| tO h6 <| tR (hrec_event_Event_Text n t _ h4) <| tO h5 <| tO h6 <| tR (hrec_event_Event_Text n2 t2 _ h7) <| tO h8 <| tO h9 <| tN
    exact runs_of (C := cfg) (objs := []) (sc := t_.ev) (.k1 t_.pf (by kernel_rfl) (by kernel_rfl))
noncomputable def event_Event_Text : Nat → Int → T_event_halves → Option (ByteArray)
  | 0, _, _ => none
  | N + 1, e, e2 => event_Event_Text_b (event_Event_Text N) e e2
theorem event_Event_Text_runs : ∀ (N : Nat) (e : Int) (e2 : T_event_halves) (r_ : ByteArray), event_Event_Text N e e2 = some r_ → Runs Tryd.prog 21 [(.agg [(.pv (.int .u64 e)), (.pv (T_event_halves.pv e2))])] [] [] (event_Event_Text_out e e2 r_)
  | 0, _, _, _, h => by cases h
  | N + 1, e, e2, r_, h => event_Event_Text_b_runs (event_Event_Text N) (event_Event_Text_runs N) e e2 r_ h
/-! ### kinfolkref02_Text_out -/
def kinfolkref02_Text_out (e : T_kinfolkref02_Event) : ByteArray → Res
  | r1 => ([(.one (.pv (.str r1)))], [], [])
/-! ### kinfolkref02_Dec_out -/
def kinfolkref02_Dec_out (n : Int) : ByteArray → Res
  | r1 => ([(.one (.pv (.str r1)))], [], [])

end Go.Proofs.YtjjakdmcnkldoaaDoor
