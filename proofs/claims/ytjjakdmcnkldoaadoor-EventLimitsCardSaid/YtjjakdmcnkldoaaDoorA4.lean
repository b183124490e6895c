/- What functions compute, and that they do. -/
import Derived.Test.YtjjakdmcnkldoaaDoorA3
set_option linter.unusedVariables false
set_option linter.unusedSimpArgs false
set_option maxRecDepth 100000
namespace Go.Proofs.YtjjakdmcnkldoaaDoor
open Go.Ev

/-! ### kinfolkref02_parse_2 -/
noncomputable def kinfolkref02_parse_2_b (N : Nat) (rec_kinfolkref02_parse_2 : ByteArray → Option (T_kinfolkref02_Event × ByteArray × Bool × Bool)) (s : ByteArray) : Option (T_kinfolkref02_Event × ByteArray × Bool × Bool) :=
  bif (decide (((s.size : Int) : Int) = 0)) then
    (kinfolkref02_number s).bind fun (n, s2, b, b2) =>
    (kinfolkref02_Leaf n).bind fun t =>
    some (t, s2, b, b2)
  else
    bif decide ((0 : Int) ≤ 0) && decide ((0 : Int) < (s.size : Int)) then
    bif (decide ((((s.data.getD 0 0).toNat : Int) : Int) = 40)) then
      bif decide ((0 : Int) ≤ 1) && decide ((1 : Int) ≤ (s.size : Int)) && decide (((s.size : Int) : Int) ≤ (s.size : Int)) then
      (kinfolkref02_number (s.extract 1 ((s.size : Int)).toNat)).bind fun (n, s2, b, b2) =>
      bif b then
        bif (decide (((s2.size : Int) : Int) = 0)) then
          (kinfolkref02_Leaf 0).bind fun t =>
          some (t, s2, false, false)
        else
          bif decide ((0 : Int) ≤ 0) && decide ((0 : Int) < (s2.size : Int)) then
          bif (decide ((((s2.data.getD 0 0).toNat : Int) : Int) = 44)) then
            bif decide ((0 : Int) ≤ 1) && decide ((1 : Int) ≤ (s2.size : Int)) && decide (((s2.size : Int) : Int) ≤ (s2.size : Int)) then
            (rec_kinfolkref02_parse_2 (s2.extract 1 ((s2.size : Int)).toNat)).bind fun (t, s3, b3, b4) =>
            bif b3 then
              bif (decide (((s3.size : Int) : Int) = 0)) then
                (kinfolkref02_Leaf 0).bind fun t2 =>
                some (t2, s3, false, false)
              else
                bif decide ((0 : Int) ≤ 0) && decide ((0 : Int) < (s3.size : Int)) then
                bif (decide ((((s3.data.getD 0 0).toNat : Int) : Int) = 44)) then
                  bif decide ((0 : Int) ≤ 1) && decide ((1 : Int) ≤ (s3.size : Int)) && decide (((s3.size : Int) : Int) ≤ (s3.size : Int)) then
                  (rec_kinfolkref02_parse_2 (s3.extract 1 ((s3.size : Int)).toNat)).bind fun (t2, s4, b5, b6) =>
                  bif b5 then
                    bif (decide (((s4.size : Int) : Int) = 0)) then
                      (kinfolkref02_Leaf 0).bind fun t3 =>
                      some (t3, s4, false, false)
                    else
                      bif decide ((0 : Int) ≤ 0) && decide ((0 : Int) < (s4.size : Int)) then
                      bif (decide ((((s4.data.getD 0 0).toNat : Int) : Int) = 41)) then
                        (kinfolkref02_Min N t).bind fun n2 =>
                        bif (decide ((0 : Int) < n2)) then
                          (kinfolkref02_Min N t2).bind fun n3 =>
                          bif (decide ((0 : Int) < n3)) then
                            (kinfolkref02_Leaf 0).bind fun t3 =>
                            some (t3, s4, false, false)
                          else
                            match t with
                            | .nil =>
                              none
                            | .mk n4 t3 t4 =>
                              match t3 with
                              | .nil =>
                                match t2 with
                                | .nil =>
                                  none
                                | .mk n5 t5 t6 =>
                                  match t5 with
                                  | .nil =>
                                    bif (decide ((n4 : Int) = n5)) then
                                      (kinfolkref02_Leaf 0).bind fun t7 =>
                                      some (t7, s4, false, false)
                                    else
                                      bif decide ((0 : Int) ≤ 1) && decide ((1 : Int) ≤ (s4.size : Int)) && decide (((s4.size : Int) : Int) ≤ (s4.size : Int)) then
                                      bif b4 then
                                        some ((T_kinfolkref02_Event.mk n t t2), (s4.extract 1 ((s4.size : Int)).toNat), true, true)
                                      else
                                        bif b6 then
                                          some ((T_kinfolkref02_Event.mk n t t2), (s4.extract 1 ((s4.size : Int)).toNat), true, true)
                                        else
                                          some ((T_kinfolkref02_Event.mk n t t2), (s4.extract 1 ((s4.size : Int)).toNat), true, b2)
                                      else none
                                  | .mk n6 t7 t8 =>
                                    bif decide ((0 : Int) ≤ 1) && decide ((1 : Int) ≤ (s4.size : Int)) && decide (((s4.size : Int) : Int) ≤ (s4.size : Int)) then
                                    bif b4 then
                                      some ((T_kinfolkref02_Event.mk n t t2), (s4.extract 1 ((s4.size : Int)).toNat), true, true)
                                    else
                                      bif b6 then
                                        some ((T_kinfolkref02_Event.mk n t t2), (s4.extract 1 ((s4.size : Int)).toNat), true, true)
                                      else
                                        some ((T_kinfolkref02_Event.mk n t t2), (s4.extract 1 ((s4.size : Int)).toNat), true, b2)
                                    else none
                              | .mk n5 t5 t6 =>
                                bif decide ((0 : Int) ≤ 1) && decide ((1 : Int) ≤ (s4.size : Int)) && decide (((s4.size : Int) : Int) ≤ (s4.size : Int)) then
                                bif b4 then
                                  some ((T_kinfolkref02_Event.mk n t t2), (s4.extract 1 ((s4.size : Int)).toNat), true, true)
                                else
                                  bif b6 then
                                    some ((T_kinfolkref02_Event.mk n t t2), (s4.extract 1 ((s4.size : Int)).toNat), true, true)
                                  else
                                    some ((T_kinfolkref02_Event.mk n t t2), (s4.extract 1 ((s4.size : Int)).toNat), true, b2)
                                else none
                        else
                          match t with
                          | .nil =>
                            none
                          | .mk n3 t3 t4 =>
                            match t3 with
                            | .nil =>
                              match t2 with
                              | .nil =>
                                none
                              | .mk n4 t5 t6 =>
                                match t5 with
                                | .nil =>
                                  bif (decide ((n3 : Int) = n4)) then
                                    (kinfolkref02_Leaf 0).bind fun t7 =>
                                    some (t7, s4, false, false)
                                  else
                                    bif decide ((0 : Int) ≤ 1) && decide ((1 : Int) ≤ (s4.size : Int)) && decide (((s4.size : Int) : Int) ≤ (s4.size : Int)) then
                                    bif b4 then
                                      some ((T_kinfolkref02_Event.mk n t t2), (s4.extract 1 ((s4.size : Int)).toNat), true, true)
                                    else
                                      bif b6 then
                                        some ((T_kinfolkref02_Event.mk n t t2), (s4.extract 1 ((s4.size : Int)).toNat), true, true)
                                      else
                                        some ((T_kinfolkref02_Event.mk n t t2), (s4.extract 1 ((s4.size : Int)).toNat), true, b2)
                                    else none
                                | .mk n5 t7 t8 =>
                                  bif decide ((0 : Int) ≤ 1) && decide ((1 : Int) ≤ (s4.size : Int)) && decide (((s4.size : Int) : Int) ≤ (s4.size : Int)) then
                                  bif b4 then
                                    some ((T_kinfolkref02_Event.mk n t t2), (s4.extract 1 ((s4.size : Int)).toNat), true, true)
                                  else
                                    bif b6 then
                                      some ((T_kinfolkref02_Event.mk n t t2), (s4.extract 1 ((s4.size : Int)).toNat), true, true)
                                    else
                                      some ((T_kinfolkref02_Event.mk n t t2), (s4.extract 1 ((s4.size : Int)).toNat), true, b2)
                                  else none
                            | .mk n4 t5 t6 =>
                              bif decide ((0 : Int) ≤ 1) && decide ((1 : Int) ≤ (s4.size : Int)) && decide (((s4.size : Int) : Int) ≤ (s4.size : Int)) then
                              bif b4 then
                                some ((T_kinfolkref02_Event.mk n t t2), (s4.extract 1 ((s4.size : Int)).toNat), true, true)
                              else
                                bif b6 then
                                  some ((T_kinfolkref02_Event.mk n t t2), (s4.extract 1 ((s4.size : Int)).toNat), true, true)
                                else
                                  some ((T_kinfolkref02_Event.mk n t t2), (s4.extract 1 ((s4.size : Int)).toNat), true, b2)
                              else none
                      else
                        (kinfolkref02_Leaf 0).bind fun t3 =>
                        some (t3, s4, false, false)
                      else none
                  else
                    (kinfolkref02_Leaf 0).bind fun t3 =>
                    some (t3, s4, false, false)
                  else none
                else
                  (kinfolkref02_Leaf 0).bind fun t2 =>
                  some (t2, s3, false, false)
                else none
            else
              (kinfolkref02_Leaf 0).bind fun t2 =>
              some (t2, s3, false, false)
            else none
          else
            (kinfolkref02_Leaf 0).bind fun t =>
            some (t, s2, false, false)
          else none
      else
        (kinfolkref02_Leaf 0).bind fun t =>
        some (t, s2, false, false)
      else none
    else
      (kinfolkref02_number s).bind fun (n, s2, b, b2) =>
      (kinfolkref02_Leaf n).bind fun t =>
      some (t, s2, b, b2)
    else none
theorem kinfolkref02_parse_2_b_runs (N : Nat) (rec_kinfolkref02_parse_2 : ByteArray → Option (T_kinfolkref02_Event × ByteArray × Bool × Bool)) (hrec_kinfolkref02_parse_2 : ∀ s r_, rec_kinfolkref02_parse_2 s = some r_ → Runs Tryd.prog 115 [(.one (.pv (.str s)))] [] [] (kinfolkref02_parse_2_out s r_)) (s : ByteArray) (r_ : T_kinfolkref02_Event × ByteArray × Bool × Bool) (h : kinfolkref02_parse_2_b N rec_kinfolkref02_parse_2 s = some r_) : Runs Tryd.prog 115 [(.one (.pv (.str s)))] [] [] (kinfolkref02_parse_2_out s r_) := by
  unfold kinfolkref02_parse_2_b at h
  rcases cond_of h with ⟨h1, h⟩ | ⟨h1, h⟩
  · obtain ⟨⟨n, s2, b, b2⟩, h2, h⟩ := bind_of h
    obtain ⟨t, h3, h⟩ := bind_of h
    have h := some_of h
    subst h
    exact runs_of (C := cfg) (objs := []) (sc := [.br true, .br true, .res (kinfolkref02_number_out s (n, s2, b, b2)), .res (kinfolkref02_Leaf_out n t)]) (.k0 (an_ h1 (an_ (rfl : true = true) (an_ (kinfolkref02_number_runs s _ h2) (an_ (kinfolkref02_Leaf_runs n _ h3) trivial)))) (by kernel_rfl))
  · obtain ⟨h2, h⟩ := need_of h
    rcases cond_of h with ⟨h3, h⟩ | ⟨h3, h⟩
    · obtain ⟨h4, h⟩ := need_of h
      obtain ⟨⟨n, s2, b, b2⟩, h5, h⟩ := bind_of h
      rcases cond_of h with ⟨h6, h⟩ | ⟨h6, h⟩
      · rcases cond_of h with ⟨h7, h⟩ | ⟨h7, h⟩
        · obtain ⟨t, h8, h⟩ := bind_of h
          have h := some_of h
          subst h
          exact runs_of (C := cfg) (objs := []) (sc := [.br false, .br false, .res (kinfolkref02_number_out (s.extract 1 ((s.size : Int)).toNat) (n, s2, b, b2)), .br false, .br true, .br true, .res (kinfolkref02_Leaf_out 0 t)]) (.k0 (an_ h1 (an_ h2 (an_ (not_of2 h3) (an_ h4 (an_ (kinfolkref02_number_runs (s.extract 1 ((s.size : Int)).toNat) _ h5) (an_ (not_of2 h6) (an_ h7 (an_ (rfl : true = true) (an_ (kinfolkref02_Leaf_runs 0 _ h8) trivial))))))))) (by kernel_rfl))
        · obtain ⟨h8, h⟩ := need_of h
          rcases cond_of h with ⟨h9, h⟩ | ⟨h9, h⟩
          · obtain ⟨h10, h⟩ := need_of h
            obtain ⟨⟨t, s3, b3, b4⟩, h11, h⟩ := bind_of h
            rcases cond_of h with ⟨h12, h⟩ | ⟨h12, h⟩
            · rcases cond_of h with ⟨h13, h⟩ | ⟨h13, h⟩
              · obtain ⟨t2, h14, h⟩ := bind_of h
                have h := some_of h
                subst h
                exact runs_of (C := cfg) (objs := []) (sc := [.br false, .br false, .res (kinfolkref02_number_out (s.extract 1 ((s.size : Int)).toNat) (n, s2, b, b2)), .br false, .br false, .br false, .res (kinfolkref02_parse_2_out (s2.extract 1 ((s2.size : Int)).toNat) (t, s3, b3, b4)), .br false, .br true, .br true, .res (kinfolkref02_Leaf_out 0 t2)]) (.k0 (an_ h1 (an_ h2 (an_ (not_of2 h3) (an_ h4 (an_ (kinfolkref02_number_runs (s.extract 1 ((s.size : Int)).toNat) _ h5) (an_ (not_of2 h6) (an_ h7 (an_ h8 (an_ (not_of2 h9) (an_ h10 (an_ (hrec_kinfolkref02_parse_2 (s2.extract 1 ((s2.size : Int)).toNat) _ h11) (an_ (not_of2 h12) (an_ h13 (an_ (rfl : true = true) (an_ (kinfolkref02_Leaf_runs 0 _ h14) trivial))))))))))))))) (by kernel_rfl))
              · obtain ⟨h14, h⟩ := need_of h
                rcases cond_of h with ⟨h15, h⟩ | ⟨h15, h⟩
                · obtain ⟨h16, h⟩ := need_of h
                  obtain ⟨⟨t2, s4, b5, b6⟩, h17, h⟩ := bind_of h
                  rcases cond_of h with ⟨h18, h⟩ | ⟨h18, h⟩
                  · rcases cond_of h with ⟨h19, h⟩ | ⟨h19, h⟩
                    · obtain ⟨t3, h20, h⟩ := bind_of h
                      have h := some_of h
                      subst h
                      exact runs_of (C := cfg) (objs := []) (sc := [.br false, .br false, .res (kinfolkref02_number_out (s.extract 1 ((s.size : Int)).toNat) (n, s2, b, b2)), .br false, .br false, .br false, .res (kinfolkref02_parse_2_out (s2.extract 1 ((s2.size : Int)).toNat) (t, s3, b3, b4)), .br false, .br false, .br false, .res (kinfolkref02_parse_2_out (s3.extract 1 ((s3.size : Int)).toNat) (t2, s4, b5, b6)), .br false, .br true, .br true, .br true, .br true, .res (kinfolkref02_Leaf_out 0 t3)]) (.k1 (an_ h1 (an_ h2 (an_ (not_of2 h3) (an_ h4 (an_ (kinfolkref02_number_runs (s.extract 1 ((s.size : Int)).toNat) _ h5) (an_ (not_of2 h6) (an_ h7 (an_ h8 (an_ (not_of2 h9) (an_ h10 (an_ (hrec_kinfolkref02_parse_2 (s2.extract 1 ((s2.size : Int)).toNat) _ h11) (an_ (not_of2 h12) (an_ h13 (an_ h14 (an_ (not_of2 h15) (an_ h16 (an_ (hrec_kinfolkref02_parse_2 (s3.extract 1 ((s3.size : Int)).toNat) _ h17) (an_ (not_of2 h18) (an_ h19 (an_ (rfl : true = true) (an_ (rfl : true = true) (an_ (rfl : true = true) (an_ (kinfolkref02_Leaf_runs 0 _ h20) trivial))))))))))))))))))))))) (by kernel_rfl) (by kernel_rfl))
                    · obtain ⟨h20, h⟩ := need_of h
                      rcases cond_of h with ⟨h21, h⟩ | ⟨h21, h⟩
                      · obtain ⟨n2, h22, h⟩ := bind_of h
                        rcases cond_of h with ⟨h23, h⟩ | ⟨h23, h⟩
                        · obtain ⟨n3, h24, h⟩ := bind_of h
                          rcases cond_of h with ⟨h25, h⟩ | ⟨h25, h⟩
                          · obtain ⟨t3, h26, h⟩ := bind_of h
                            have h := some_of h
                            subst h
                            exact runs_of (C := cfg) (objs := []) (sc := [.br false, .br false, .res (kinfolkref02_number_out (s.extract 1 ((s.size : Int)).toNat) (n, s2, b, b2)), .br false, .br false, .br false, .res (kinfolkref02_parse_2_out (s2.extract 1 ((s2.size : Int)).toNat) (t, s3, b3, b4)), .br false, .br false, .br false, .res (kinfolkref02_parse_2_out (s3.extract 1 ((s3.size : Int)).toNat) (t2, s4, b5, b6)), .br false, .br false, .br false, .res (kinfolkref02_Min_out t n2), .br true, .res (kinfolkref02_Min_out t2 n3), .br true, .br true, .res (kinfolkref02_Leaf_out 0 t3)]) (.k1 (an_ h1 (an_ h2 (an_ (not_of2 h3) (an_ h4 (an_ (kinfolkref02_number_runs (s.extract 1 ((s.size : Int)).toNat) _ h5) (an_ (not_of2 h6) (an_ h7 (an_ h8 (an_ (not_of2 h9) (an_ h10 (an_ (hrec_kinfolkref02_parse_2 (s2.extract 1 ((s2.size : Int)).toNat) _ h11) (an_ (not_of2 h12) (an_ h13 (an_ h14 (an_ (not_of2 h15) (an_ h16 (an_ (hrec_kinfolkref02_parse_2 (s3.extract 1 ((s3.size : Int)).toNat) _ h17) (an_ (not_of2 h18) (an_ h19 (an_ h20 (an_ (not_of2 h21) (an_ (kinfolkref02_Min_runs N t _ h22) (an_ h23 (an_ (kinfolkref02_Min_runs N t2 _ h24) (an_ h25 (an_ (rfl : true = true) (an_ (kinfolkref02_Leaf_runs 0 _ h26) trivial))))))))))))))))))))))))))) (by kernel_rfl) (by kernel_rfl))
                          · cases t with
                            | nil =>
                              cases h
                            | mk n4 t3 t4 =>
                              cases t3 with
                              | nil =>
                                cases t2 with
                                | nil =>
                                  cases h
                                | mk n5 t5 t6 =>
                                  cases t5 with
                                  | nil =>
                                    rcases cond_of h with ⟨h26, h⟩ | ⟨h26, h⟩
                                    · obtain ⟨t7, h27, h⟩ := bind_of h
                                      have h := some_of h
                                      subst h
                                      exact runs_of (C := cfg) (objs := []) (sc := [.br false, .br false, .res (kinfolkref02_number_out (s.extract 1 ((s.size : Int)).toNat) (n, s2, b, b2)), .br false, .br false, .br false, .res (kinfolkref02_parse_2_out (s2.extract 1 ((s2.size : Int)).toNat) ((T_kinfolkref02_Event.mk n4 T_kinfolkref02_Event.nil t4), s3, b3, b4)), .br false, .br false, .br false, .res (kinfolkref02_parse_2_out (s3.extract 1 ((s3.size : Int)).toNat) ((T_kinfolkref02_Event.mk n5 T_kinfolkref02_Event.nil t6), s4, b5, b6)), .br false, .br false, .br false, .res (kinfolkref02_Min_out (T_kinfolkref02_Event.mk n4 T_kinfolkref02_Event.nil t4) n2), .br true, .res (kinfolkref02_Min_out (T_kinfolkref02_Event.mk n5 T_kinfolkref02_Event.nil t6) n3), .br false, .br true, .br true, .br true, .res (kinfolkref02_Leaf_out 0 t7)]) (.k0 (an_ h1 (an_ h2 (an_ (not_of2 h3) (an_ h4 (an_ (kinfolkref02_number_runs (s.extract 1 ((s.size : Int)).toNat) _ h5) (an_ (not_of2 h6) (an_ h7 (an_ h8 (an_ (not_of2 h9) (an_ h10 (an_ (hrec_kinfolkref02_parse_2 (s2.extract 1 ((s2.size : Int)).toNat) _ h11) (an_ (not_of2 h12) (an_ h13 (an_ h14 (an_ (not_of2 h15) (an_ h16 (an_ (hrec_kinfolkref02_parse_2 (s3.extract 1 ((s3.size : Int)).toNat) _ h17) (an_ (not_of2 h18) (an_ h19 (an_ h20 (an_ (not_of2 h21) (an_ (kinfolkref02_Min_runs N (T_kinfolkref02_Event.mk n4 T_kinfolkref02_Event.nil t4) _ h22) (an_ h23 (an_ (kinfolkref02_Min_runs N (T_kinfolkref02_Event.mk n5 T_kinfolkref02_Event.nil t6) _ h24) (an_ h25 (an_ (rfl : true = true) (an_ (rfl : true = true) (an_ h26 (an_ (kinfolkref02_Leaf_runs 0 _ h27) trivial))))))))))))))))))))))))))))) (by kernel_rfl))
                                    · obtain ⟨h27, h⟩ := need_of h
                                      rcases cond_of h with ⟨h28, h⟩ | ⟨h28, h⟩
                                      · have h := some_of h
                                        subst h
                                        have e_ : Runs Tryd.prog 115 [(.one (.pv (.str s)))] [] [] ([(.one (.pv (.imm [(.int .u64 n), (T_kinfolkref02_Event.pv (T_kinfolkref02_Event.mk n4 T_kinfolkref02_Event.nil t4)), (T_kinfolkref02_Event.pv (T_kinfolkref02_Event.mk n5 T_kinfolkref02_Event.nil t6))] 0))), (.one (.pv (.str (s4.extract 1 ((s4.size : Int)).toNat)))), (.one (.pv (.bool true))), (.one (.pv (.bool true)))], [], []) := runs_of (C := cfg) (objs := []) (sc := [.br false, .br false, .res (kinfolkref02_number_out (s.extract 1 ((s.size : Int)).toNat) (n, s2, b, b2)), .br false, .br false, .br false, .res (kinfolkref02_parse_2_out (s2.extract 1 ((s2.size : Int)).toNat) ((T_kinfolkref02_Event.mk n4 T_kinfolkref02_Event.nil t4), s3, b3, b4)), .br false, .br false, .br false, .res (kinfolkref02_parse_2_out (s3.extract 1 ((s3.size : Int)).toNat) ((T_kinfolkref02_Event.mk n5 T_kinfolkref02_Event.nil t6), s4, b5, b6)), .br false, .br false, .br false, .res (kinfolkref02_Min_out (T_kinfolkref02_Event.mk n4 T_kinfolkref02_Event.nil t4) n2), .br true, .res (kinfolkref02_Min_out (T_kinfolkref02_Event.mk n5 T_kinfolkref02_Event.nil t6) n3), .br false, .br true, .br true, .br false, .br true, .br true]) (.k0 (an_ h1 (an_ h2 (an_ (not_of2 h3) (an_ h4 (an_ (kinfolkref02_number_runs (s.extract 1 ((s.size : Int)).toNat) _ h5) (an_ (not_of2 h6) (an_ h7 (an_ h8 (an_ (not_of2 h9) (an_ h10 (an_ (hrec_kinfolkref02_parse_2 (s2.extract 1 ((s2.size : Int)).toNat) _ h11) (an_ (not_of2 h12) (an_ h13 (an_ h14 (an_ (not_of2 h15) (an_ h16 (an_ (hrec_kinfolkref02_parse_2 (s3.extract 1 ((s3.size : Int)).toNat) _ h17) (an_ (not_of2 h18) (an_ h19 (an_ h20 (an_ (not_of2 h21) (an_ (kinfolkref02_Min_runs N (T_kinfolkref02_Event.mk n4 T_kinfolkref02_Event.nil t4) _ h22) (an_ h23 (an_ (kinfolkref02_Min_runs N (T_kinfolkref02_Event.mk n5 T_kinfolkref02_Event.nil t6) _ h24) (an_ h25 (an_ (rfl : true = true) (an_ (rfl : true = true) (an_ h26 (an_ h27 (an_ h28 (an_ (rfl : true = true) trivial))))))))))))))))))))))))))))))) (by kernel_rfl))
                                        exact e_.out ⟨.eq rfl, .eq rfl, .eq rfl, .eq rfl, trivial⟩ trivial trivial rfl
                                      · rcases cond_of h with ⟨h29, h⟩ | ⟨h29, h⟩
                                        · have h := some_of h
                                          subst h
                                          have e_ : Runs Tryd.prog 115 [(.one (.pv (.str s)))] [] [] ([(.one (.pv (.imm [(.int .u64 n), (T_kinfolkref02_Event.pv (T_kinfolkref02_Event.mk n4 T_kinfolkref02_Event.nil t4)), (T_kinfolkref02_Event.pv (T_kinfolkref02_Event.mk n5 T_kinfolkref02_Event.nil t6))] 0))), (.one (.pv (.str (s4.extract 1 ((s4.size : Int)).toNat)))), (.one (.pv (.bool true))), (.one (.pv (.bool true)))], [], []) := runs_of (C := cfg) (objs := []) (sc := [.br false, .br false, .res (kinfolkref02_number_out (s.extract 1 ((s.size : Int)).toNat) (n, s2, b, b2)), .br false, .br false, .br false, .res (kinfolkref02_parse_2_out (s2.extract 1 ((s2.size : Int)).toNat) ((T_kinfolkref02_Event.mk n4 T_kinfolkref02_Event.nil t4), s3, b3, b4)), .br false, .br false, .br false, .res (kinfolkref02_parse_2_out (s3.extract 1 ((s3.size : Int)).toNat) ((T_kinfolkref02_Event.mk n5 T_kinfolkref02_Event.nil t6), s4, b5, b6)), .br false, .br false, .br false, .res (kinfolkref02_Min_out (T_kinfolkref02_Event.mk n4 T_kinfolkref02_Event.nil t4) n2), .br true, .res (kinfolkref02_Min_out (T_kinfolkref02_Event.mk n5 T_kinfolkref02_Event.nil t6) n3), .br false, .br true, .br true, .br false, .br false, .br true]) (.k0 (an_ h1 (an_ h2 (an_ (not_of2 h3) (an_ h4 (an_ (kinfolkref02_number_runs (s.extract 1 ((s.size : Int)).toNat) _ h5) (an_ (not_of2 h6) (an_ h7 (an_ h8 (an_ (not_of2 h9) (an_ h10 (an_ (hrec_kinfolkref02_parse_2 (s2.extract 1 ((s2.size : Int)).toNat) _ h11) (an_ (not_of2 h12) (an_ h13 (an_ h14 (an_ (not_of2 h15) (an_ h16 (an_ (hrec_kinfolkref02_parse_2 (s3.extract 1 ((s3.size : Int)).toNat) _ h17) (an_ (not_of2 h18) (an_ h19 (an_ h20 (an_ (not_of2 h21) (an_ (kinfolkref02_Min_runs N (T_kinfolkref02_Event.mk n4 T_kinfolkref02_Event.nil t4) _ h22) (an_ h23 (an_ (kinfolkref02_Min_runs N (T_kinfolkref02_Event.mk n5 T_kinfolkref02_Event.nil t6) _ h24) (an_ h25 (an_ (rfl : true = true) (an_ (rfl : true = true) (an_ h26 (an_ h27 (an_ h28 (an_ h29 trivial))))))))))))))))))))))))))))))) (by kernel_rfl))
                                          exact e_.out ⟨.eq rfl, .eq rfl, .eq rfl, .eq rfl, trivial⟩ trivial trivial rfl
                                        · have h := some_of h
                                          subst h
                                          have e_ : Runs Tryd.prog 115 [(.one (.pv (.str s)))] [] [] ([(.one (.pv (.imm [(.int .u64 n), (T_kinfolkref02_Event.pv (T_kinfolkref02_Event.mk n4 T_kinfolkref02_Event.nil t4)), (T_kinfolkref02_Event.pv (T_kinfolkref02_Event.mk n5 T_kinfolkref02_Event.nil t6))] 0))), (.one (.pv (.str (s4.extract 1 ((s4.size : Int)).toNat)))), (.one (.pv (.bool true))), (.one (.pv (.bool b2)))], [], []) := runs_of (C := cfg) (objs := []) (sc := [.br false, .br false, .res (kinfolkref02_number_out (s.extract 1 ((s.size : Int)).toNat) (n, s2, b, b2)), .br false, .br false, .br false, .res (kinfolkref02_parse_2_out (s2.extract 1 ((s2.size : Int)).toNat) ((T_kinfolkref02_Event.mk n4 T_kinfolkref02_Event.nil t4), s3, b3, b4)), .br false, .br false, .br false, .res (kinfolkref02_parse_2_out (s3.extract 1 ((s3.size : Int)).toNat) ((T_kinfolkref02_Event.mk n5 T_kinfolkref02_Event.nil t6), s4, b5, b6)), .br false, .br false, .br false, .res (kinfolkref02_Min_out (T_kinfolkref02_Event.mk n4 T_kinfolkref02_Event.nil t4) n2), .br true, .res (kinfolkref02_Min_out (T_kinfolkref02_Event.mk n5 T_kinfolkref02_Event.nil t6) n3), .br false, .br true, .br true, .br false, .br false, .br false]) (.k0 (an_ h1 (an_ h2 (an_ (not_of2 h3) (an_ h4 (an_ (kinfolkref02_number_runs (s.extract 1 ((s.size : Int)).toNat) _ h5) (an_ (not_of2 h6) (an_ h7 (an_ h8 (an_ (not_of2 h9) (an_ h10 (an_ (hrec_kinfolkref02_parse_2 (s2.extract 1 ((s2.size : Int)).toNat) _ h11) (an_ (not_of2 h12) (an_ h13 (an_ h14 (an_ (not_of2 h15) (an_ h16 (an_ (hrec_kinfolkref02_parse_2 (s3.extract 1 ((s3.size : Int)).toNat) _ h17) (an_ (not_of2 h18) (an_ h19 (an_ h20 (an_ (not_of2 h21) (an_ (kinfolkref02_Min_runs N (T_kinfolkref02_Event.mk n4 T_kinfolkref02_Event.nil t4) _ h22) (an_ h23 (an_ (kinfolkref02_Min_runs N (T_kinfolkref02_Event.mk n5 T_kinfolkref02_Event.nil t6) _ h24) (an_ h25 (an_ (rfl : true = true) (an_ (rfl : true = true) (an_ h26 (an_ h27 (an_ h28 (an_ h29 trivial))))))))))))))))))))))))))))))) (by kernel_rfl))
                                          exact e_.out ⟨.eq rfl, .eq rfl, .eq rfl, .eq rfl, trivial⟩ trivial trivial rfl
                                  | mk n6 t7 t8 =>
                                    obtain ⟨h26, h⟩ := need_of h
                                    rcases cond_of h with ⟨h27, h⟩ | ⟨h27, h⟩
                                    · have h := some_of h
                                      subst h
                                      have e_ : Runs Tryd.prog 115 [(.one (.pv (.str s)))] [] [] ([(.one (.pv (.imm [(.int .u64 n), (T_kinfolkref02_Event.pv (T_kinfolkref02_Event.mk n4 T_kinfolkref02_Event.nil t4)), (T_kinfolkref02_Event.pv (T_kinfolkref02_Event.mk n5 (T_kinfolkref02_Event.mk n6 t7 t8) t6))] 0))), (.one (.pv (.str (s4.extract 1 ((s4.size : Int)).toNat)))), (.one (.pv (.bool true))), (.one (.pv (.bool true)))], [], []) := runs_of (C := cfg) (objs := []) (sc := [.br false, .br false, .res (kinfolkref02_number_out (s.extract 1 ((s.size : Int)).toNat) (n, s2, b, b2)), .br false, .br false, .br false, .res (kinfolkref02_parse_2_out (s2.extract 1 ((s2.size : Int)).toNat) ((T_kinfolkref02_Event.mk n4 T_kinfolkref02_Event.nil t4), s3, b3, b4)), .br false, .br false, .br false, .res (kinfolkref02_parse_2_out (s3.extract 1 ((s3.size : Int)).toNat) ((T_kinfolkref02_Event.mk n5 (T_kinfolkref02_Event.mk n6 t7 t8) t6), s4, b5, b6)), .br false, .br false, .br false, .res (kinfolkref02_Min_out (T_kinfolkref02_Event.mk n4 T_kinfolkref02_Event.nil t4) n2), .br true, .res (kinfolkref02_Min_out (T_kinfolkref02_Event.mk n5 (T_kinfolkref02_Event.mk n6 t7 t8) t6) n3), .br false, .br true, .br false, .br false, .br true, .br true]) (.k1 (an_ h1 (an_ h2 (an_ (not_of2 h3) (an_ h4 (an_ (kinfolkref02_number_runs (s.extract 1 ((s.size : Int)).toNat) _ h5) (an_ (not_of2 h6) (an_ h7 (an_ h8 (an_ (not_of2 h9) (an_ h10 (an_ (hrec_kinfolkref02_parse_2 (s2.extract 1 ((s2.size : Int)).toNat) _ h11) (an_ (not_of2 h12) (an_ h13 (an_ h14 (an_ (not_of2 h15) (an_ h16 (an_ (hrec_kinfolkref02_parse_2 (s3.extract 1 ((s3.size : Int)).toNat) _ h17) (an_ (not_of2 h18) (an_ h19 (an_ h20 (an_ (not_of2 h21) (an_ (kinfolkref02_Min_runs N (T_kinfolkref02_Event.mk n4 T_kinfolkref02_Event.nil t4) _ h22) (an_ h23 (an_ (kinfolkref02_Min_runs N (T_kinfolkref02_Event.mk n5 (T_kinfolkref02_Event.mk n6 t7 t8) t6) _ h24) (an_ h25 (an_ (rfl : true = true) (an_ (rfl : false = false) (an_ (rfl : false = false) (an_ h26 (an_ h27 (an_ (rfl : true = true) trivial))))))))))))))))))))))))))))))) (by kernel_rfl) (by kernel_rfl))
                                      exact e_.out ⟨.eq rfl, .eq rfl, .eq rfl, .eq rfl, trivial⟩ trivial trivial rfl
                                    · rcases cond_of h with ⟨h28, h⟩ | ⟨h28, h⟩
                                      · have h := some_of h
                                        subst h
                                        have e_ : Runs Tryd.prog 115 [(.one (.pv (.str s)))] [] [] ([(.one (.pv (.imm [(.int .u64 n), (T_kinfolkref02_Event.pv (T_kinfolkref02_Event.mk n4 T_kinfolkref02_Event.nil t4)), (T_kinfolkref02_Event.pv (T_kinfolkref02_Event.mk n5 (T_kinfolkref02_Event.mk n6 t7 t8) t6))] 0))), (.one (.pv (.str (s4.extract 1 ((s4.size : Int)).toNat)))), (.one (.pv (.bool true))), (.one (.pv (.bool true)))], [], []) := runs_of (C := cfg) (objs := []) (sc := [.br false, .br false, .res (kinfolkref02_number_out (s.extract 1 ((s.size : Int)).toNat) (n, s2, b, b2)), .br false, .br false, .br false, .res (kinfolkref02_parse_2_out (s2.extract 1 ((s2.size : Int)).toNat) ((T_kinfolkref02_Event.mk n4 T_kinfolkref02_Event.nil t4), s3, b3, b4)), .br false, .br false, .br false, .res (kinfolkref02_parse_2_out (s3.extract 1 ((s3.size : Int)).toNat) ((T_kinfolkref02_Event.mk n5 (T_kinfolkref02_Event.mk n6 t7 t8) t6), s4, b5, b6)), .br false, .br false, .br false, .res (kinfolkref02_Min_out (T_kinfolkref02_Event.mk n4 T_kinfolkref02_Event.nil t4) n2), .br true, .res (kinfolkref02_Min_out (T_kinfolkref02_Event.mk n5 (T_kinfolkref02_Event.mk n6 t7 t8) t6) n3), .br false, .br true, .br false, .br false, .br false, .br true]) (.k1 (an_ h1 (an_ h2 (an_ (not_of2 h3) (an_ h4 (an_ (kinfolkref02_number_runs (s.extract 1 ((s.size : Int)).toNat) _ h5) (an_ (not_of2 h6) (an_ h7 (an_ h8 (an_ (not_of2 h9) (an_ h10 (an_ (hrec_kinfolkref02_parse_2 (s2.extract 1 ((s2.size : Int)).toNat) _ h11) (an_ (not_of2 h12) (an_ h13 (an_ h14 (an_ (not_of2 h15) (an_ h16 (an_ (hrec_kinfolkref02_parse_2 (s3.extract 1 ((s3.size : Int)).toNat) _ h17) (an_ (not_of2 h18) (an_ h19 (an_ h20 (an_ (not_of2 h21) (an_ (kinfolkref02_Min_runs N (T_kinfolkref02_Event.mk n4 T_kinfolkref02_Event.nil t4) _ h22) (an_ h23 (an_ (kinfolkref02_Min_runs N (T_kinfolkref02_Event.mk n5 (T_kinfolkref02_Event.mk n6 t7 t8) t6) _ h24) (an_ h25 (an_ (rfl : true = true) (an_ (rfl : false = false) (an_ (rfl : false = false) (an_ h26 (an_ h27 (an_ h28 trivial))))))))))))))))))))))))))))))) (by kernel_rfl) (by kernel_rfl))
                                        exact e_.out ⟨.eq rfl, .eq rfl, .eq rfl, .eq rfl, trivial⟩ trivial trivial rfl
                                      · have h := some_of h
                                        subst h
                                        have e_ : Runs Tryd.prog 115 [(.one (.pv (.str s)))] [] [] ([(.one (.pv (.imm [(.int .u64 n), (T_kinfolkref02_Event.pv (T_kinfolkref02_Event.mk n4 T_kinfolkref02_Event.nil t4)), (T_kinfolkref02_Event.pv (T_kinfolkref02_Event.mk n5 (T_kinfolkref02_Event.mk n6 t7 t8) t6))] 0))), (.one (.pv (.str (s4.extract 1 ((s4.size : Int)).toNat)))), (.one (.pv (.bool true))), (.one (.pv (.bool b2)))], [], []) := runs_of (C := cfg) (objs := []) (sc := [.br false, .br false, .res (kinfolkref02_number_out (s.extract 1 ((s.size : Int)).toNat) (n, s2, b, b2)), .br false, .br false, .br false, .res (kinfolkref02_parse_2_out (s2.extract 1 ((s2.size : Int)).toNat) ((T_kinfolkref02_Event.mk n4 T_kinfolkref02_Event.nil t4), s3, b3, b4)), .br false, .br false, .br false, .res (kinfolkref02_parse_2_out (s3.extract 1 ((s3.size : Int)).toNat) ((T_kinfolkref02_Event.mk n5 (T_kinfolkref02_Event.mk n6 t7 t8) t6), s4, b5, b6)), .br false, .br false, .br false, .res (kinfolkref02_Min_out (T_kinfolkref02_Event.mk n4 T_kinfolkref02_Event.nil t4) n2), .br true, .res (kinfolkref02_Min_out (T_kinfolkref02_Event.mk n5 (T_kinfolkref02_Event.mk n6 t7 t8) t6) n3), .br false, .br true, .br false, .br false, .br false, .br false]) (.k1 (an_ h1 (an_ h2 (an_ (not_of2 h3) (an_ h4 (an_ (kinfolkref02_number_runs (s.extract 1 ((s.size : Int)).toNat) _ h5) (an_ (not_of2 h6) (an_ h7 (an_ h8 (an_ (not_of2 h9) (an_ h10 (an_ (hrec_kinfolkref02_parse_2 (s2.extract 1 ((s2.size : Int)).toNat) _ h11) (an_ (not_of2 h12) (an_ h13 (an_ h14 (an_ (not_of2 h15) (an_ h16 (an_ (hrec_kinfolkref02_parse_2 (s3.extract 1 ((s3.size : Int)).toNat) _ h17) (an_ (not_of2 h18) (an_ h19 (an_ h20 (an_ (not_of2 h21) (an_ (kinfolkref02_Min_runs N (T_kinfolkref02_Event.mk n4 T_kinfolkref02_Event.nil t4) _ h22) (an_ h23 (an_ (kinfolkref02_Min_runs N (T_kinfolkref02_Event.mk n5 (T_kinfolkref02_Event.mk n6 t7 t8) t6) _ h24) (an_ h25 (an_ (rfl : true = true) (an_ (rfl : false = false) (an_ (rfl : false = false) (an_ h26 (an_ h27 (an_ h28 trivial))))))))))))))))))))))))))))))) (by kernel_rfl) (by kernel_rfl))
                                        exact e_.out ⟨.eq rfl, .eq rfl, .eq rfl, .eq rfl, trivial⟩ trivial trivial rfl
                              | mk n5 t5 t6 =>
                                obtain ⟨h26, h⟩ := need_of h
                                rcases cond_of h with ⟨h27, h⟩ | ⟨h27, h⟩
                                · have h := some_of h
                                  subst h
                                  have e_ : Runs Tryd.prog 115 [(.one (.pv (.str s)))] [] [] ([(.one (.pv (.imm [(.int .u64 n), (T_kinfolkref02_Event.pv (T_kinfolkref02_Event.mk n4 (T_kinfolkref02_Event.mk n5 t5 t6) t4)), (T_kinfolkref02_Event.pv t2)] 0))), (.one (.pv (.str (s4.extract 1 ((s4.size : Int)).toNat)))), (.one (.pv (.bool true))), (.one (.pv (.bool true)))], [], []) := runs_of (C := cfg) (objs := []) (sc := [.br false, .br false, .res (kinfolkref02_number_out (s.extract 1 ((s.size : Int)).toNat) (n, s2, b, b2)), .br false, .br false, .br false, .res (kinfolkref02_parse_2_out (s2.extract 1 ((s2.size : Int)).toNat) ((T_kinfolkref02_Event.mk n4 (T_kinfolkref02_Event.mk n5 t5 t6) t4), s3, b3, b4)), .br false, .br false, .br false, .res (kinfolkref02_parse_2_out (s3.extract 1 ((s3.size : Int)).toNat) (t2, s4, b5, b6)), .br false, .br false, .br false, .res (kinfolkref02_Min_out (T_kinfolkref02_Event.mk n4 (T_kinfolkref02_Event.mk n5 t5 t6) t4) n2), .br true, .res (kinfolkref02_Min_out t2 n3), .br false, .br false, .br false, .br false, .br true, .br true]) (.k1 (an_ h1 (an_ h2 (an_ (not_of2 h3) (an_ h4 (an_ (kinfolkref02_number_runs (s.extract 1 ((s.size : Int)).toNat) _ h5) (an_ (not_of2 h6) (an_ h7 (an_ h8 (an_ (not_of2 h9) (an_ h10 (an_ (hrec_kinfolkref02_parse_2 (s2.extract 1 ((s2.size : Int)).toNat) _ h11) (an_ (not_of2 h12) (an_ h13 (an_ h14 (an_ (not_of2 h15) (an_ h16 (an_ (hrec_kinfolkref02_parse_2 (s3.extract 1 ((s3.size : Int)).toNat) _ h17) (an_ (not_of2 h18) (an_ h19 (an_ h20 (an_ (not_of2 h21) (an_ (kinfolkref02_Min_runs N (T_kinfolkref02_Event.mk n4 (T_kinfolkref02_Event.mk n5 t5 t6) t4) _ h22) (an_ h23 (an_ (kinfolkref02_Min_runs N t2 _ h24) (an_ h25 (an_ (rfl : false = false) (an_ (rfl : false = false) (an_ (rfl : false = false) (an_ h26 (an_ h27 (an_ (rfl : true = true) trivial))))))))))))))))))))))))))))))) (by kernel_rfl) (by kernel_rfl))
                                  exact e_.out ⟨.eq rfl, .eq rfl, .eq rfl, .eq rfl, trivial⟩ trivial trivial rfl
                                · rcases cond_of h with ⟨h28, h⟩ | ⟨h28, h⟩
                                  · have h := some_of h
                                    subst h
                                    have e_ : Runs Tryd.prog 115 [(.one (.pv (.str s)))] [] [] ([(.one (.pv (.imm [(.int .u64 n), (T_kinfolkref02_Event.pv (T_kinfolkref02_Event.mk n4 (T_kinfolkref02_Event.mk n5 t5 t6) t4)), (T_kinfolkref02_Event.pv t2)] 0))), (.one (.pv (.str (s4.extract 1 ((s4.size : Int)).toNat)))), (.one (.pv (.bool true))), (.one (.pv (.bool true)))], [], []) := runs_of (C := cfg) (objs := []) (sc := [.br false, .br false, .res (kinfolkref02_number_out (s.extract 1 ((s.size : Int)).toNat) (n, s2, b, b2)), .br false, .br false, .br false, .res (kinfolkref02_parse_2_out (s2.extract 1 ((s2.size : Int)).toNat) ((T_kinfolkref02_Event.mk n4 (T_kinfolkref02_Event.mk n5 t5 t6) t4), s3, b3, b4)), .br false, .br false, .br false, .res (kinfolkref02_parse_2_out (s3.extract 1 ((s3.size : Int)).toNat) (t2, s4, b5, b6)), .br false, .br false, .br false, .res (kinfolkref02_Min_out (T_kinfolkref02_Event.mk n4 (T_kinfolkref02_Event.mk n5 t5 t6) t4) n2), .br true, .res (kinfolkref02_Min_out t2 n3), .br false, .br false, .br false, .br false, .br false, .br true]) (.k1 (an_ h1 (an_ h2 (an_ (not_of2 h3) (an_ h4 (an_ (kinfolkref02_number_runs (s.extract 1 ((s.size : Int)).toNat) _ h5) (an_ (not_of2 h6) (an_ h7 (an_ h8 (an_ (not_of2 h9) (an_ h10 (an_ (hrec_kinfolkref02_parse_2 (s2.extract 1 ((s2.size : Int)).toNat) _ h11) (an_ (not_of2 h12) (an_ h13 (an_ h14 (an_ (not_of2 h15) (an_ h16 (an_ (hrec_kinfolkref02_parse_2 (s3.extract 1 ((s3.size : Int)).toNat) _ h17) (an_ (not_of2 h18) (an_ h19 (an_ h20 (an_ (not_of2 h21) (an_ (kinfolkref02_Min_runs N (T_kinfolkref02_Event.mk n4 (T_kinfolkref02_Event.mk n5 t5 t6) t4) _ h22) (an_ h23 (an_ (kinfolkref02_Min_runs N t2 _ h24) (an_ h25 (an_ (rfl : false = false) (an_ (rfl : false = false) (an_ (rfl : false = false) (an_ h26 (an_ h27 (an_ h28 trivial))))))))))))))))))))))))))))))) (by kernel_rfl) (by kernel_rfl))
                                    exact e_.out ⟨.eq rfl, .eq rfl, .eq rfl, .eq rfl, trivial⟩ trivial trivial rfl
                                  · have h := some_of h
                                    subst h
                                    have e_ : Runs Tryd.prog 115 [(.one (.pv (.str s)))] [] [] ([(.one (.pv (.imm [(.int .u64 n), (T_kinfolkref02_Event.pv (T_kinfolkref02_Event.mk n4 (T_kinfolkref02_Event.mk n5 t5 t6) t4)), (T_kinfolkref02_Event.pv t2)] 0))), (.one (.pv (.str (s4.extract 1 ((s4.size : Int)).toNat)))), (.one (.pv (.bool true))), (.one (.pv (.bool b2)))], [], []) := runs_of (C := cfg) (objs := []) (sc := [.br false, .br false, .res (kinfolkref02_number_out (s.extract 1 ((s.size : Int)).toNat) (n, s2, b, b2)), .br false, .br false, .br false, .res (kinfolkref02_parse_2_out (s2.extract 1 ((s2.size : Int)).toNat) ((T_kinfolkref02_Event.mk n4 (T_kinfolkref02_Event.mk n5 t5 t6) t4), s3, b3, b4)), .br false, .br false, .br false, .res (kinfolkref02_parse_2_out (s3.extract 1 ((s3.size : Int)).toNat) (t2, s4, b5, b6)), .br false, .br false, .br false, .res (kinfolkref02_Min_out (T_kinfolkref02_Event.mk n4 (T_kinfolkref02_Event.mk n5 t5 t6) t4) n2), .br true, .res (kinfolkref02_Min_out t2 n3), .br false, .br false, .br false, .br false, .br false, .br false]) (.k1 (an_ h1 (an_ h2 (an_ (not_of2 h3) (an_ h4 (an_ (kinfolkref02_number_runs (s.extract 1 ((s.size : Int)).toNat) _ h5) (an_ (not_of2 h6) (an_ h7 (an_ h8 (an_ (not_of2 h9) (an_ h10 (an_ (hrec_kinfolkref02_parse_2 (s2.extract 1 ((s2.size : Int)).toNat) _ h11) (an_ (not_of2 h12) (an_ h13 (an_ h14 (an_ (not_of2 h15) (an_ h16 (an_ (hrec_kinfolkref02_parse_2 (s3.extract 1 ((s3.size : Int)).toNat) _ h17) (an_ (not_of2 h18) (an_ h19 (an_ h20 (an_ (not_of2 h21) (an_ (kinfolkref02_Min_runs N (T_kinfolkref02_Event.mk n4 (T_kinfolkref02_Event.mk n5 t5 t6) t4) _ h22) (an_ h23 (an_ (kinfolkref02_Min_runs N t2 _ h24) (an_ h25 (an_ (rfl : false = false) (an_ (rfl : false = false) (an_ (rfl : false = false) (an_ h26 (an_ h27 (an_ h28 trivial))))))))))))))))))))))))))))))) (by kernel_rfl) (by kernel_rfl))
                                    exact e_.out ⟨.eq rfl, .eq rfl, .eq rfl, .eq rfl, trivial⟩ trivial trivial rfl
                        · cases t with
                          | nil =>
                            cases h
                          | mk n3 t3 t4 =>
                            cases t3 with
                            | nil =>
                              cases t2 with
                              | nil =>
                                cases h
                              | mk n4 t5 t6 =>
                                cases t5 with
                                | nil =>
                                  rcases cond_of h with ⟨h24, h⟩ | ⟨h24, h⟩
                                  · obtain ⟨t7, h25, h⟩ := bind_of h
                                    have h := some_of h
                                    subst h
                                    exact runs_of (C := cfg) (objs := []) (sc := [.br false, .br false, .res (kinfolkref02_number_out (s.extract 1 ((s.size : Int)).toNat) (n, s2, b, b2)), .br false, .br false, .br false, .res (kinfolkref02_parse_2_out (s2.extract 1 ((s2.size : Int)).toNat) ((T_kinfolkref02_Event.mk n3 T_kinfolkref02_Event.nil t4), s3, b3, b4)), .br false, .br false, .br false, .res (kinfolkref02_parse_2_out (s3.extract 1 ((s3.size : Int)).toNat) ((T_kinfolkref02_Event.mk n4 T_kinfolkref02_Event.nil t6), s4, b5, b6)), .br false, .br false, .br false, .res (kinfolkref02_Min_out (T_kinfolkref02_Event.mk n3 T_kinfolkref02_Event.nil t4) n2), .br false, .br false, .br true, .br true, .br true, .res (kinfolkref02_Leaf_out 0 t7)]) (.k0 (an_ h1 (an_ h2 (an_ (not_of2 h3) (an_ h4 (an_ (kinfolkref02_number_runs (s.extract 1 ((s.size : Int)).toNat) _ h5) (an_ (not_of2 h6) (an_ h7 (an_ h8 (an_ (not_of2 h9) (an_ h10 (an_ (hrec_kinfolkref02_parse_2 (s2.extract 1 ((s2.size : Int)).toNat) _ h11) (an_ (not_of2 h12) (an_ h13 (an_ h14 (an_ (not_of2 h15) (an_ h16 (an_ (hrec_kinfolkref02_parse_2 (s3.extract 1 ((s3.size : Int)).toNat) _ h17) (an_ (not_of2 h18) (an_ h19 (an_ h20 (an_ (not_of2 h21) (an_ (kinfolkref02_Min_runs N (T_kinfolkref02_Event.mk n3 T_kinfolkref02_Event.nil t4) _ h22) (an_ h23 (an_ (rfl : false = false) (an_ (rfl : true = true) (an_ (rfl : true = true) (an_ h24 (an_ (kinfolkref02_Leaf_runs 0 _ h25) trivial)))))))))))))))))))))))))))) (by kernel_rfl))
                                  · obtain ⟨h25, h⟩ := need_of h
                                    rcases cond_of h with ⟨h26, h⟩ | ⟨h26, h⟩
                                    · have h := some_of h
                                      subst h
                                      have e_ : Runs Tryd.prog 115 [(.one (.pv (.str s)))] [] [] ([(.one (.pv (.imm [(.int .u64 n), (T_kinfolkref02_Event.pv (T_kinfolkref02_Event.mk n3 T_kinfolkref02_Event.nil t4)), (T_kinfolkref02_Event.pv (T_kinfolkref02_Event.mk n4 T_kinfolkref02_Event.nil t6))] 0))), (.one (.pv (.str (s4.extract 1 ((s4.size : Int)).toNat)))), (.one (.pv (.bool true))), (.one (.pv (.bool true)))], [], []) := runs_of (C := cfg) (objs := []) (sc := [.br false, .br false, .res (kinfolkref02_number_out (s.extract 1 ((s.size : Int)).toNat) (n, s2, b, b2)), .br false, .br false, .br false, .res (kinfolkref02_parse_2_out (s2.extract 1 ((s2.size : Int)).toNat) ((T_kinfolkref02_Event.mk n3 T_kinfolkref02_Event.nil t4), s3, b3, b4)), .br false, .br false, .br false, .res (kinfolkref02_parse_2_out (s3.extract 1 ((s3.size : Int)).toNat) ((T_kinfolkref02_Event.mk n4 T_kinfolkref02_Event.nil t6), s4, b5, b6)), .br false, .br false, .br false, .res (kinfolkref02_Min_out (T_kinfolkref02_Event.mk n3 T_kinfolkref02_Event.nil t4) n2), .br false, .br false, .br true, .br true, .br false, .br true, .br true]) (.k0 (an_ h1 (an_ h2 (an_ (not_of2 h3) (an_ h4 (an_ (kinfolkref02_number_runs (s.extract 1 ((s.size : Int)).toNat) _ h5) (an_ (not_of2 h6) (an_ h7 (an_ h8 (an_ (not_of2 h9) (an_ h10 (an_ (hrec_kinfolkref02_parse_2 (s2.extract 1 ((s2.size : Int)).toNat) _ h11) (an_ (not_of2 h12) (an_ h13 (an_ h14 (an_ (not_of2 h15) (an_ h16 (an_ (hrec_kinfolkref02_parse_2 (s3.extract 1 ((s3.size : Int)).toNat) _ h17) (an_ (not_of2 h18) (an_ h19 (an_ h20 (an_ (not_of2 h21) (an_ (kinfolkref02_Min_runs N (T_kinfolkref02_Event.mk n3 T_kinfolkref02_Event.nil t4) _ h22) (an_ h23 (an_ (rfl : false = false) (an_ (rfl : true = true) (an_ (rfl : true = true) (an_ h24 (an_ h25 (an_ h26 (an_ (rfl : true = true) trivial)))))))))))))))))))))))))))))) (by kernel_rfl))
                                      exact e_.out ⟨.eq rfl, .eq rfl, .eq rfl, .eq rfl, trivial⟩ trivial trivial rfl
                                    · rcases cond_of h with ⟨h27, h⟩ | ⟨h27, h⟩
                                      · have h := some_of h
                                        subst h
                                        have e_ : Runs Tryd.prog 115 [(.one (.pv (.str s)))] [] [] ([(.one (.pv (.imm [(.int .u64 n), (T_kinfolkref02_Event.pv (T_kinfolkref02_Event.mk n3 T_kinfolkref02_Event.nil t4)), (T_kinfolkref02_Event.pv (T_kinfolkref02_Event.mk n4 T_kinfolkref02_Event.nil t6))] 0))), (.one (.pv (.str (s4.extract 1 ((s4.size : Int)).toNat)))), (.one (.pv (.bool true))), (.one (.pv (.bool true)))], [], []) := runs_of (C := cfg) (objs := []) (sc := [.br false, .br false, .res (kinfolkref02_number_out (s.extract 1 ((s.size : Int)).toNat) (n, s2, b, b2)), .br false, .br false, .br false, .res (kinfolkref02_parse_2_out (s2.extract 1 ((s2.size : Int)).toNat) ((T_kinfolkref02_Event.mk n3 T_kinfolkref02_Event.nil t4), s3, b3, b4)), .br false, .br false, .br false, .res (kinfolkref02_parse_2_out (s3.extract 1 ((s3.size : Int)).toNat) ((T_kinfolkref02_Event.mk n4 T_kinfolkref02_Event.nil t6), s4, b5, b6)), .br false, .br false, .br false, .res (kinfolkref02_Min_out (T_kinfolkref02_Event.mk n3 T_kinfolkref02_Event.nil t4) n2), .br false, .br false, .br true, .br true, .br false, .br false, .br true]) (.k0 (an_ h1 (an_ h2 (an_ (not_of2 h3) (an_ h4 (an_ (kinfolkref02_number_runs (s.extract 1 ((s.size : Int)).toNat) _ h5) (an_ (not_of2 h6) (an_ h7 (an_ h8 (an_ (not_of2 h9) (an_ h10 (an_ (hrec_kinfolkref02_parse_2 (s2.extract 1 ((s2.size : Int)).toNat) _ h11) (an_ (not_of2 h12) (an_ h13 (an_ h14 (an_ (not_of2 h15) (an_ h16 (an_ (hrec_kinfolkref02_parse_2 (s3.extract 1 ((s3.size : Int)).toNat) _ h17) (an_ (not_of2 h18) (an_ h19 (an_ h20 (an_ (not_of2 h21) (an_ (kinfolkref02_Min_runs N (T_kinfolkref02_Event.mk n3 T_kinfolkref02_Event.nil t4) _ h22) (an_ h23 (an_ (rfl : false = false) (an_ (rfl : true = true) (an_ (rfl : true = true) (an_ h24 (an_ h25 (an_ h26 (an_ h27 trivial)))))))))))))))))))))))))))))) (by kernel_rfl))
                                        exact e_.out ⟨.eq rfl, .eq rfl, .eq rfl, .eq rfl, trivial⟩ trivial trivial rfl
                                      · have h := some_of h
                                        subst h
                                        have e_ : Runs Tryd.prog 115 [(.one (.pv (.str s)))] [] [] ([(.one (.pv (.imm [(.int .u64 n), (T_kinfolkref02_Event.pv (T_kinfolkref02_Event.mk n3 T_kinfolkref02_Event.nil t4)), (T_kinfolkref02_Event.pv (T_kinfolkref02_Event.mk n4 T_kinfolkref02_Event.nil t6))] 0))), (.one (.pv (.str (s4.extract 1 ((s4.size : Int)).toNat)))), (.one (.pv (.bool true))), (.one (.pv (.bool b2)))], [], []) := runs_of (C := cfg) (objs := []) (sc := [.br false, .br false, .res (kinfolkref02_number_out (s.extract 1 ((s.size : Int)).toNat) (n, s2, b, b2)), .br false, .br false, .br false, .res (kinfolkref02_parse_2_out (s2.extract 1 ((s2.size : Int)).toNat) ((T_kinfolkref02_Event.mk n3 T_kinfolkref02_Event.nil t4), s3, b3, b4)), .br false, .br false, .br false, .res (kinfolkref02_parse_2_out (s3.extract 1 ((s3.size : Int)).toNat) ((T_kinfolkref02_Event.mk n4 T_kinfolkref02_Event.nil t6), s4, b5, b6)), .br false, .br false, .br false, .res (kinfolkref02_Min_out (T_kinfolkref02_Event.mk n3 T_kinfolkref02_Event.nil t4) n2), .br false, .br false, .br true, .br true, .br false, .br false, .br false]) (.k0 (an_ h1 (an_ h2 (an_ (not_of2 h3) (an_ h4 (an_ (kinfolkref02_number_runs (s.extract 1 ((s.size : Int)).toNat) _ h5) (an_ (not_of2 h6) (an_ h7 (an_ h8 (an_ (not_of2 h9) (an_ h10 (an_ (hrec_kinfolkref02_parse_2 (s2.extract 1 ((s2.size : Int)).toNat) _ h11) (an_ (not_of2 h12) (an_ h13 (an_ h14 (an_ (not_of2 h15) (an_ h16 (an_ (hrec_kinfolkref02_parse_2 (s3.extract 1 ((s3.size : Int)).toNat) _ h17) (an_ (not_of2 h18) (an_ h19 (an_ h20 (an_ (not_of2 h21) (an_ (kinfolkref02_Min_runs N (T_kinfolkref02_Event.mk n3 T_kinfolkref02_Event.nil t4) _ h22) (an_ h23 (an_ (rfl : false = false) (an_ (rfl : true = true) (an_ (rfl : true = true) (an_ h24 (an_ h25 (an_ h26 (an_ h27 trivial)))))))))))))))))))))))))))))) (by kernel_rfl))
                                        exact e_.out ⟨.eq rfl, .eq rfl, .eq rfl, .eq rfl, trivial⟩ trivial trivial rfl
                                | mk n5 t7 t8 =>
                                  obtain ⟨h24, h⟩ := need_of h
                                  rcases cond_of h with ⟨h25, h⟩ | ⟨h25, h⟩
                                  · have h := some_of h
                                    subst h
                                    have e_ : Runs Tryd.prog 115 [(.one (.pv (.str s)))] [] [] ([(.one (.pv (.imm [(.int .u64 n), (T_kinfolkref02_Event.pv (T_kinfolkref02_Event.mk n3 T_kinfolkref02_Event.nil t4)), (T_kinfolkref02_Event.pv (T_kinfolkref02_Event.mk n4 (T_kinfolkref02_Event.mk n5 t7 t8) t6))] 0))), (.one (.pv (.str (s4.extract 1 ((s4.size : Int)).toNat)))), (.one (.pv (.bool true))), (.one (.pv (.bool true)))], [], []) := runs_of (C := cfg) (objs := []) (sc := [.br false, .br false, .res (kinfolkref02_number_out (s.extract 1 ((s.size : Int)).toNat) (n, s2, b, b2)), .br false, .br false, .br false, .res (kinfolkref02_parse_2_out (s2.extract 1 ((s2.size : Int)).toNat) ((T_kinfolkref02_Event.mk n3 T_kinfolkref02_Event.nil t4), s3, b3, b4)), .br false, .br false, .br false, .res (kinfolkref02_parse_2_out (s3.extract 1 ((s3.size : Int)).toNat) ((T_kinfolkref02_Event.mk n4 (T_kinfolkref02_Event.mk n5 t7 t8) t6), s4, b5, b6)), .br false, .br false, .br false, .res (kinfolkref02_Min_out (T_kinfolkref02_Event.mk n3 T_kinfolkref02_Event.nil t4) n2), .br false, .br false, .br true, .br false, .br false, .br true, .br true]) (.k1 (an_ h1 (an_ h2 (an_ (not_of2 h3) (an_ h4 (an_ (kinfolkref02_number_runs (s.extract 1 ((s.size : Int)).toNat) _ h5) (an_ (not_of2 h6) (an_ h7 (an_ h8 (an_ (not_of2 h9) (an_ h10 (an_ (hrec_kinfolkref02_parse_2 (s2.extract 1 ((s2.size : Int)).toNat) _ h11) (an_ (not_of2 h12) (an_ h13 (an_ h14 (an_ (not_of2 h15) (an_ h16 (an_ (hrec_kinfolkref02_parse_2 (s3.extract 1 ((s3.size : Int)).toNat) _ h17) (an_ (not_of2 h18) (an_ h19 (an_ h20 (an_ (not_of2 h21) (an_ (kinfolkref02_Min_runs N (T_kinfolkref02_Event.mk n3 T_kinfolkref02_Event.nil t4) _ h22) (an_ h23 (an_ (rfl : false = false) (an_ (rfl : true = true) (an_ (rfl : false = false) (an_ (rfl : false = false) (an_ h24 (an_ h25 (an_ (rfl : true = true) trivial)))))))))))))))))))))))))))))) (by kernel_rfl) (by kernel_rfl))
                                    exact e_.out ⟨.eq rfl, .eq rfl, .eq rfl, .eq rfl, trivial⟩ trivial trivial rfl
                                  · rcases cond_of h with ⟨h26, h⟩ | ⟨h26, h⟩
                                    · have h := some_of h
                                      subst h
                                      have e_ : Runs Tryd.prog 115 [(.one (.pv (.str s)))] [] [] ([(.one (.pv (.imm [(.int .u64 n), (T_kinfolkref02_Event.pv (T_kinfolkref02_Event.mk n3 T_kinfolkref02_Event.nil t4)), (T_kinfolkref02_Event.pv (T_kinfolkref02_Event.mk n4 (T_kinfolkref02_Event.mk n5 t7 t8) t6))] 0))), (.one (.pv (.str (s4.extract 1 ((s4.size : Int)).toNat)))), (.one (.pv (.bool true))), (.one (.pv (.bool true)))], [], []) := runs_of (C := cfg) (objs := []) (sc := [.br false, .br false, .res (kinfolkref02_number_out (s.extract 1 ((s.size : Int)).toNat) (n, s2, b, b2)), .br false, .br false, .br false, .res (kinfolkref02_parse_2_out (s2.extract 1 ((s2.size : Int)).toNat) ((T_kinfolkref02_Event.mk n3 T_kinfolkref02_Event.nil t4), s3, b3, b4)), .br false, .br false, .br false, .res (kinfolkref02_parse_2_out (s3.extract 1 ((s3.size : Int)).toNat) ((T_kinfolkref02_Event.mk n4 (T_kinfolkref02_Event.mk n5 t7 t8) t6), s4, b5, b6)), .br false, .br false, .br false, .res (kinfolkref02_Min_out (T_kinfolkref02_Event.mk n3 T_kinfolkref02_Event.nil t4) n2), .br false, .br false, .br true, .br false, .br false, .br false, .br true]) (.k1 (an_ h1 (an_ h2 (an_ (not_of2 h3) (an_ h4 (an_ (kinfolkref02_number_runs (s.extract 1 ((s.size : Int)).toNat) _ h5) (an_ (not_of2 h6) (an_ h7 (an_ h8 (an_ (not_of2 h9) (an_ h10 (an_ (hrec_kinfolkref02_parse_2 (s2.extract 1 ((s2.size : Int)).toNat) _ h11) (an_ (not_of2 h12) (an_ h13 (an_ h14 (an_ (not_of2 h15) (an_ h16 (an_ (hrec_kinfolkref02_parse_2 (s3.extract 1 ((s3.size : Int)).toNat) _ h17) (an_ (not_of2 h18) (an_ h19 (an_ h20 (an_ (not_of2 h21) (an_ (kinfolkref02_Min_runs N (T_kinfolkref02_Event.mk n3 T_kinfolkref02_Event.nil t4) _ h22) (an_ h23 (an_ (rfl : false = false) (an_ (rfl : true = true) (an_ (rfl : false = false) (an_ (rfl : false = false) (an_ h24 (an_ h25 (an_ h26 trivial)))))))))))))))))))))))))))))) (by kernel_rfl) (by kernel_rfl))
                                      exact e_.out ⟨.eq rfl, .eq rfl, .eq rfl, .eq rfl, trivial⟩ trivial trivial rfl
                                    · have h := some_of h
                                      subst h
                                      have e_ : Runs Tryd.prog 115 [(.one (.pv (.str s)))] [] [] ([(.one (.pv (.imm [(.int .u64 n), (T_kinfolkref02_Event.pv (T_kinfolkref02_Event.mk n3 T_kinfolkref02_Event.nil t4)), (T_kinfolkref02_Event.pv (T_kinfolkref02_Event.mk n4 (T_kinfolkref02_Event.mk n5 t7 t8) t6))] 0))), (.one (.pv (.str (s4.extract 1 ((s4.size : Int)).toNat)))), (.one (.pv (.bool true))), (.one (.pv (.bool b2)))], [], []) := runs_of (C := cfg) (objs := []) (sc := [.br false, .br false, .res (kinfolkref02_number_out (s.extract 1 ((s.size : Int)).toNat) (n, s2, b, b2)), .br false, .br false, .br false, .res (kinfolkref02_parse_2_out (s2.extract 1 ((s2.size : Int)).toNat) ((T_kinfolkref02_Event.mk n3 T_kinfolkref02_Event.nil t4), s3, b3, b4)), .br false, .br false, .br false, .res (kinfolkref02_parse_2_out (s3.extract 1 ((s3.size : Int)).toNat) ((T_kinfolkref02_Event.mk n4 (T_kinfolkref02_Event.mk n5 t7 t8) t6), s4, b5, b6)), .br false, .br false, .br false, .res (kinfolkref02_Min_out (T_kinfolkref02_Event.mk n3 T_kinfolkref02_Event.nil t4) n2), .br false, .br false, .br true, .br false, .br false, .br false, .br false]) (.k1 (an_ h1 (an_ h2 (an_ (not_of2 h3) (an_ h4 (an_ (kinfolkref02_number_runs (s.extract 1 ((s.size : Int)).toNat) _ h5) (an_ (not_of2 h6) (an_ h7 (an_ h8 (an_ (not_of2 h9) (an_ h10 (an_ (hrec_kinfolkref02_parse_2 (s2.extract 1 ((s2.size : Int)).toNat) _ h11) (an_ (not_of2 h12) (an_ h13 (an_ h14 (an_ (not_of2 h15) (an_ h16 (an_ (hrec_kinfolkref02_parse_2 (s3.extract 1 ((s3.size : Int)).toNat) _ h17) (an_ (not_of2 h18) (an_ h19 (an_ h20 (an_ (not_of2 h21) (an_ (kinfolkref02_Min_runs N (T_kinfolkref02_Event.mk n3 T_kinfolkref02_Event.nil t4) _ h22) (an_ h23 (an_ (rfl : false = false) (an_ (rfl : true = true) (an_ (rfl : false = false) (an_ (rfl : false = false) (an_ h24 (an_ h25 (an_ h26 trivial)))))))))))))))))))))))))))))) (by kernel_rfl) (by kernel_rfl))
                                      exact e_.out ⟨.eq rfl, .eq rfl, .eq rfl, .eq rfl, trivial⟩ trivial trivial rfl
                            | mk n4 t5 t6 =>
                              obtain ⟨h24, h⟩ := need_of h
                              rcases cond_of h with ⟨h25, h⟩ | ⟨h25, h⟩
                              · have h := some_of h
                                subst h
                                have e_ : Runs Tryd.prog 115 [(.one (.pv (.str s)))] [] [] ([(.one (.pv (.imm [(.int .u64 n), (T_kinfolkref02_Event.pv (T_kinfolkref02_Event.mk n3 (T_kinfolkref02_Event.mk n4 t5 t6) t4)), (T_kinfolkref02_Event.pv t2)] 0))), (.one (.pv (.str (s4.extract 1 ((s4.size : Int)).toNat)))), (.one (.pv (.bool true))), (.one (.pv (.bool true)))], [], []) := runs_of (C := cfg) (objs := []) (sc := [.br false, .br false, .res (kinfolkref02_number_out (s.extract 1 ((s.size : Int)).toNat) (n, s2, b, b2)), .br false, .br false, .br false, .res (kinfolkref02_parse_2_out (s2.extract 1 ((s2.size : Int)).toNat) ((T_kinfolkref02_Event.mk n3 (T_kinfolkref02_Event.mk n4 t5 t6) t4), s3, b3, b4)), .br false, .br false, .br false, .res (kinfolkref02_parse_2_out (s3.extract 1 ((s3.size : Int)).toNat) (t2, s4, b5, b6)), .br false, .br false, .br false, .res (kinfolkref02_Min_out (T_kinfolkref02_Event.mk n3 (T_kinfolkref02_Event.mk n4 t5 t6) t4) n2), .br false, .br false, .br false, .br false, .br false, .br true, .br true]) (.k1 (an_ h1 (an_ h2 (an_ (not_of2 h3) (an_ h4 (an_ (kinfolkref02_number_runs (s.extract 1 ((s.size : Int)).toNat) _ h5) (an_ (not_of2 h6) (an_ h7 (an_ h8 (an_ (not_of2 h9) (an_ h10 (an_ (hrec_kinfolkref02_parse_2 (s2.extract 1 ((s2.size : Int)).toNat) _ h11) (an_ (not_of2 h12) (an_ h13 (an_ h14 (an_ (not_of2 h15) (an_ h16 (an_ (hrec_kinfolkref02_parse_2 (s3.extract 1 ((s3.size : Int)).toNat) _ h17) (an_ (not_of2 h18) (an_ h19 (an_ h20 (an_ (not_of2 h21) (an_ (kinfolkref02_Min_runs N (T_kinfolkref02_Event.mk n3 (T_kinfolkref02_Event.mk n4 t5 t6) t4) _ h22) (an_ h23 (an_ (rfl : false = false) (an_ (rfl : false = false) (an_ (rfl : false = false) (an_ (rfl : false = false) (an_ h24 (an_ h25 (an_ (rfl : true = true) trivial)))))))))))))))))))))))))))))) (by kernel_rfl) (by kernel_rfl))
                                exact e_.out ⟨.eq rfl, .eq rfl, .eq rfl, .eq rfl, trivial⟩ trivial trivial rfl
                              · rcases cond_of h with ⟨h26, h⟩ | ⟨h26, h⟩
                                · have h := some_of h
                                  subst h
                                  have e_ : Runs Tryd.prog 115 [(.one (.pv (.str s)))] [] [] ([(.one (.pv (.imm [(.int .u64 n), (T_kinfolkref02_Event.pv (T_kinfolkref02_Event.mk n3 (T_kinfolkref02_Event.mk n4 t5 t6) t4)), (T_kinfolkref02_Event.pv t2)] 0))), (.one (.pv (.str (s4.extract 1 ((s4.size : Int)).toNat)))), (.one (.pv (.bool true))), (.one (.pv (.bool true)))], [], []) := runs_of (C := cfg) (objs := []) (sc := [.br false, .br false, .res (kinfolkref02_number_out (s.extract 1 ((s.size : Int)).toNat) (n, s2, b, b2)), .br false, .br false, .br false, .res (kinfolkref02_parse_2_out (s2.extract 1 ((s2.size : Int)).toNat) ((T_kinfolkref02_Event.mk n3 (T_kinfolkref02_Event.mk n4 t5 t6) t4), s3, b3, b4)), .br false, .br false, .br false, .res (kinfolkref02_parse_2_out (s3.extract 1 ((s3.size : Int)).toNat) (t2, s4, b5, b6)), .br false, .br false, .br false, .res (kinfolkref02_Min_out (T_kinfolkref02_Event.mk n3 (T_kinfolkref02_Event.mk n4 t5 t6) t4) n2), .br false, .br false, .br false, .br false, .br false, .br false, .br true]) (.k1 (an_ h1 (an_ h2 (an_ (not_of2 h3) (an_ h4 (an_ (kinfolkref02_number_runs (s.extract 1 ((s.size : Int)).toNat) _ h5) (an_ (not_of2 h6) (an_ h7 (an_ h8 (an_ (not_of2 h9) (an_ h10 (an_ (hrec_kinfolkref02_parse_2 (s2.extract 1 ((s2.size : Int)).toNat) _ h11) (an_ (not_of2 h12) (an_ h13 (an_ h14 (an_ (not_of2 h15) (an_ h16 (an_ (hrec_kinfolkref02_parse_2 (s3.extract 1 ((s3.size : Int)).toNat) _ h17) (an_ (not_of2 h18) (an_ h19 (an_ h20 (an_ (not_of2 h21) (an_ (kinfolkref02_Min_runs N (T_kinfolkref02_Event.mk n3 (T_kinfolkref02_Event.mk n4 t5 t6) t4) _ h22) (an_ h23 (an_ (rfl : false = false) (an_ (rfl : false = false) (an_ (rfl : false = false) (an_ (rfl : false = false) (an_ h24 (an_ h25 (an_ h26 trivial)))))))))))))))))))))))))))))) (by kernel_rfl) (by kernel_rfl))
                                  exact e_.out ⟨.eq rfl, .eq rfl, .eq rfl, .eq rfl, trivial⟩ trivial trivial rfl
                                · have h := some_of h
                                  subst h
                                  have e_ : Runs Tryd.prog 115 [(.one (.pv (.str s)))] [] [] ([(.one (.pv (.imm [(.int .u64 n), (T_kinfolkref02_Event.pv (T_kinfolkref02_Event.mk n3 (T_kinfolkref02_Event.mk n4 t5 t6) t4)), (T_kinfolkref02_Event.pv t2)] 0))), (.one (.pv (.str (s4.extract 1 ((s4.size : Int)).toNat)))), (.one (.pv (.bool true))), (.one (.pv (.bool b2)))], [], []) := runs_of (C := cfg) (objs := []) (sc := [.br false, .br false, .res (kinfolkref02_number_out (s.extract 1 ((s.size : Int)).toNat) (n, s2, b, b2)), .br false, .br false, .br false, .res (kinfolkref02_parse_2_out (s2.extract 1 ((s2.size : Int)).toNat) ((T_kinfolkref02_Event.mk n3 (T_kinfolkref02_Event.mk n4 t5 t6) t4), s3, b3, b4)), .br false, .br false, .br false, .res (kinfolkref02_parse_2_out (s3.extract 1 ((s3.size : Int)).toNat) (t2, s4, b5, b6)), .br false, .br false, .br false, .res (kinfolkref02_Min_out (T_kinfolkref02_Event.mk n3 (T_kinfolkref02_Event.mk n4 t5 t6) t4) n2), .br false, .br false, .br false, .br false, .br false, .br false, .br false]) (.k1 (an_ h1 (an_ h2 (an_ (not_of2 h3) (an_ h4 (an_ (kinfolkref02_number_runs (s.extract 1 ((s.size : Int)).toNat) _ h5) (an_ (not_of2 h6) (an_ h7 (an_ h8 (an_ (not_of2 h9) (an_ h10 (an_ (hrec_kinfolkref02_parse_2 (s2.extract 1 ((s2.size : Int)).toNat) _ h11) (an_ (not_of2 h12) (an_ h13 (an_ h14 (an_ (not_of2 h15) (an_ h16 (an_ (hrec_kinfolkref02_parse_2 (s3.extract 1 ((s3.size : Int)).toNat) _ h17) (an_ (not_of2 h18) (an_ h19 (an_ h20 (an_ (not_of2 h21) (an_ (kinfolkref02_Min_runs N (T_kinfolkref02_Event.mk n3 (T_kinfolkref02_Event.mk n4 t5 t6) t4) _ h22) (an_ h23 (an_ (rfl : false = false) (an_ (rfl : false = false) (an_ (rfl : false = false) (an_ (rfl : false = false) (an_ h24 (an_ h25 (an_ h26 trivial)))))))))))))))))))))))))))))) (by kernel_rfl) (by kernel_rfl))
                                  exact e_.out ⟨.eq rfl, .eq rfl, .eq rfl, .eq rfl, trivial⟩ trivial trivial rfl
                      · obtain ⟨t3, h22, h⟩ := bind_of h
                        have h := some_of h
                        subst h
                        exact runs_of (C := cfg) (objs := []) (sc := [.br false, .br false, .res (kinfolkref02_number_out (s.extract 1 ((s.size : Int)).toNat) (n, s2, b, b2)), .br false, .br false, .br false, .res (kinfolkref02_parse_2_out (s2.extract 1 ((s2.size : Int)).toNat) (t, s3, b3, b4)), .br false, .br false, .br false, .res (kinfolkref02_parse_2_out (s3.extract 1 ((s3.size : Int)).toNat) (t2, s4, b5, b6)), .br false, .br false, .br true, .br true, .br true, .res (kinfolkref02_Leaf_out 0 t3)]) (.k1 (an_ h1 (an_ h2 (an_ (not_of2 h3) (an_ h4 (an_ (kinfolkref02_number_runs (s.extract 1 ((s.size : Int)).toNat) _ h5) (an_ (not_of2 h6) (an_ h7 (an_ h8 (an_ (not_of2 h9) (an_ h10 (an_ (hrec_kinfolkref02_parse_2 (s2.extract 1 ((s2.size : Int)).toNat) _ h11) (an_ (not_of2 h12) (an_ h13 (an_ h14 (an_ (not_of2 h15) (an_ h16 (an_ (hrec_kinfolkref02_parse_2 (s3.extract 1 ((s3.size : Int)).toNat) _ h17) (an_ (not_of2 h18) (an_ h19 (an_ h20 (an_ (not_of h21) (an_ (rfl : true = true) (an_ (rfl : true = true) (an_ (kinfolkref02_Leaf_runs 0 _ h22) trivial)))))))))))))))))))))))) (by kernel_rfl) (by kernel_rfl))
                  · obtain ⟨t3, h19, h⟩ := bind_of h
                    have h := some_of h
                    subst h
                    exact runs_of (C := cfg) (objs := []) (sc := [.br false, .br false, .res (kinfolkref02_number_out (s.extract 1 ((s.size : Int)).toNat) (n, s2, b, b2)), .br false, .br false, .br false, .res (kinfolkref02_parse_2_out (s2.extract 1 ((s2.size : Int)).toNat) (t, s3, b3, b4)), .br false, .br false, .br false, .res (kinfolkref02_parse_2_out (s3.extract 1 ((s3.size : Int)).toNat) (t2, s4, b5, b6)), .br true, .br true, .br true, .br true, .br true, .res (kinfolkref02_Leaf_out 0 t3)]) (.k1 (an_ h1 (an_ h2 (an_ (not_of2 h3) (an_ h4 (an_ (kinfolkref02_number_runs (s.extract 1 ((s.size : Int)).toNat) _ h5) (an_ (not_of2 h6) (an_ h7 (an_ h8 (an_ (not_of2 h9) (an_ h10 (an_ (hrec_kinfolkref02_parse_2 (s2.extract 1 ((s2.size : Int)).toNat) _ h11) (an_ (not_of2 h12) (an_ h13 (an_ h14 (an_ (not_of2 h15) (an_ h16 (an_ (hrec_kinfolkref02_parse_2 (s3.extract 1 ((s3.size : Int)).toNat) _ h17) (an_ (not_of h18) (an_ (rfl : true = true) (an_ (rfl : true = true) (an_ (rfl : true = true) (an_ (rfl : true = true) (an_ (kinfolkref02_Leaf_runs 0 _ h19) trivial))))))))))))))))))))))) (by kernel_rfl) (by kernel_rfl))
                · obtain ⟨t2, h16, h⟩ := bind_of h
                  have h := some_of h
                  subst h
                  exact runs_of (C := cfg) (objs := []) (sc := [.br false, .br false, .res (kinfolkref02_number_out (s.extract 1 ((s.size : Int)).toNat) (n, s2, b, b2)), .br false, .br false, .br false, .res (kinfolkref02_parse_2_out (s2.extract 1 ((s2.size : Int)).toNat) (t, s3, b3, b4)), .br false, .br false, .br true, .res (kinfolkref02_Leaf_out 0 t2)]) (.k0 (an_ h1 (an_ h2 (an_ (not_of2 h3) (an_ h4 (an_ (kinfolkref02_number_runs (s.extract 1 ((s.size : Int)).toNat) _ h5) (an_ (not_of2 h6) (an_ h7 (an_ h8 (an_ (not_of2 h9) (an_ h10 (an_ (hrec_kinfolkref02_parse_2 (s2.extract 1 ((s2.size : Int)).toNat) _ h11) (an_ (not_of2 h12) (an_ h13 (an_ h14 (an_ (not_of h15) (an_ (kinfolkref02_Leaf_runs 0 _ h16) trivial)))))))))))))))) (by kernel_rfl))
            · obtain ⟨t2, h13, h⟩ := bind_of h
              have h := some_of h
              subst h
              exact runs_of (C := cfg) (objs := []) (sc := [.br false, .br false, .res (kinfolkref02_number_out (s.extract 1 ((s.size : Int)).toNat) (n, s2, b, b2)), .br false, .br false, .br false, .res (kinfolkref02_parse_2_out (s2.extract 1 ((s2.size : Int)).toNat) (t, s3, b3, b4)), .br true, .br true, .br true, .res (kinfolkref02_Leaf_out 0 t2)]) (.k0 (an_ h1 (an_ h2 (an_ (not_of2 h3) (an_ h4 (an_ (kinfolkref02_number_runs (s.extract 1 ((s.size : Int)).toNat) _ h5) (an_ (not_of2 h6) (an_ h7 (an_ h8 (an_ (not_of2 h9) (an_ h10 (an_ (hrec_kinfolkref02_parse_2 (s2.extract 1 ((s2.size : Int)).toNat) _ h11) (an_ (not_of h12) (an_ (rfl : true = true) (an_ (rfl : true = true) (an_ (kinfolkref02_Leaf_runs 0 _ h13) trivial))))))))))))))) (by kernel_rfl))
          · obtain ⟨t, h10, h⟩ := bind_of h
            have h := some_of h
            subst h
            exact runs_of (C := cfg) (objs := []) (sc := [.br false, .br false, .res (kinfolkref02_number_out (s.extract 1 ((s.size : Int)).toNat) (n, s2, b, b2)), .br false, .br false, .br true, .res (kinfolkref02_Leaf_out 0 t)]) (.k0 (an_ h1 (an_ h2 (an_ (not_of2 h3) (an_ h4 (an_ (kinfolkref02_number_runs (s.extract 1 ((s.size : Int)).toNat) _ h5) (an_ (not_of2 h6) (an_ h7 (an_ h8 (an_ (not_of h9) (an_ (kinfolkref02_Leaf_runs 0 _ h10) trivial)))))))))) (by kernel_rfl))
      · obtain ⟨t, h7, h⟩ := bind_of h
        have h := some_of h
        subst h
        exact runs_of (C := cfg) (objs := []) (sc := [.br false, .br false, .res (kinfolkref02_number_out (s.extract 1 ((s.size : Int)).toNat) (n, s2, b, b2)), .br true, .br true, .br true, .res (kinfolkref02_Leaf_out 0 t)]) (.k0 (an_ h1 (an_ h2 (an_ (not_of2 h3) (an_ h4 (an_ (kinfolkref02_number_runs (s.extract 1 ((s.size : Int)).toNat) _ h5) (an_ (not_of h6) (an_ (rfl : true = true) (an_ (rfl : true = true) (an_ (kinfolkref02_Leaf_runs 0 _ h7) trivial))))))))) (by kernel_rfl))
    · obtain ⟨⟨n, s2, b, b2⟩, h4, h⟩ := bind_of h
      obtain ⟨t, h5, h⟩ := bind_of h
      have h := some_of h
      subst h
      exact runs_of (C := cfg) (objs := []) (sc := [.br false, .br true, .res (kinfolkref02_number_out s (n, s2, b, b2)), .res (kinfolkref02_Leaf_out n t)]) (.k0 (an_ h1 (an_ h2 (an_ (not_of h3) (an_ (kinfolkref02_number_runs s _ h4) (an_ (kinfolkref02_Leaf_runs n _ h5) trivial))))) (by kernel_rfl))
noncomputable def kinfolkref02_parse_2 : Nat → ByteArray → Option (T_kinfolkref02_Event × ByteArray × Bool × Bool)
  | 0, _ => none
  | N + 1, s => kinfolkref02_parse_2_b N (kinfolkref02_parse_2 N) s
theorem kinfolkref02_parse_2_runs : ∀ (N : Nat) (s : ByteArray) (r_ : T_kinfolkref02_Event × ByteArray × Bool × Bool), kinfolkref02_parse_2 N s = some r_ → Runs Tryd.prog 115 [(.one (.pv (.str s)))] [] [] (kinfolkref02_parse_2_out s r_)
  | 0, _, _, h => by cases h
  | N + 1, s, r_, h => kinfolkref02_parse_2_b_runs N (kinfolkref02_parse_2 N) (kinfolkref02_parse_2_runs N) s r_ h
/-! ### kinfolkref02_Check_out -/
def kinfolkref02_Check_out (e : T_kinfolkref02_Event) : Int → Res
  | r1 => ([(.one (.pv (.int .i64 r1)))], [], [])
/-! ### kinfolkref02_Check -/
noncomputable def kinfolkref02_Check (N : Nat) (e : T_kinfolkref02_Event) : Option (Int) :=
  (kinfolkref02_Depth N e).bind fun n =>
  bif (decide ((16 : Int) < n)) then
    some 3
  else
    (kinfolkref02_Max N e).bind fun n2 =>
    bif (decide ((1048576 : Int) < n2)) then
      some 4
    else
      some 0
theorem kinfolkref02_Check_runs (N : Nat) (e : T_kinfolkref02_Event) (r_ : Int) (h : kinfolkref02_Check N e = some r_) : Runs Tryd.prog 108 [(.one (.pv (T_kinfolkref02_Event.pv e)))] [] [] (kinfolkref02_Check_out e r_) := by
  unfold kinfolkref02_Check at h
  obtain ⟨n, h1, h⟩ := bind_of h
  rcases cond_of h with ⟨h2, h⟩ | ⟨h2, h⟩
  · have h := some_of h
    subst h
    exact runs_of (C := cfg) (objs := []) (sc := [.res (kinfolkref02_Depth_out e n), .br true]) (.k0 (an_ (kinfolkref02_Depth_runs N e _ h1) (an_ h2 trivial)) (by kernel_rfl))
  · obtain ⟨n2, h3, h⟩ := bind_of h
    rcases cond_of h with ⟨h4, h⟩ | ⟨h4, h⟩
    · have h := some_of h
      subst h
      exact runs_of (C := cfg) (objs := []) (sc := [.res (kinfolkref02_Depth_out e n), .br false, .res (kinfolkref02_Max_out e n2), .br true]) (.k0 (an_ (kinfolkref02_Depth_runs N e _ h1) (an_ h2 (an_ (kinfolkref02_Max_runs N e _ h3) (an_ h4 trivial)))) (by kernel_rfl))
    · have h := some_of h
      subst h
      exact runs_of (C := cfg) (objs := []) (sc := [.res (kinfolkref02_Depth_out e n), .br false, .res (kinfolkref02_Max_out e n2), .br false]) (.k0 (an_ (kinfolkref02_Depth_runs N e _ h1) (an_ h2 (an_ (kinfolkref02_Max_runs N e _ h3) (an_ h4 trivial)))) (by kernel_rfl))
/-! ### kinfolkref02_Parse -/
noncomputable def kinfolkref02_Parse (N : Nat) (s : ByteArray) : Option (T_kinfolkref02_Event × Int) :=
  (kinfolkref02_parse_2 N s).bind fun (t, s2, b, b2) =>
  bif b then
    bif (decide ((0 : Int) < (s2.size : Int))) then
      (kinfolkref02_Leaf 0).bind fun t2 =>
      some (t2, 6)
    else
      (kinfolkref02_Check N t).bind fun n =>
      bif (decide ((n : Int) = 0)) then
        bif b2 then
          (kinfolkref02_Leaf 0).bind fun t2 =>
          some (t2, 4)
        else
          some (t, 0)
      else
        (kinfolkref02_Leaf 0).bind fun t2 =>
        some (t2, n)
  else
    (kinfolkref02_Leaf 0).bind fun t2 =>
    some (t2, 6)
theorem kinfolkref02_Parse_runs (N : Nat) (s : ByteArray) (r_ : T_kinfolkref02_Event × Int) (h : kinfolkref02_Parse N s = some r_) : Runs Tryd.prog 52 [(.one (.pv (.str s)))] [] [] (kinfolkref02_Parse_out s r_) := by
  unfold kinfolkref02_Parse at h
  obtain ⟨⟨t, s2, b, b2⟩, h1, h⟩ := bind_of h
  rcases cond_of h with ⟨h2, h⟩ | ⟨h2, h⟩
  · rcases cond_of h with ⟨h3, h⟩ | ⟨h3, h⟩
    · obtain ⟨t2, h4, h⟩ := bind_of h
      have h := some_of h
      subst h
      exact runs_of (C := cfg) (objs := []) (sc := [.res (kinfolkref02_parse_2_out s (t, s2, b, b2)), .br false, .br true, .res (kinfolkref02_Leaf_out 0 t2)]) (.k0 (an_ (kinfolkref02_parse_2_runs N s _ h1) (an_ (not_of2 h2) (an_ h3 (an_ (kinfolkref02_Leaf_runs 0 _ h4) trivial)))) (by kernel_rfl))
    · obtain ⟨n, h4, h⟩ := bind_of h
      rcases cond_of h with ⟨h5, h⟩ | ⟨h5, h⟩
      · rcases cond_of h with ⟨h6, h⟩ | ⟨h6, h⟩
        · obtain ⟨t2, h7, h⟩ := bind_of h
          have h := some_of h
          subst h
          exact runs_of (C := cfg) (objs := []) (sc := [.res (kinfolkref02_parse_2_out s (t, s2, b, b2)), .br false, .br false, .res (kinfolkref02_Check_out t n), .br false, .br true, .res (kinfolkref02_Leaf_out 0 t2)]) (.k0 (an_ (kinfolkref02_parse_2_runs N s _ h1) (an_ (not_of2 h2) (an_ h3 (an_ (kinfolkref02_Check_runs N t _ h4) (an_ (not_of2 h5) (an_ h6 (an_ (kinfolkref02_Leaf_runs 0 _ h7) trivial))))))) (by kernel_rfl))
        · have h := some_of h
          subst h
          exact runs_of (C := cfg) (objs := []) (sc := [.res (kinfolkref02_parse_2_out s (t, s2, b, b2)), .br false, .br false, .res (kinfolkref02_Check_out t n), .br false, .br false]) (.k0 (an_ (kinfolkref02_parse_2_runs N s _ h1) (an_ (not_of2 h2) (an_ h3 (an_ (kinfolkref02_Check_runs N t _ h4) (an_ (not_of2 h5) (an_ h6 trivial)))))) (by kernel_rfl))
      · obtain ⟨t2, h6, h⟩ := bind_of h
        have h := some_of h
        subst h
        exact runs_of (C := cfg) (objs := []) (sc := [.res (kinfolkref02_parse_2_out s (t, s2, b, b2)), .br false, .br false, .res (kinfolkref02_Check_out t n), .br true, .res (kinfolkref02_Leaf_out 0 t2)]) (.k0 (an_ (kinfolkref02_parse_2_runs N s _ h1) (an_ (not_of2 h2) (an_ h3 (an_ (kinfolkref02_Check_runs N t _ h4) (an_ (not_of h5) (an_ (kinfolkref02_Leaf_runs 0 _ h6) trivial)))))) (by kernel_rfl))
  · obtain ⟨t2, h3, h⟩ := bind_of h
    have h := some_of h
    subst h
    exact runs_of (C := cfg) (objs := []) (sc := [.res (kinfolkref02_parse_2_out s (t, s2, b, b2)), .br true, .br true, .res (kinfolkref02_Leaf_out 0 t2)]) (.k0 (an_ (kinfolkref02_parse_2_runs N s _ h1) (an_ (not_of h2) (an_ (rfl : true = true) (an_ (kinfolkref02_Leaf_runs 0 _ h3) trivial)))) (by kernel_rfl))
/-! ### kinfolklaw02_EventTexts -/
noncomputable def kinfolklaw02_EventTexts (N : Nat) (s : ByteArray) : Option (Bool) :=
  (kinfolklaw02_awake N).bind fun b =>
  bif b then
    bif decide ((0 : Int) ≤ 0) && decide ((0 : Int) ≤ (if (250 : Int) < (s.size : Int) then 250 else (s.size : Int))) && decide (((if (250 : Int) < (s.size : Int) then 250 else (s.size : Int)) : Int) ≤ (s.size : Int)) then
    (event_Parse N (s.extract 0 ((if (250 : Int) < (s.size : Int) then 250 else (s.size : Int))).toNat)).bind fun (n, t, n2) =>
    (kinfolkref02_Parse N (s.extract 0 ((if (250 : Int) < (s.size : Int) then 250 else (s.size : Int))).toNat)).bind fun (t2, n3) =>
    bif (decide ((n2 : Int) = n3)) then
      (kinfolklaw02_like N n t t2).bind fun b2 =>
      bif b2 then
        bif (decide ((n2 : Int) = 0)) then
          (event_Event_Text N n t).bind fun s2 =>
          some (decide (s2 = (s.extract 0 ((if (250 : Int) < (s.size : Int) then 250 else (s.size : Int))).toNat)))
        else
          some true
      else
        some false
    else
      some false
    else none
  else
    some false
theorem kinfolklaw02_EventTexts_runs (N : Nat) (s : ByteArray) (r_ : Bool) (h : kinfolklaw02_EventTexts N s = some r_) : Runs Tryd.prog 10 [(.one (.pv (.str s)))] [] [] (kinfolklaw02_EventTexts_out s r_) := by
  unfold kinfolklaw02_EventTexts at h
  obtain ⟨b, h1, h⟩ := bind_of h
  rcases cond_of h with ⟨h2, h⟩ | ⟨h2, h⟩
  · obtain ⟨h3, h⟩ := need_of h
    obtain ⟨⟨n, t, n2⟩, h4, h⟩ := bind_of h
    obtain ⟨⟨t2, n3⟩, h5, h⟩ := bind_of h
    rcases cond_of h with ⟨h6, h⟩ | ⟨h6, h⟩
    · obtain ⟨b2, h7, h⟩ := bind_of h
      rcases cond_of h with ⟨h8, h⟩ | ⟨h8, h⟩
      · rcases cond_of h with ⟨h9, h⟩ | ⟨h9, h⟩
        · obtain ⟨s2, h10, h⟩ := bind_of h
          have h := some_of h
          subst h
          exact runs_of (C := cfg) (objs := []) (sc := [.res (kinfolklaw02_awake_out b), .br false, .res (event_Parse_out (s.extract 0 ((if (250 : Int) < (s.size : Int) then 250 else (s.size : Int))).toNat) (n, t, n2)), .res (kinfolkref02_Parse_out (s.extract 0 ((if (250 : Int) < (s.size : Int) then 250 else (s.size : Int))).toNat) (t2, n3)), .br true, .res (kinfolklaw02_like_out n t t2 b2), .br true, .br false, .res (event_Event_Text_out n t s2)]) (.k0 (an_ (kinfolklaw02_awake_runs N _ h1) (an_ (not_of2 h2) (an_ h3 (an_ (event_Parse_runs N (s.extract 0 ((if (250 : Int) < (s.size : Int) then 250 else (s.size : Int))).toNat) _ h4) (an_ (kinfolkref02_Parse_runs N (s.extract 0 ((if (250 : Int) < (s.size : Int) then 250 else (s.size : Int))).toNat) _ h5) (an_ h6 (an_ (kinfolklaw02_like_runs N n t t2 _ h7) (an_ h8 (an_ (not_of2 h9) (an_ (event_Event_Text_runs N n t _ h10) trivial)))))))))) (by kernel_rfl))
        · have h := some_of h
          subst h
          exact runs_of (C := cfg) (objs := []) (sc := [.res (kinfolklaw02_awake_out b), .br false, .res (event_Parse_out (s.extract 0 ((if (250 : Int) < (s.size : Int) then 250 else (s.size : Int))).toNat) (n, t, n2)), .res (kinfolkref02_Parse_out (s.extract 0 ((if (250 : Int) < (s.size : Int) then 250 else (s.size : Int))).toNat) (t2, n3)), .br true, .res (kinfolklaw02_like_out n t t2 b2), .br true, .br true]) (.k0 (an_ (kinfolklaw02_awake_runs N _ h1) (an_ (not_of2 h2) (an_ h3 (an_ (event_Parse_runs N (s.extract 0 ((if (250 : Int) < (s.size : Int) then 250 else (s.size : Int))).toNat) _ h4) (an_ (kinfolkref02_Parse_runs N (s.extract 0 ((if (250 : Int) < (s.size : Int) then 250 else (s.size : Int))).toNat) _ h5) (an_ h6 (an_ (kinfolklaw02_like_runs N n t t2 _ h7) (an_ h8 (an_ (not_of h9) trivial))))))))) (by kernel_rfl))
      · have h := some_of h
        subst h
        exact runs_of (C := cfg) (objs := []) (sc := [.res (kinfolklaw02_awake_out b), .br false, .res (event_Parse_out (s.extract 0 ((if (250 : Int) < (s.size : Int) then 250 else (s.size : Int))).toNat) (n, t, n2)), .res (kinfolkref02_Parse_out (s.extract 0 ((if (250 : Int) < (s.size : Int) then 250 else (s.size : Int))).toNat) (t2, n3)), .br true, .res (kinfolklaw02_like_out n t t2 b2), .br false]) (.k0 (an_ (kinfolklaw02_awake_runs N _ h1) (an_ (not_of2 h2) (an_ h3 (an_ (event_Parse_runs N (s.extract 0 ((if (250 : Int) < (s.size : Int) then 250 else (s.size : Int))).toNat) _ h4) (an_ (kinfolkref02_Parse_runs N (s.extract 0 ((if (250 : Int) < (s.size : Int) then 250 else (s.size : Int))).toNat) _ h5) (an_ h6 (an_ (kinfolklaw02_like_runs N n t t2 _ h7) (an_ h8 trivial)))))))) (by kernel_rfl))
    · have h := some_of h
      subst h
      exact runs_of (C := cfg) (objs := []) (sc := [.res (kinfolklaw02_awake_out b), .br false, .res (event_Parse_out (s.extract 0 ((if (250 : Int) < (s.size : Int) then 250 else (s.size : Int))).toNat) (n, t, n2)), .res (kinfolkref02_Parse_out (s.extract 0 ((if (250 : Int) < (s.size : Int) then 250 else (s.size : Int))).toNat) (t2, n3)), .br false, .br false]) (.k0 (an_ (kinfolklaw02_awake_runs N _ h1) (an_ (not_of2 h2) (an_ h3 (an_ (event_Parse_runs N (s.extract 0 ((if (250 : Int) < (s.size : Int) then 250 else (s.size : Int))).toNat) _ h4) (an_ (kinfolkref02_Parse_runs N (s.extract 0 ((if (250 : Int) < (s.size : Int) then 250 else (s.size : Int))).toNat) _ h5) (an_ h6 (an_ (rfl : false = false) trivial))))))) (by kernel_rfl))
  · have h := some_of h
    subst h
    exact runs_of (C := cfg) (objs := []) (sc := [.res (kinfolklaw02_awake_out b), .br true]) (.k0 (an_ (kinfolklaw02_awake_runs N _ h1) (an_ (not_of h2) trivial)) (by kernel_rfl))
/-! ### kinfolklaw02_EventLimits_out -/
def kinfolklaw02_EventLimits_out (n : Int) (depth : Int) (base : Int) : Bool → Res
  | r1 => ([(.one (.pv (.bool r1)))], [], [])
/-! ### kinfolklaw02_EventLimits_L0 -/
def kinfolklaw02_EventLimits_L0_st (k : Int) (n : Int) : Int × Int × T_event_halves → St
  | (n3, n2, t) => ⟨[(12, (.av (.one (.ref 0 0)))), (14, (.av (.one (.pv (.int .i64 k))))), (90, (.av (.one (.pv (.int .i64 n))))), (91, (.av (.one (.pv (.int .i64 n3)))))], [(0, [(.pv (.int .u64 n2)), (.pv (T_event_halves.pv t))])], []⟩
def kinfolklaw02_EventLimits_L0_ex (k : Int) (n : Int) : (Unit) ⊕ (Int × T_event_halves) → Ex × St
  | .inl _ => (.ret, ⟨[(6, (.av (.one (.pv (.bool false)))))], [], []⟩)
  | .inr (r1, r2) => ((.exit 0), ⟨[(12, (.av (.one (.ref 0 0)))), (14, (.av (.one (.pv (.int .i64 k)))))], [(0, [(.pv (.int .u64 r1)), (.pv (T_event_halves.pv r2))])], []⟩)
noncomputable def kinfolklaw02_EventLimits_L0_step (N : Nat) (k : Int) (n : Int) : Int × Int × T_event_halves → Option ((Int × Int × T_event_halves) ⊕ ((Unit) ⊕ (Int × T_event_halves)))
  | (n3, n2, t) =>
  bif (decide ((n3 : Int) < n)) then
    (event_Node N 0 n2 t 0 T_event_halves.nil).bind fun (n4, t2, n5) =>
    bif ((decide ((n5 : Int) = 0)) == (decide ((n3 : Int) < 16))) then
      bif (decide ((n5 : Int) = 0)) then
        some (.inl ((iadd .i64 n3 1), n4, t2))
      else
        bif (decide ((n5 : Int) = 3)) then
          some (.inl ((iadd .i64 n3 1), n2, t))
        else
          some (.inr (.inl ()))
    else
      some (.inr (.inl ()))
  else
    some (.inr (.inr (n2, t)))
theorem kinfolklaw02_EventLimits_L0_ok (N : Nat) (k : Int) (n : Int) (s_ : Int × Int × T_event_halves) (z_ : (Int × Int × T_event_halves) ⊕ ((Unit) ⊕ (Int × T_event_halves))) (h : kinfolklaw02_EventLimits_L0_step N k n s_ = some z_) : RoundOk Tryd.prog cfg 11 0 (loopAt Tryd.prog 11 0) (kinfolklaw02_EventLimits_L0_st k n) (kinfolklaw02_EventLimits_L0_ex k n) s_ z_ := by
  rcases s_ with ⟨n3, n2, t⟩
  rcases cond_of h with ⟨h1, h⟩ | ⟨h1, h⟩
  · obtain ⟨⟨n4, t2, n5⟩, h2, h⟩ := bind_of h
    rcases cond_of h with ⟨h3, h⟩ | ⟨h3, h⟩
    · rcases cond_of h with ⟨h4, h⟩ | ⟨h4, h⟩
      · have h := some_of h
        subst h
        exact ⟨[.br true, .res (event_Node_out 0 n2 t 0 T_event_halves.nil (n4, t2, n5)), .br false, .br false, .br false, .br true], kinfolklaw02_EventLimits_L0_st k n ((iadd .i64 n3 1), n4, t2), .k0 (an_ h1 (an_ (Runs.coe (as' := [(.one (.pv (.int .u64 0))), (.agg [(.pv (.int .u64 n2)), (.pv (T_event_halves.pv t))]), (.agg [(.pv (.int .u64 0)), (.pv .nilp)])]) (objs' := []) (rows' := []) (event_Node_runs N 0 n2 t 0 T_event_halves.nil _ h2) ⟨.eq rfl, ⟨.eq rfl, .eq rfl, trivial⟩, ⟨.eq rfl, .eq rfl, trivial⟩, trivial⟩ trivial trivial) (an_ (not_of2 h3) (an_ (not_of2 h4) (an_ (rfl : false = false) (an_ h4 trivial)))))) (by kernel_rfl), .same (by kernel_rfl)⟩
      · rcases cond_of h with ⟨h5, h⟩ | ⟨h5, h⟩
        · have h := some_of h
          subst h
          exact ⟨[.br true, .res (event_Node_out 0 n2 t 0 T_event_halves.nil (n4, t2, n5)), .br false, .br true, .br false, .br false], kinfolklaw02_EventLimits_L0_st k n ((iadd .i64 n3 1), n2, t), .k0 (an_ h1 (an_ (Runs.coe (as' := [(.one (.pv (.int .u64 0))), (.agg [(.pv (.int .u64 n2)), (.pv (T_event_halves.pv t))]), (.agg [(.pv (.int .u64 0)), (.pv .nilp)])]) (objs' := []) (rows' := []) (event_Node_runs N 0 n2 t 0 T_event_halves.nil _ h2) ⟨.eq rfl, ⟨.eq rfl, .eq rfl, trivial⟩, ⟨.eq rfl, .eq rfl, trivial⟩, trivial⟩ trivial trivial) (an_ (not_of2 h3) (an_ (not_of h4) (an_ (not_of2 h5) (an_ h4 trivial)))))) (by kernel_rfl), .same (by kernel_rfl)⟩
        · have h := some_of h
          subst h
          exact ⟨[.br true, .res (event_Node_out 0 n2 t 0 T_event_halves.nil (n4, t2, n5)), .br false, .br true, .br true], (kinfolklaw02_EventLimits_L0_ex k n (.inl ())).2, .k0 (an_ h1 (an_ (Runs.coe (as' := [(.one (.pv (.int .u64 0))), (.agg [(.pv (.int .u64 n2)), (.pv (T_event_halves.pv t))]), (.agg [(.pv (.int .u64 0)), (.pv .nilp)])]) (objs' := []) (rows' := []) (event_Node_runs N 0 n2 t 0 T_event_halves.nil _ h2) ⟨.eq rfl, ⟨.eq rfl, .eq rfl, trivial⟩, ⟨.eq rfl, .eq rfl, trivial⟩, trivial⟩ trivial trivial) (an_ (not_of2 h3) (an_ (not_of h4) (an_ (not_of h5) trivial))))) (by kernel_rfl), .same (by kernel_rfl)⟩
    · have h := some_of h
      subst h
      exact ⟨[.br true, .res (event_Node_out 0 n2 t 0 T_event_halves.nil (n4, t2, n5)), .br true, .br true], (kinfolklaw02_EventLimits_L0_ex k n (.inl ())).2, .k0 (an_ h1 (an_ (Runs.coe (as' := [(.one (.pv (.int .u64 0))), (.agg [(.pv (.int .u64 n2)), (.pv (T_event_halves.pv t))]), (.agg [(.pv (.int .u64 0)), (.pv .nilp)])]) (objs' := []) (rows' := []) (event_Node_runs N 0 n2 t 0 T_event_halves.nil _ h2) ⟨.eq rfl, ⟨.eq rfl, .eq rfl, trivial⟩, ⟨.eq rfl, .eq rfl, trivial⟩, trivial⟩ trivial trivial) (an_ (not_of h3) (an_ (rfl : true = true) trivial)))) (by kernel_rfl), .same (by kernel_rfl)⟩
  · have h := some_of h
    subst h
    exact ⟨[.br false], ⟨[(92, (.av (.one (.pv (.bool false))))), (12, (.av (.one (.ref 0 0)))), (14, (.av (.one (.pv (.int .i64 k))))), (90, (.av (.one (.pv (.int .i64 n))))), (91, (.av (.one (.pv (.int .i64 n3))))), (92, (.av (.one (.pv (.bool (decide ((n3 : Int) < n)))))))], [(0, [(.pv (.int .u64 n2)), (.pv (T_event_halves.pv t))])], []⟩, .k0 (an_ h1 trivial) (by kernel_rfl), ⟨⟨⟨_, rfl, .eq rfl⟩, ⟨_, rfl, .eq rfl⟩, trivial⟩, ⟨⟨rfl, ⟨.eq rfl, .eq rfl, trivial⟩⟩, trivial⟩, trivial⟩⟩
theorem kinfolklaw02_EventLimits_L0_runs (N : Nat) (k : Int) (n : Int) (s_ : Int × Int × T_event_halves) (r_ : (Unit) ⊕ (Int × T_event_halves)) (h : runL (kinfolklaw02_EventLimits_L0_step N k n) s_ = some r_) : LRuns Tryd.prog (lEnv Tryd.prog cfg 11 0).nt 0 (.loop (loopAt Tryd.prog 11 0)) (kinfolklaw02_EventLimits_L0_st k n s_) (kinfolklaw02_EventLimits_L0_ex k n r_).1 (kinfolklaw02_EventLimits_L0_ex k n r_).2 :=
  loop_run h (kinfolklaw02_EventLimits_L0_ok N k n) (by intro r_; rcases r_ with _ | ⟨r1, r2⟩ <;> simp [kinfolklaw02_EventLimits_L0_ex])
/-! ### kinfolklaw02_EventLimits -/
noncomputable def kinfolklaw02_EventLimits (N : Nat) (n : Int) (depth : Int) (base : Int) : Option (Bool) :=
  (kinfolklaw02_awake N).bind fun b =>
  bif b then
    (event_Leaf n).bind fun (n2, n3) =>
    bif ((decide ((n3 : Int) = 0)) == (decide ((n : Int) ≤ 1048576))) then
      bif (decide ((n3 : Int) = 0)) then
        (event_Node N base n2 T_event_halves.nil 0 T_event_halves.nil).bind fun (n4, t, n5) =>
        bif (decide ((base : Int) ≤ 1048576)) then
          bif ((decide ((n5 : Int) = 0)) == (decide (((iadd .u64 base n) : Int) ≤ 1048576))) then
            bif (decide (((iadd .u64 base n) : Int) ≤ 1048576)) then
              (event_Event_Max N n4 t).bind fun n6 =>
              bif (decide ((n6 : Int) = (iadd .u64 base n))) then
                (event_Leaf 1).bind fun (n7, n8) =>
                (runL (kinfolklaw02_EventLimits_L0_step N (IntKind.i64.wrap (irem .u8 depth 19)) (IntKind.i64.wrap (irem .u8 depth 19))) (0, n7, T_event_halves.nil)).bind fun z_ => match z_ with
                | .inl _ =>
                  some false
                | .inr (n9, t2) =>
                  (event_Event_Depth N n9 t2).bind fun n10 =>
                  some (decide ((n10 : Int) = (if (16 : Int) < (IntKind.i64.wrap (irem .u8 depth 19)) then 16 else (IntKind.i64.wrap (irem .u8 depth 19)))))
              else
                some false
            else
              bif (decide ((n5 : Int) = 4)) then
                (event_Leaf 1).bind fun (n6, n7) =>
                (runL (kinfolklaw02_EventLimits_L0_step N (IntKind.i64.wrap (irem .u8 depth 19)) (IntKind.i64.wrap (irem .u8 depth 19))) (0, n6, T_event_halves.nil)).bind fun z_ => match z_ with
                | .inl _ =>
                  some false
                | .inr (n8, t2) =>
                  (event_Event_Depth N n8 t2).bind fun n9 =>
                  some (decide ((n9 : Int) = (if (16 : Int) < (IntKind.i64.wrap (irem .u8 depth 19)) then 16 else (IntKind.i64.wrap (irem .u8 depth 19)))))
              else
                some false
          else
            some false
        else
          bif ((decide ((n5 : Int) = 0)) == false) then
            bif (decide ((n5 : Int) = 4)) then
              (event_Leaf 1).bind fun (n6, n7) =>
              (runL (kinfolklaw02_EventLimits_L0_step N (IntKind.i64.wrap (irem .u8 depth 19)) (IntKind.i64.wrap (irem .u8 depth 19))) (0, n6, T_event_halves.nil)).bind fun z_ => match z_ with
              | .inl _ =>
                some false
              | .inr (n8, t2) =>
                (event_Event_Depth N n8 t2).bind fun n9 =>
                some (decide ((n9 : Int) = (if (16 : Int) < (IntKind.i64.wrap (irem .u8 depth 19)) then 16 else (IntKind.i64.wrap (irem .u8 depth 19)))))
            else
              some false
          else
            some false
      else
        bif (decide ((n3 : Int) = 4)) then
          (event_Event_Text N n2 T_event_halves.nil).bind fun s =>
          bif decide (s = (⟨#[48]⟩ : ByteArray)) then
            (event_Leaf 1).bind fun (n4, n5) =>
            (runL (kinfolklaw02_EventLimits_L0_step N (IntKind.i64.wrap (irem .u8 depth 19)) (IntKind.i64.wrap (irem .u8 depth 19))) (0, n4, T_event_halves.nil)).bind fun z_ => match z_ with
            | .inl _ =>
              some false
            | .inr (n6, t) =>
              (event_Event_Depth N n6 t).bind fun n7 =>
              some (decide ((n7 : Int) = (if (16 : Int) < (IntKind.i64.wrap (irem .u8 depth 19)) then 16 else (IntKind.i64.wrap (irem .u8 depth 19)))))
          else
            some false
        else
          some false
    else
      some false
  else
    some false
theorem kinfolklaw02_EventLimits_runs (N : Nat) (n : Int) (depth : Int) (base : Int) (r_ : Bool) (h : kinfolklaw02_EventLimits N n depth base = some r_) : Runs Tryd.prog 11 [(.one (.pv (.int .u64 n))), (.one (.pv (.int .u8 depth))), (.one (.pv (.int .u64 base)))] [] [] (kinfolklaw02_EventLimits_out n depth base r_) := by
  unfold kinfolklaw02_EventLimits at h
  obtain ⟨b, h1, h⟩ := bind_of h
  rcases cond_of h with ⟨h2, h⟩ | ⟨h2, h⟩
  · obtain ⟨⟨n2, n3⟩, h3, h⟩ := bind_of h
    rcases cond_of h with ⟨h4, h⟩ | ⟨h4, h⟩
    · rcases cond_of h with ⟨h5, h⟩ | ⟨h5, h⟩
      · obtain ⟨⟨n4, t, n5⟩, h6, h⟩ := bind_of h
        rcases cond_of h with ⟨h7, h⟩ | ⟨h7, h⟩
        · rcases cond_of h with ⟨h8, h⟩ | ⟨h8, h⟩
          · rcases cond_of h with ⟨h9, h⟩ | ⟨h9, h⟩
            · obtain ⟨n6, h10, h⟩ := bind_of h
              rcases cond_of h with ⟨h11, h⟩ | ⟨h11, h⟩
              · obtain ⟨⟨n7, n8⟩, h12, h⟩ := bind_of h
                obtain ⟨z_, h13, h⟩ := bind_of h
                rcases z_ with _ | ⟨n9, t2⟩
                · have h := some_of h
                  subst h
                  exact runs_of (C := cfg) (objs := []) (sc := [.res (kinfolklaw02_awake_out b), .br false, .res (event_Leaf_out n (n2, n3)), .br false, .br false, .br false, .br true, .res (event_Node_out base n2 T_event_halves.nil 0 T_event_halves.nil (n4, t, n5)), .br true, .br false, .br false, .br false, .br true, .res (event_Event_Max_out n4 t n6), .br false, .res (event_Leaf_out 1 (n7, n8)), .lp (kinfolklaw02_EventLimits_L0_ex (IntKind.i64.wrap (irem .u8 depth 19)) (IntKind.i64.wrap (irem .u8 depth 19)) (.inl ())).1 (kinfolklaw02_EventLimits_L0_ex (IntKind.i64.wrap (irem .u8 depth 19)) (IntKind.i64.wrap (irem .u8 depth 19)) (.inl ())).2]) (.k0 (an_ (kinfolklaw02_awake_runs N _ h1) (an_ (not_of2 h2) (an_ (event_Leaf_runs n _ h3) (an_ (not_of2 h4) (an_ (not_of2 h5) (an_ (rfl : false = false) (an_ h5 (an_ (Runs.coe (as' := [(.one (.pv (.int .u64 base))), (.agg [(.pv (.int .u64 n2)), (.pv (T_event_halves.pv T_event_halves.nil))]), (.agg [(.pv (.int .u64 0)), (.pv .nilp)])]) (objs' := []) (rows' := []) (event_Node_runs N base n2 T_event_halves.nil 0 T_event_halves.nil _ h6) ⟨.eq rfl, ⟨.eq rfl, .eq rfl, trivial⟩, ⟨.eq rfl, .eq rfl, trivial⟩, trivial⟩ trivial trivial) (an_ h7 (an_ (not_of2 h8) (an_ (not_of2 h9) (an_ (rfl : false = false) (an_ h9 (an_ (event_Event_Max_runs N n4 t _ h10) (an_ (not_of2 h11) (an_ (event_Leaf_runs 1 _ h12) (an_ (rfl : true = true) (an_ (kinfolklaw02_EventLimits_L0_runs N (IntKind.i64.wrap (irem .u8 depth 19)) (IntKind.i64.wrap (irem .u8 depth 19)) _ _ h13) trivial)))))))))))))))))) (by kernel_rfl))
                · obtain ⟨n10, h14, h⟩ := bind_of h
                  have h := some_of h
                  subst h
                  exact runs_of (C := cfg) (objs := []) (sc := [.res (kinfolklaw02_awake_out b), .br false, .res (event_Leaf_out n (n2, n3)), .br false, .br false, .br false, .br true, .res (event_Node_out base n2 T_event_halves.nil 0 T_event_halves.nil (n4, t, n5)), .br true, .br false, .br false, .br false, .br true, .res (event_Event_Max_out n4 t n6), .br false, .res (event_Leaf_out 1 (n7, n8)), .lp (kinfolklaw02_EventLimits_L0_ex (IntKind.i64.wrap (irem .u8 depth 19)) (IntKind.i64.wrap (irem .u8 depth 19)) (.inr (n9, t2))).1 (kinfolklaw02_EventLimits_L0_ex (IntKind.i64.wrap (irem .u8 depth 19)) (IntKind.i64.wrap (irem .u8 depth 19)) (.inr (n9, t2))).2, .res (event_Event_Depth_out n9 t2 n10)]) (.k0 (an_ (kinfolklaw02_awake_runs N _ h1) (an_ (not_of2 h2) (an_ (event_Leaf_runs n _ h3) (an_ (not_of2 h4) (an_ (not_of2 h5) (an_ (rfl : false = false) (an_ h5 (an_ (Runs.coe (as' := [(.one (.pv (.int .u64 base))), (.agg [(.pv (.int .u64 n2)), (.pv (T_event_halves.pv T_event_halves.nil))]), (.agg [(.pv (.int .u64 0)), (.pv .nilp)])]) (objs' := []) (rows' := []) (event_Node_runs N base n2 T_event_halves.nil 0 T_event_halves.nil _ h6) ⟨.eq rfl, ⟨.eq rfl, .eq rfl, trivial⟩, ⟨.eq rfl, .eq rfl, trivial⟩, trivial⟩ trivial trivial) (an_ h7 (an_ (not_of2 h8) (an_ (not_of2 h9) (an_ (rfl : false = false) (an_ h9 (an_ (event_Event_Max_runs N n4 t _ h10) (an_ (not_of2 h11) (an_ (event_Leaf_runs 1 _ h12) (an_ (rfl : true = true) (an_ (kinfolklaw02_EventLimits_L0_runs N (IntKind.i64.wrap (irem .u8 depth 19)) (IntKind.i64.wrap (irem .u8 depth 19)) _ _ h13) (an_ (event_Event_Depth_runs N n9 t2 _ h14) trivial))))))))))))))))))) (by kernel_rfl))
              · have h := some_of h
                subst h
                exact runs_of (C := cfg) (objs := []) (sc := [.res (kinfolklaw02_awake_out b), .br false, .res (event_Leaf_out n (n2, n3)), .br false, .br false, .br false, .br true, .res (event_Node_out base n2 T_event_halves.nil 0 T_event_halves.nil (n4, t, n5)), .br true, .br false, .br false, .br false, .br true, .res (event_Event_Max_out n4 t n6), .br true]) (.k0 (an_ (kinfolklaw02_awake_runs N _ h1) (an_ (not_of2 h2) (an_ (event_Leaf_runs n _ h3) (an_ (not_of2 h4) (an_ (not_of2 h5) (an_ (rfl : false = false) (an_ h5 (an_ (Runs.coe (as' := [(.one (.pv (.int .u64 base))), (.agg [(.pv (.int .u64 n2)), (.pv (T_event_halves.pv T_event_halves.nil))]), (.agg [(.pv (.int .u64 0)), (.pv .nilp)])]) (objs' := []) (rows' := []) (event_Node_runs N base n2 T_event_halves.nil 0 T_event_halves.nil _ h6) ⟨.eq rfl, ⟨.eq rfl, .eq rfl, trivial⟩, ⟨.eq rfl, .eq rfl, trivial⟩, trivial⟩ trivial trivial) (an_ h7 (an_ (not_of2 h8) (an_ (not_of2 h9) (an_ (rfl : false = false) (an_ h9 (an_ (event_Event_Max_runs N n4 t _ h10) (an_ (not_of h11) trivial))))))))))))))) (by kernel_rfl))
            · rcases cond_of h with ⟨h10, h⟩ | ⟨h10, h⟩
              · obtain ⟨⟨n6, n7⟩, h11, h⟩ := bind_of h
                obtain ⟨z_, h12, h⟩ := bind_of h
                rcases z_ with _ | ⟨n8, t2⟩
                · have h := some_of h
                  subst h
                  exact runs_of (C := cfg) (objs := []) (sc := [.res (kinfolklaw02_awake_out b), .br false, .res (event_Leaf_out n (n2, n3)), .br false, .br false, .br false, .br true, .res (event_Node_out base n2 T_event_halves.nil 0 T_event_halves.nil (n4, t, n5)), .br true, .br false, .br true, .br false, .br false, .br false, .res (event_Leaf_out 1 (n6, n7)), .lp (kinfolklaw02_EventLimits_L0_ex (IntKind.i64.wrap (irem .u8 depth 19)) (IntKind.i64.wrap (irem .u8 depth 19)) (.inl ())).1 (kinfolklaw02_EventLimits_L0_ex (IntKind.i64.wrap (irem .u8 depth 19)) (IntKind.i64.wrap (irem .u8 depth 19)) (.inl ())).2]) (.k0 (an_ (kinfolklaw02_awake_runs N _ h1) (an_ (not_of2 h2) (an_ (event_Leaf_runs n _ h3) (an_ (not_of2 h4) (an_ (not_of2 h5) (an_ (rfl : false = false) (an_ h5 (an_ (Runs.coe (as' := [(.one (.pv (.int .u64 base))), (.agg [(.pv (.int .u64 n2)), (.pv (T_event_halves.pv T_event_halves.nil))]), (.agg [(.pv (.int .u64 0)), (.pv .nilp)])]) (objs' := []) (rows' := []) (event_Node_runs N base n2 T_event_halves.nil 0 T_event_halves.nil _ h6) ⟨.eq rfl, ⟨.eq rfl, .eq rfl, trivial⟩, ⟨.eq rfl, .eq rfl, trivial⟩, trivial⟩ trivial trivial) (an_ h7 (an_ (not_of2 h8) (an_ (not_of h9) (an_ (not_of2 h10) (an_ h9 (an_ (rfl : false = false) (an_ (event_Leaf_runs 1 _ h11) (an_ (rfl : true = true) (an_ (kinfolklaw02_EventLimits_L0_runs N (IntKind.i64.wrap (irem .u8 depth 19)) (IntKind.i64.wrap (irem .u8 depth 19)) _ _ h12) trivial))))))))))))))))) (by kernel_rfl))
                · obtain ⟨n9, h13, h⟩ := bind_of h
                  have h := some_of h
                  subst h
                  exact runs_of (C := cfg) (objs := []) (sc := [.res (kinfolklaw02_awake_out b), .br false, .res (event_Leaf_out n (n2, n3)), .br false, .br false, .br false, .br true, .res (event_Node_out base n2 T_event_halves.nil 0 T_event_halves.nil (n4, t, n5)), .br true, .br false, .br true, .br false, .br false, .br false, .res (event_Leaf_out 1 (n6, n7)), .lp (kinfolklaw02_EventLimits_L0_ex (IntKind.i64.wrap (irem .u8 depth 19)) (IntKind.i64.wrap (irem .u8 depth 19)) (.inr (n8, t2))).1 (kinfolklaw02_EventLimits_L0_ex (IntKind.i64.wrap (irem .u8 depth 19)) (IntKind.i64.wrap (irem .u8 depth 19)) (.inr (n8, t2))).2, .res (event_Event_Depth_out n8 t2 n9)]) (.k0 (an_ (kinfolklaw02_awake_runs N _ h1) (an_ (not_of2 h2) (an_ (event_Leaf_runs n _ h3) (an_ (not_of2 h4) (an_ (not_of2 h5) (an_ (rfl : false = false) (an_ h5 (an_ (Runs.coe (as' := [(.one (.pv (.int .u64 base))), (.agg [(.pv (.int .u64 n2)), (.pv (T_event_halves.pv T_event_halves.nil))]), (.agg [(.pv (.int .u64 0)), (.pv .nilp)])]) (objs' := []) (rows' := []) (event_Node_runs N base n2 T_event_halves.nil 0 T_event_halves.nil _ h6) ⟨.eq rfl, ⟨.eq rfl, .eq rfl, trivial⟩, ⟨.eq rfl, .eq rfl, trivial⟩, trivial⟩ trivial trivial) (an_ h7 (an_ (not_of2 h8) (an_ (not_of h9) (an_ (not_of2 h10) (an_ h9 (an_ (rfl : false = false) (an_ (event_Leaf_runs 1 _ h11) (an_ (rfl : true = true) (an_ (kinfolklaw02_EventLimits_L0_runs N (IntKind.i64.wrap (irem .u8 depth 19)) (IntKind.i64.wrap (irem .u8 depth 19)) _ _ h12) (an_ (event_Event_Depth_runs N n8 t2 _ h13) trivial)))))))))))))))))) (by kernel_rfl))
              · have h := some_of h
                subst h
                exact runs_of (C := cfg) (objs := []) (sc := [.res (kinfolklaw02_awake_out b), .br false, .res (event_Leaf_out n (n2, n3)), .br false, .br false, .br false, .br true, .res (event_Node_out base n2 T_event_halves.nil 0 T_event_halves.nil (n4, t, n5)), .br true, .br false, .br true, .br true, .br true]) (.k0 (an_ (kinfolklaw02_awake_runs N _ h1) (an_ (not_of2 h2) (an_ (event_Leaf_runs n _ h3) (an_ (not_of2 h4) (an_ (not_of2 h5) (an_ (rfl : false = false) (an_ h5 (an_ (Runs.coe (as' := [(.one (.pv (.int .u64 base))), (.agg [(.pv (.int .u64 n2)), (.pv (T_event_halves.pv T_event_halves.nil))]), (.agg [(.pv (.int .u64 0)), (.pv .nilp)])]) (objs' := []) (rows' := []) (event_Node_runs N base n2 T_event_halves.nil 0 T_event_halves.nil _ h6) ⟨.eq rfl, ⟨.eq rfl, .eq rfl, trivial⟩, ⟨.eq rfl, .eq rfl, trivial⟩, trivial⟩ trivial trivial) (an_ h7 (an_ (not_of2 h8) (an_ (not_of h9) (an_ (not_of h10) (an_ (rfl : true = true) trivial))))))))))))) (by kernel_rfl))
          · have h := some_of h
            subst h
            exact runs_of (C := cfg) (objs := []) (sc := [.res (kinfolklaw02_awake_out b), .br false, .res (event_Leaf_out n (n2, n3)), .br false, .br false, .br false, .br true, .res (event_Node_out base n2 T_event_halves.nil 0 T_event_halves.nil (n4, t, n5)), .br true, .br true, .br true, .br true]) (.k0 (an_ (kinfolklaw02_awake_runs N _ h1) (an_ (not_of2 h2) (an_ (event_Leaf_runs n _ h3) (an_ (not_of2 h4) (an_ (not_of2 h5) (an_ (rfl : false = false) (an_ h5 (an_ (Runs.coe (as' := [(.one (.pv (.int .u64 base))), (.agg [(.pv (.int .u64 n2)), (.pv (T_event_halves.pv T_event_halves.nil))]), (.agg [(.pv (.int .u64 0)), (.pv .nilp)])]) (objs' := []) (rows' := []) (event_Node_runs N base n2 T_event_halves.nil 0 T_event_halves.nil _ h6) ⟨.eq rfl, ⟨.eq rfl, .eq rfl, trivial⟩, ⟨.eq rfl, .eq rfl, trivial⟩, trivial⟩ trivial trivial) (an_ h7 (an_ (not_of h8) (an_ (rfl : true = true) (an_ (rfl : true = true) trivial)))))))))))) (by kernel_rfl))
        · rcases cond_of h with ⟨h8, h⟩ | ⟨h8, h⟩
          · rcases cond_of h with ⟨h9, h⟩ | ⟨h9, h⟩
            · obtain ⟨⟨n6, n7⟩, h10, h⟩ := bind_of h
              obtain ⟨z_, h11, h⟩ := bind_of h
              rcases z_ with _ | ⟨n8, t2⟩
              · have h := some_of h
                subst h
                exact runs_of (C := cfg) (objs := []) (sc := [.res (kinfolklaw02_awake_out b), .br false, .res (event_Leaf_out n (n2, n3)), .br false, .br false, .br false, .br true, .res (event_Node_out base n2 T_event_halves.nil 0 T_event_halves.nil (n4, t, n5)), .br false, .br false, .br true, .br false, .br false, .br false, .res (event_Leaf_out 1 (n6, n7)), .lp (kinfolklaw02_EventLimits_L0_ex (IntKind.i64.wrap (irem .u8 depth 19)) (IntKind.i64.wrap (irem .u8 depth 19)) (.inl ())).1 (kinfolklaw02_EventLimits_L0_ex (IntKind.i64.wrap (irem .u8 depth 19)) (IntKind.i64.wrap (irem .u8 depth 19)) (.inl ())).2]) (.k0 (an_ (kinfolklaw02_awake_runs N _ h1) (an_ (not_of2 h2) (an_ (event_Leaf_runs n _ h3) (an_ (not_of2 h4) (an_ (not_of2 h5) (an_ (rfl : false = false) (an_ h5 (an_ (Runs.coe (as' := [(.one (.pv (.int .u64 base))), (.agg [(.pv (.int .u64 n2)), (.pv (T_event_halves.pv T_event_halves.nil))]), (.agg [(.pv (.int .u64 0)), (.pv .nilp)])]) (objs' := []) (rows' := []) (event_Node_runs N base n2 T_event_halves.nil 0 T_event_halves.nil _ h6) ⟨.eq rfl, ⟨.eq rfl, .eq rfl, trivial⟩, ⟨.eq rfl, .eq rfl, trivial⟩, trivial⟩ trivial trivial) (an_ h7 (an_ (not_of2 h8) (an_ (rfl : true = true) (an_ (not_of2 h9) (an_ (rfl : false = false) (an_ (rfl : false = false) (an_ (event_Leaf_runs 1 _ h10) (an_ (rfl : true = true) (an_ (kinfolklaw02_EventLimits_L0_runs N (IntKind.i64.wrap (irem .u8 depth 19)) (IntKind.i64.wrap (irem .u8 depth 19)) _ _ h11) trivial))))))))))))))))) (by kernel_rfl))
              · obtain ⟨n9, h12, h⟩ := bind_of h
                have h := some_of h
                subst h
                exact runs_of (C := cfg) (objs := []) (sc := [.res (kinfolklaw02_awake_out b), .br false, .res (event_Leaf_out n (n2, n3)), .br false, .br false, .br false, .br true, .res (event_Node_out base n2 T_event_halves.nil 0 T_event_halves.nil (n4, t, n5)), .br false, .br false, .br true, .br false, .br false, .br false, .res (event_Leaf_out 1 (n6, n7)), .lp (kinfolklaw02_EventLimits_L0_ex (IntKind.i64.wrap (irem .u8 depth 19)) (IntKind.i64.wrap (irem .u8 depth 19)) (.inr (n8, t2))).1 (kinfolklaw02_EventLimits_L0_ex (IntKind.i64.wrap (irem .u8 depth 19)) (IntKind.i64.wrap (irem .u8 depth 19)) (.inr (n8, t2))).2, .res (event_Event_Depth_out n8 t2 n9)]) (.k0 (an_ (kinfolklaw02_awake_runs N _ h1) (an_ (not_of2 h2) (an_ (event_Leaf_runs n _ h3) (an_ (not_of2 h4) (an_ (not_of2 h5) (an_ (rfl : false = false) (an_ h5 (an_ (Runs.coe (as' := [(.one (.pv (.int .u64 base))), (.agg [(.pv (.int .u64 n2)), (.pv (T_event_halves.pv T_event_halves.nil))]), (.agg [(.pv (.int .u64 0)), (.pv .nilp)])]) (objs' := []) (rows' := []) (event_Node_runs N base n2 T_event_halves.nil 0 T_event_halves.nil _ h6) ⟨.eq rfl, ⟨.eq rfl, .eq rfl, trivial⟩, ⟨.eq rfl, .eq rfl, trivial⟩, trivial⟩ trivial trivial) (an_ h7 (an_ (not_of2 h8) (an_ (rfl : true = true) (an_ (not_of2 h9) (an_ (rfl : false = false) (an_ (rfl : false = false) (an_ (event_Leaf_runs 1 _ h10) (an_ (rfl : true = true) (an_ (kinfolklaw02_EventLimits_L0_runs N (IntKind.i64.wrap (irem .u8 depth 19)) (IntKind.i64.wrap (irem .u8 depth 19)) _ _ h11) (an_ (event_Event_Depth_runs N n8 t2 _ h12) trivial)))))))))))))))))) (by kernel_rfl))
            · have h := some_of h
              subst h
              exact runs_of (C := cfg) (objs := []) (sc := [.res (kinfolklaw02_awake_out b), .br false, .res (event_Leaf_out n (n2, n3)), .br false, .br false, .br false, .br true, .res (event_Node_out base n2 T_event_halves.nil 0 T_event_halves.nil (n4, t, n5)), .br false, .br false, .br true, .br true, .br true]) (.k0 (an_ (kinfolklaw02_awake_runs N _ h1) (an_ (not_of2 h2) (an_ (event_Leaf_runs n _ h3) (an_ (not_of2 h4) (an_ (not_of2 h5) (an_ (rfl : false = false) (an_ h5 (an_ (Runs.coe (as' := [(.one (.pv (.int .u64 base))), (.agg [(.pv (.int .u64 n2)), (.pv (T_event_halves.pv T_event_halves.nil))]), (.agg [(.pv (.int .u64 0)), (.pv .nilp)])]) (objs' := []) (rows' := []) (event_Node_runs N base n2 T_event_halves.nil 0 T_event_halves.nil _ h6) ⟨.eq rfl, ⟨.eq rfl, .eq rfl, trivial⟩, ⟨.eq rfl, .eq rfl, trivial⟩, trivial⟩ trivial trivial) (an_ h7 (an_ (not_of2 h8) (an_ (rfl : true = true) (an_ (not_of h9) (an_ (rfl : true = true) trivial))))))))))))) (by kernel_rfl))
          · have h := some_of h
            subst h
            exact runs_of (C := cfg) (objs := []) (sc := [.res (kinfolklaw02_awake_out b), .br false, .res (event_Leaf_out n (n2, n3)), .br false, .br false, .br false, .br true, .res (event_Node_out base n2 T_event_halves.nil 0 T_event_halves.nil (n4, t, n5)), .br false, .br true, .br true, .br true]) (.k0 (an_ (kinfolklaw02_awake_runs N _ h1) (an_ (not_of2 h2) (an_ (event_Leaf_runs n _ h3) (an_ (not_of2 h4) (an_ (not_of2 h5) (an_ (rfl : false = false) (an_ h5 (an_ (Runs.coe (as' := [(.one (.pv (.int .u64 base))), (.agg [(.pv (.int .u64 n2)), (.pv (T_event_halves.pv T_event_halves.nil))]), (.agg [(.pv (.int .u64 0)), (.pv .nilp)])]) (objs' := []) (rows' := []) (event_Node_runs N base n2 T_event_halves.nil 0 T_event_halves.nil _ h6) ⟨.eq rfl, ⟨.eq rfl, .eq rfl, trivial⟩, ⟨.eq rfl, .eq rfl, trivial⟩, trivial⟩ trivial trivial) (an_ h7 (an_ (not_of h8) (an_ (rfl : true = true) (an_ (rfl : true = true) trivial)))))))))))) (by kernel_rfl))
      · rcases cond_of h with ⟨h6, h⟩ | ⟨h6, h⟩
        · obtain ⟨s, h7, h⟩ := bind_of h
          rcases cond_of h with ⟨h8, h⟩ | ⟨h8, h⟩
          · obtain ⟨⟨n4, n5⟩, h9, h⟩ := bind_of h
            obtain ⟨z_, h10, h⟩ := bind_of h
            rcases z_ with _ | ⟨n6, t⟩
            · have h := some_of h
              subst h
              exact runs_of (C := cfg) (objs := []) (sc := [.res (kinfolklaw02_awake_out b), .br false, .res (event_Leaf_out n (n2, n3)), .br false, .br true, .br false, .res (event_Event_Text_out n2 T_event_halves.nil s), .br false, .br false, .res (event_Leaf_out 1 (n4, n5)), .lp (kinfolklaw02_EventLimits_L0_ex (IntKind.i64.wrap (irem .u8 depth 19)) (IntKind.i64.wrap (irem .u8 depth 19)) (.inl ())).1 (kinfolklaw02_EventLimits_L0_ex (IntKind.i64.wrap (irem .u8 depth 19)) (IntKind.i64.wrap (irem .u8 depth 19)) (.inl ())).2]) (.k0 (an_ (kinfolklaw02_awake_runs N _ h1) (an_ (not_of2 h2) (an_ (event_Leaf_runs n _ h3) (an_ (not_of2 h4) (an_ (not_of h5) (an_ (not_of2 h6) (an_ (event_Event_Text_runs N n2 T_event_halves.nil _ h7) (an_ (not_of2 h8) (an_ h5 (an_ (event_Leaf_runs 1 _ h9) (an_ (rfl : true = true) (an_ (kinfolklaw02_EventLimits_L0_runs N (IntKind.i64.wrap (irem .u8 depth 19)) (IntKind.i64.wrap (irem .u8 depth 19)) _ _ h10) trivial)))))))))))) (by kernel_rfl))
            · obtain ⟨n7, h11, h⟩ := bind_of h
              have h := some_of h
              subst h
              exact runs_of (C := cfg) (objs := []) (sc := [.res (kinfolklaw02_awake_out b), .br false, .res (event_Leaf_out n (n2, n3)), .br false, .br true, .br false, .res (event_Event_Text_out n2 T_event_halves.nil s), .br false, .br false, .res (event_Leaf_out 1 (n4, n5)), .lp (kinfolklaw02_EventLimits_L0_ex (IntKind.i64.wrap (irem .u8 depth 19)) (IntKind.i64.wrap (irem .u8 depth 19)) (.inr (n6, t))).1 (kinfolklaw02_EventLimits_L0_ex (IntKind.i64.wrap (irem .u8 depth 19)) (IntKind.i64.wrap (irem .u8 depth 19)) (.inr (n6, t))).2, .res (event_Event_Depth_out n6 t n7)]) (.k0 (an_ (kinfolklaw02_awake_runs N _ h1) (an_ (not_of2 h2) (an_ (event_Leaf_runs n _ h3) (an_ (not_of2 h4) (an_ (not_of h5) (an_ (not_of2 h6) (an_ (event_Event_Text_runs N n2 T_event_halves.nil _ h7) (an_ (not_of2 h8) (an_ h5 (an_ (event_Leaf_runs 1 _ h9) (an_ (rfl : true = true) (an_ (kinfolklaw02_EventLimits_L0_runs N (IntKind.i64.wrap (irem .u8 depth 19)) (IntKind.i64.wrap (irem .u8 depth 19)) _ _ h10) (an_ (event_Event_Depth_runs N n6 t _ h11) trivial))))))))))))) (by kernel_rfl))
          · have h := some_of h
            subst h
            exact runs_of (C := cfg) (objs := []) (sc := [.res (kinfolklaw02_awake_out b), .br false, .res (event_Leaf_out n (n2, n3)), .br false, .br true, .br false, .res (event_Event_Text_out n2 T_event_halves.nil s), .br true]) (.k0 (an_ (kinfolklaw02_awake_runs N _ h1) (an_ (not_of2 h2) (an_ (event_Leaf_runs n _ h3) (an_ (not_of2 h4) (an_ (not_of h5) (an_ (not_of2 h6) (an_ (event_Event_Text_runs N n2 T_event_halves.nil _ h7) (an_ (not_of h8) trivial)))))))) (by kernel_rfl))
        · have h := some_of h
          subst h
          exact runs_of (C := cfg) (objs := []) (sc := [.res (kinfolklaw02_awake_out b), .br false, .res (event_Leaf_out n (n2, n3)), .br false, .br true, .br true, .br true]) (.k0 (an_ (kinfolklaw02_awake_runs N _ h1) (an_ (not_of2 h2) (an_ (event_Leaf_runs n _ h3) (an_ (not_of2 h4) (an_ (not_of h5) (an_ (not_of h6) (an_ (rfl : true = true) trivial))))))) (by kernel_rfl))
    · have h := some_of h
      subst h
      exact runs_of (C := cfg) (objs := []) (sc := [.res (kinfolklaw02_awake_out b), .br false, .res (event_Leaf_out n (n2, n3)), .br true, .br true]) (.k0 (an_ (kinfolklaw02_awake_runs N _ h1) (an_ (not_of2 h2) (an_ (event_Leaf_runs n _ h3) (an_ (not_of h4) (an_ (rfl : true = true) trivial))))) (by kernel_rfl))
  · have h := some_of h
    subst h
    exact runs_of (C := cfg) (objs := []) (sc := [.res (kinfolklaw02_awake_out b), .br true]) (.k0 (an_ (kinfolklaw02_awake_runs N _ h1) (an_ (not_of h2) trivial)) (by kernel_rfl))

end Go.Proofs.YtjjakdmcnkldoaaDoor
