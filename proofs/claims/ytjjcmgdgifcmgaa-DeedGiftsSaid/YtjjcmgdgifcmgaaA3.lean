/- What functions compute, and that they do. -/
import Derived.Test.YtjjcmgdgifcmgaaA2
set_option linter.unusedVariables false
set_option linter.unusedSimpArgs false
set_option maxRecDepth 100000
namespace Go.Proofs.Ytjjcmgdgifcmgaa
open Go.Ev

/-! ### code_source_id_2 -/
noncomputable def code_source_id_2_b (N : Nat) (rec_code_source_id_2 : Int → Int → List Int → Int → Int → Option (Bool × T_id_halves × Int × Int × Int)) (depth : Int) (n : Int) (l : List Int) (n2 : Int) (n3 : Int) : Option (Bool × T_id_halves × Int × Int × Int) :=
  (id_Zero).bind fun _ =>
  (code_source_bit 2 n l n2 n3).bind fun (n4, n5, n6, n7) =>
  bif (decide ((n4 : Int) = 0)) then
    (code_source_bit 1 n5 l n6 n7).bind fun (n8, n9, n10, n11) =>
    bif (decide ((n8 : Int) = 1)) then
      (id_One).bind fun _ =>
      some (true, T_id_halves.nil, n9, n10, n11)
    else
      some (false, T_id_halves.nil, n9, n10, n11)
  else
    (code_source_id_C22 depth n4 (decide ((depth : Int) = 16)) n5 l n6 n7).bind fun n8 =>
    (code_source_ok n8 l n6 n7).bind fun (b, n9) =>
    bif b then
      (code_source_id_C30 rec_code_source_id_2 depth n4 (!(decide ((n4 : Int) = 1))) n9 l n6 n7).bind fun (n10, n11, n12, b2, t) =>
      (code_source_ok n10 l n11 n12).bind fun (b3, n13) =>
      bif b3 then
        (code_source_id_C40 rec_code_source_id_2 depth n4 (!(decide ((n4 : Int) = 2))) n13 l n11 n12 b2 t).bind fun (n14, n15, n16, b4, t2) =>
        (id_ID_IsZero b2 t).bind fun b5 =>
        bif (b5 == (decide ((n4 : Int) = 1))) then
          (id_ID_IsZero b4 t2).bind fun b6 =>
          bif (b6 == (decide ((n4 : Int) = 2))) then
            (id_ID_IsOne b2 t).bind fun _ =>
            bif b2 then
              (id_ID_IsOne b4 t2).bind fun _ =>
              (code_source_must (!b4) n14 l n15 n16).bind fun n17 =>
              (id_Pair N b2 t b4 t2).bind fun (b7, t3, n18) =>
              some (b7, t3, n17, n15, n16)
            else
              (code_source_must true n14 l n15 n16).bind fun n17 =>
              (id_Pair N b2 t b4 t2).bind fun (b7, t3, n18) =>
              some (b7, t3, n17, n15, n16)
          else
            (code_source_must false n14 l n15 n16).bind fun n17 =>
            (id_Pair N b2 t b4 t2).bind fun (b7, t3, n18) =>
            some (b7, t3, n17, n15, n16)
        else
          (code_source_must false n14 l n15 n16).bind fun n17 =>
          (id_Pair N b2 t b4 t2).bind fun (b6, t3, n18) =>
          some (b6, t3, n17, n15, n16)
      else
        (id_ID_IsZero b2 t).bind fun b4 =>
        bif (b4 == (decide ((n4 : Int) = 1))) then
          (id_ID_IsZero false T_id_halves.nil).bind fun b5 =>
          bif (b5 == (decide ((n4 : Int) = 2))) then
            (id_ID_IsOne b2 t).bind fun _ =>
            bif b2 then
              (id_ID_IsOne false T_id_halves.nil).bind fun _ =>
              (code_source_must true n13 l n11 n12).bind fun n14 =>
              (id_Pair N b2 t false T_id_halves.nil).bind fun (b6, t2, n15) =>
              some (b6, t2, n14, n11, n12)
            else
              (code_source_must true n13 l n11 n12).bind fun n14 =>
              (id_Pair N b2 t false T_id_halves.nil).bind fun (b6, t2, n15) =>
              some (b6, t2, n14, n11, n12)
          else
            (code_source_must false n13 l n11 n12).bind fun n14 =>
            (id_Pair N b2 t false T_id_halves.nil).bind fun (b6, t2, n15) =>
            some (b6, t2, n14, n11, n12)
        else
          (code_source_must false n13 l n11 n12).bind fun n14 =>
          (id_Pair N b2 t false T_id_halves.nil).bind fun (b5, t2, n15) =>
          some (b5, t2, n14, n11, n12)
    else
      (code_source_ok n9 l n6 n7).bind fun (b2, n10) =>
      bif b2 then
        (code_source_id_C40_2 rec_code_source_id_2 depth n4 (!(decide ((n4 : Int) = 2))) n10 l n6 n7).bind fun (n11, n12, n13, b3, t) =>
        (id_ID_IsZero false T_id_halves.nil).bind fun b4 =>
        bif (b4 == (decide ((n4 : Int) = 1))) then
          (id_ID_IsZero b3 t).bind fun b5 =>
          bif (b5 == (decide ((n4 : Int) = 2))) then
            (id_ID_IsOne false T_id_halves.nil).bind fun _ =>
            (code_source_must true n11 l n12 n13).bind fun n14 =>
            (id_Pair N false T_id_halves.nil b3 t).bind fun (b6, t2, n15) =>
            some (b6, t2, n14, n12, n13)
          else
            (code_source_must false n11 l n12 n13).bind fun n14 =>
            (id_Pair N false T_id_halves.nil b3 t).bind fun (b6, t2, n15) =>
            some (b6, t2, n14, n12, n13)
        else
          (code_source_must false n11 l n12 n13).bind fun n14 =>
          (id_Pair N false T_id_halves.nil b3 t).bind fun (b5, t2, n15) =>
          some (b5, t2, n14, n12, n13)
      else
        (id_ID_IsZero false T_id_halves.nil).bind fun b3 =>
        bif (b3 == (decide ((n4 : Int) = 1))) then
          bif (b3 == (decide ((n4 : Int) = 2))) then
            (id_ID_IsOne false T_id_halves.nil).bind fun _ =>
            (code_source_must true n10 l n6 n7).bind fun n11 =>
            (id_Pair N false T_id_halves.nil false T_id_halves.nil).bind fun (b4, t, n12) =>
            some (b4, t, n11, n6, n7)
          else
            (code_source_must false n10 l n6 n7).bind fun n11 =>
            (id_Pair N false T_id_halves.nil false T_id_halves.nil).bind fun (b4, t, n12) =>
            some (b4, t, n11, n6, n7)
        else
          (code_source_must false n10 l n6 n7).bind fun n11 =>
          (id_Pair N false T_id_halves.nil false T_id_halves.nil).bind fun (b4, t, n12) =>
          some (b4, t, n11, n6, n7)
theorem code_source_id_2_b_runs (N : Nat) (rec_code_source_id_2 : Int → Int → List Int → Int → Int → Option (Bool × T_id_halves × Int × Int × Int)) (hrec_code_source_id_2 : ∀ depth n l n2 n3 r_, rec_code_source_id_2 depth n l n2 n3 = some r_ → Runs Try.prog 89 [(.one (.ref 0 0)), (.one (.pv (.int .i64 depth)))] [[(.ref 1 0), (.pv (.int .i64 n))], [(.pv (.ints .u8 l false)), (.pv (.int .i64 n2)), (.pv (.int .i64 n3))]] [] (code_source_id_2_out depth n l n2 n3 r_)) (depth : Int) (n : Int) (l : List Int) (n2 : Int) (n3 : Int) (r_ : Bool × T_id_halves × Int × Int × Int) (h : code_source_id_2_b N rec_code_source_id_2 depth n l n2 n3 = some r_) : Runs Try.prog 89 [(.one (.ref 0 0)), (.one (.pv (.int .i64 depth)))] [[(.ref 1 0), (.pv (.int .i64 n))], [(.pv (.ints .u8 l false)), (.pv (.int .i64 n2)), (.pv (.int .i64 n3))]] [] (code_source_id_2_out depth n l n2 n3 r_) := by
  unfold code_source_id_2_b at h
  obtain ⟨_, h1, h⟩ := bind_of h
  obtain ⟨⟨n4, n5, n6, n7⟩, h2, h⟩ := bind_of h
  rcases cond_of h with ⟨h3, h⟩ | ⟨h3, h⟩
  · obtain ⟨⟨n8, n9, n10, n11⟩, h4, h⟩ := bind_of h
    rcases cond_of h with ⟨h5, h⟩ | ⟨h5, h⟩
    · obtain ⟨_, h6, h⟩ := bind_of h
      have h := some_of h
      subst h
      exact runs_of (C := cfg) (objs := [[(.ref 1 0), (.pv (.int .i64 n))], [(.pv (.ints .u8 l false)), (.pv (.int .i64 n2)), (.pv (.int .i64 n3))]]) (sc := [.res (id_Zero_out ()), .res (id_Zero_out ()), .res (code_source_bit_out 2 n l n2 n3 (n4, n5, n6, n7)), .br true, .res (code_source_bit_out 1 n5 l n6 n7 (n8, n9, n10, n11)), .br true, .res (id_One_out ())]) (.k0 (an_ (id_Zero_runs _ h1) (an_ (id_Zero_runs _ h1) (an_ (code_source_bit_runs 2 n l n2 n3 _ h2) (an_ h3 (an_ (code_source_bit_runs 1 n5 l n6 n7 _ h4) (an_ h5 (an_ (id_One_runs _ h6) trivial))))))) (by kernel_rfl))
    · have h := some_of h
      subst h
      exact runs_of (C := cfg) (objs := [[(.ref 1 0), (.pv (.int .i64 n))], [(.pv (.ints .u8 l false)), (.pv (.int .i64 n2)), (.pv (.int .i64 n3))]]) (sc := [.res (id_Zero_out ()), .res (id_Zero_out ()), .res (code_source_bit_out 2 n l n2 n3 (n4, n5, n6, n7)), .br true, .res (code_source_bit_out 1 n5 l n6 n7 (n8, n9, n10, n11)), .br false, .res (id_Zero_out ())]) (.k0 (an_ (id_Zero_runs _ h1) (an_ (id_Zero_runs _ h1) (an_ (code_source_bit_runs 2 n l n2 n3 _ h2) (an_ h3 (an_ (code_source_bit_runs 1 n5 l n6 n7 _ h4) (an_ h5 (an_ (id_Zero_runs _ h1) trivial))))))) (by kernel_rfl))
  · obtain ⟨n8, h4, h⟩ := bind_of h
    obtain ⟨⟨b, n9⟩, h5, h⟩ := bind_of h
    rcases cond_of h with ⟨h6, h⟩ | ⟨h6, h⟩
    · obtain ⟨⟨n10, n11, n12, b2, t⟩, h7, h⟩ := bind_of h
      obtain ⟨⟨b3, n13⟩, h8, h⟩ := bind_of h
      rcases cond_of h with ⟨h9, h⟩ | ⟨h9, h⟩
      · obtain ⟨⟨n14, n15, n16, b4, t2⟩, h10, h⟩ := bind_of h
        obtain ⟨b5, h11, h⟩ := bind_of h
        rcases cond_of h with ⟨h12, h⟩ | ⟨h12, h⟩
        · obtain ⟨b6, h13, h⟩ := bind_of h
          rcases cond_of h with ⟨h14, h⟩ | ⟨h14, h⟩
          · obtain ⟨_, h15, h⟩ := bind_of h
            rcases cond_of h with ⟨h16, h⟩ | ⟨h16, h⟩
            · obtain ⟨_, h17, h⟩ := bind_of h
              obtain ⟨n17, h18, h⟩ := bind_of h
              obtain ⟨⟨b7, t3, n18⟩, h19, h⟩ := bind_of h
              have h := some_of h
              subst h
              exact runs_of (C := cfg) (objs := [[(.ref 1 0), (.pv (.int .i64 n))], [(.pv (.ints .u8 l false)), (.pv (.int .i64 n2)), (.pv (.int .i64 n3))]]) (sc := [.res (id_Zero_out ()), .res (id_Zero_out ()), .res (code_source_bit_out 2 n l n2 n3 (n4, n5, n6, n7)), .br false, .lp (code_source_id_C22_ex depth n4 (decide ((depth : Int) = 16)) n5 l n6 n7 n8).1 (code_source_id_C22_ex depth n4 (decide ((depth : Int) = 16)) n5 l n6 n7 n8).2, .res (code_source_ok_out n8 l n6 n7 (b, n9)), .br true, .lp (code_source_id_C30_ex depth n4 (!(decide ((n4 : Int) = 1))) n9 l n6 n7 (n10, n11, n12, b2, t)).1 (code_source_id_C30_ex depth n4 (!(decide ((n4 : Int) = 1))) n9 l n6 n7 (n10, n11, n12, b2, t)).2, .res (code_source_ok_out n10 l n11 n12 (b3, n13)), .br true, .lp (code_source_id_C40_ex depth n4 (!(decide ((n4 : Int) = 2))) n13 l n11 n12 b2 t (n14, n15, n16, b4, t2)).1 (code_source_id_C40_ex depth n4 (!(decide ((n4 : Int) = 2))) n13 l n11 n12 b2 t (n14, n15, n16, b4, t2)).2, .res (id_ID_IsZero_out b2 t b5), .br true, .res (id_ID_IsZero_out b4 t2 b6), .br true, .res (id_ID_IsOne_out b2 t ()), .br true, .res (id_ID_IsOne_out b4 t2 ()), .res (code_source_must_out (!b4) n14 l n15 n16 n17), .res (id_Pair_out b2 t b4 t2 (b7, t3, n18))]) (.k0 (an_ (id_Zero_runs _ h1) (an_ (id_Zero_runs _ h1) (an_ (code_source_bit_runs 2 n l n2 n3 _ h2) (an_ h3 (an_ (LRuns.coe (s0 := ⟨[(0, (.av (.one (.ref 0 0)))), (1, (.av (.one (.pv (.int .i64 depth))))), (4, (.av (.one (.ref 2 0)))), (5, (.av (.one (.ref 3 0)))), (6, (.av (.one (.ref 4 0)))), (7, (.av (.one (.pv (.int .u64 n4))))), (22, (.av (.one (.pv (.bool (decide ((depth : Int) = 16)))))))], [(0, [(.ref 1 0), (.pv (.int .i64 n5))]), (1, [(.pv (.ints .u8 l false)), (.pv (.int .i64 n6)), (.pv (.int .i64 n7))]), (2, [(.pv (.bool false)), (.pv .nilp)]), (3, [(.pv (.bool false)), (.pv (T_id_halves.pv T_id_halves.nil))]), (4, [(.pv (.bool false)), (.pv (T_id_halves.pv T_id_halves.nil))])], []⟩) (code_source_id_C22_runs depth n4 (decide ((depth : Int) = 16)) n5 l n6 n7 _ h4) ⟨⟨⟨_, rfl, .eq rfl⟩, ⟨_, rfl, .eq rfl⟩, ⟨_, rfl, .eq rfl⟩, ⟨_, rfl, .eq rfl⟩, ⟨_, rfl, .eq rfl⟩, ⟨_, rfl, .eq rfl⟩, ⟨_, rfl, .eq rfl⟩, trivial⟩, ⟨⟨rfl, ⟨.eq rfl, .eq rfl, trivial⟩⟩, ⟨rfl, ⟨.eq rfl, .eq rfl, .eq rfl, trivial⟩⟩, ⟨rfl, ⟨.eq rfl, .eq rfl, trivial⟩⟩, ⟨rfl, ⟨.eq rfl, .eq rfl, trivial⟩⟩, ⟨rfl, ⟨.eq rfl, .eq rfl, trivial⟩⟩, trivial⟩, trivial⟩) (an_ (code_source_ok_runs n8 l n6 n7 _ h5) (an_ h6 (an_ (code_source_id_C30_runs rec_code_source_id_2 hrec_code_source_id_2 depth n4 (!(decide ((n4 : Int) = 1))) n9 l n6 n7 _ h7) (an_ (code_source_ok_runs n10 l n11 n12 _ h8) (an_ h9 (an_ (code_source_id_C40_runs rec_code_source_id_2 hrec_code_source_id_2 depth n4 (!(decide ((n4 : Int) = 2))) n13 l n11 n12 b2 t _ h10) (an_ (id_ID_IsZero_runs b2 t _ h11) (an_ h12 (an_ (id_ID_IsZero_runs b4 t2 _ h13) (an_ h14 (an_ (id_ID_IsOne_runs b2 t _ h15) (an_ h16 (an_ (id_ID_IsOne_runs b4 t2 _ h17) (an_ (code_source_must_runs (!b4) n14 l n15 n16 _ h18) (an_ (id_Pair_runs N b2 t b4 t2 _ h19) trivial)))))))))))))))))))) (by kernel_rfl))
            · obtain ⟨n17, h17, h⟩ := bind_of h
              obtain ⟨⟨b7, t3, n18⟩, h18, h⟩ := bind_of h
              have h := some_of h
              subst h
              exact runs_of (C := cfg) (objs := [[(.ref 1 0), (.pv (.int .i64 n))], [(.pv (.ints .u8 l false)), (.pv (.int .i64 n2)), (.pv (.int .i64 n3))]]) (sc := [.res (id_Zero_out ()), .res (id_Zero_out ()), .res (code_source_bit_out 2 n l n2 n3 (n4, n5, n6, n7)), .br false, .lp (code_source_id_C22_ex depth n4 (decide ((depth : Int) = 16)) n5 l n6 n7 n8).1 (code_source_id_C22_ex depth n4 (decide ((depth : Int) = 16)) n5 l n6 n7 n8).2, .res (code_source_ok_out n8 l n6 n7 (b, n9)), .br true, .lp (code_source_id_C30_ex depth n4 (!(decide ((n4 : Int) = 1))) n9 l n6 n7 (n10, n11, n12, b2, t)).1 (code_source_id_C30_ex depth n4 (!(decide ((n4 : Int) = 1))) n9 l n6 n7 (n10, n11, n12, b2, t)).2, .res (code_source_ok_out n10 l n11 n12 (b3, n13)), .br true, .lp (code_source_id_C40_ex depth n4 (!(decide ((n4 : Int) = 2))) n13 l n11 n12 b2 t (n14, n15, n16, b4, t2)).1 (code_source_id_C40_ex depth n4 (!(decide ((n4 : Int) = 2))) n13 l n11 n12 b2 t (n14, n15, n16, b4, t2)).2, .res (id_ID_IsZero_out b2 t b5), .br true, .res (id_ID_IsZero_out b4 t2 b6), .br true, .res (id_ID_IsOne_out b2 t ()), .br false, .res (code_source_must_out true n14 l n15 n16 n17), .res (id_Pair_out b2 t b4 t2 (b7, t3, n18))]) (.k0 (an_ (id_Zero_runs _ h1) (an_ (id_Zero_runs _ h1) (an_ (code_source_bit_runs 2 n l n2 n3 _ h2) (an_ h3 (an_ (LRuns.coe (s0 := ⟨[(0, (.av (.one (.ref 0 0)))), (1, (.av (.one (.pv (.int .i64 depth))))), (4, (.av (.one (.ref 2 0)))), (5, (.av (.one (.ref 3 0)))), (6, (.av (.one (.ref 4 0)))), (7, (.av (.one (.pv (.int .u64 n4))))), (22, (.av (.one (.pv (.bool (decide ((depth : Int) = 16)))))))], [(0, [(.ref 1 0), (.pv (.int .i64 n5))]), (1, [(.pv (.ints .u8 l false)), (.pv (.int .i64 n6)), (.pv (.int .i64 n7))]), (2, [(.pv (.bool false)), (.pv .nilp)]), (3, [(.pv (.bool false)), (.pv (T_id_halves.pv T_id_halves.nil))]), (4, [(.pv (.bool false)), (.pv (T_id_halves.pv T_id_halves.nil))])], []⟩) (code_source_id_C22_runs depth n4 (decide ((depth : Int) = 16)) n5 l n6 n7 _ h4) ⟨⟨⟨_, rfl, .eq rfl⟩, ⟨_, rfl, .eq rfl⟩, ⟨_, rfl, .eq rfl⟩, ⟨_, rfl, .eq rfl⟩, ⟨_, rfl, .eq rfl⟩, ⟨_, rfl, .eq rfl⟩, ⟨_, rfl, .eq rfl⟩, trivial⟩, ⟨⟨rfl, ⟨.eq rfl, .eq rfl, trivial⟩⟩, ⟨rfl, ⟨.eq rfl, .eq rfl, .eq rfl, trivial⟩⟩, ⟨rfl, ⟨.eq rfl, .eq rfl, trivial⟩⟩, ⟨rfl, ⟨.eq rfl, .eq rfl, trivial⟩⟩, ⟨rfl, ⟨.eq rfl, .eq rfl, trivial⟩⟩, trivial⟩, trivial⟩) (an_ (code_source_ok_runs n8 l n6 n7 _ h5) (an_ h6 (an_ (code_source_id_C30_runs rec_code_source_id_2 hrec_code_source_id_2 depth n4 (!(decide ((n4 : Int) = 1))) n9 l n6 n7 _ h7) (an_ (code_source_ok_runs n10 l n11 n12 _ h8) (an_ h9 (an_ (code_source_id_C40_runs rec_code_source_id_2 hrec_code_source_id_2 depth n4 (!(decide ((n4 : Int) = 2))) n13 l n11 n12 b2 t _ h10) (an_ (id_ID_IsZero_runs b2 t _ h11) (an_ h12 (an_ (id_ID_IsZero_runs b4 t2 _ h13) (an_ h14 (an_ (id_ID_IsOne_runs b2 t _ h15) (an_ h16 (an_ (code_source_must_runs true n14 l n15 n16 _ h17) (an_ (id_Pair_runs N b2 t b4 t2 _ h18) trivial))))))))))))))))))) (by kernel_rfl))
          · obtain ⟨n17, h15, h⟩ := bind_of h
            obtain ⟨⟨b7, t3, n18⟩, h16, h⟩ := bind_of h
            have h := some_of h
            subst h
            exact runs_of (C := cfg) (objs := [[(.ref 1 0), (.pv (.int .i64 n))], [(.pv (.ints .u8 l false)), (.pv (.int .i64 n2)), (.pv (.int .i64 n3))]]) (sc := [.res (id_Zero_out ()), .res (id_Zero_out ()), .res (code_source_bit_out 2 n l n2 n3 (n4, n5, n6, n7)), .br false, .lp (code_source_id_C22_ex depth n4 (decide ((depth : Int) = 16)) n5 l n6 n7 n8).1 (code_source_id_C22_ex depth n4 (decide ((depth : Int) = 16)) n5 l n6 n7 n8).2, .res (code_source_ok_out n8 l n6 n7 (b, n9)), .br true, .lp (code_source_id_C30_ex depth n4 (!(decide ((n4 : Int) = 1))) n9 l n6 n7 (n10, n11, n12, b2, t)).1 (code_source_id_C30_ex depth n4 (!(decide ((n4 : Int) = 1))) n9 l n6 n7 (n10, n11, n12, b2, t)).2, .res (code_source_ok_out n10 l n11 n12 (b3, n13)), .br true, .lp (code_source_id_C40_ex depth n4 (!(decide ((n4 : Int) = 2))) n13 l n11 n12 b2 t (n14, n15, n16, b4, t2)).1 (code_source_id_C40_ex depth n4 (!(decide ((n4 : Int) = 2))) n13 l n11 n12 b2 t (n14, n15, n16, b4, t2)).2, .res (id_ID_IsZero_out b2 t b5), .br true, .res (id_ID_IsZero_out b4 t2 b6), .br false, .res (code_source_must_out false n14 l n15 n16 n17), .res (id_Pair_out b2 t b4 t2 (b7, t3, n18))]) (.k0 (an_ (id_Zero_runs _ h1) (an_ (id_Zero_runs _ h1) (an_ (code_source_bit_runs 2 n l n2 n3 _ h2) (an_ h3 (an_ (LRuns.coe (s0 := ⟨[(0, (.av (.one (.ref 0 0)))), (1, (.av (.one (.pv (.int .i64 depth))))), (4, (.av (.one (.ref 2 0)))), (5, (.av (.one (.ref 3 0)))), (6, (.av (.one (.ref 4 0)))), (7, (.av (.one (.pv (.int .u64 n4))))), (22, (.av (.one (.pv (.bool (decide ((depth : Int) = 16)))))))], [(0, [(.ref 1 0), (.pv (.int .i64 n5))]), (1, [(.pv (.ints .u8 l false)), (.pv (.int .i64 n6)), (.pv (.int .i64 n7))]), (2, [(.pv (.bool false)), (.pv .nilp)]), (3, [(.pv (.bool false)), (.pv (T_id_halves.pv T_id_halves.nil))]), (4, [(.pv (.bool false)), (.pv (T_id_halves.pv T_id_halves.nil))])], []⟩) (code_source_id_C22_runs depth n4 (decide ((depth : Int) = 16)) n5 l n6 n7 _ h4) ⟨⟨⟨_, rfl, .eq rfl⟩, ⟨_, rfl, .eq rfl⟩, ⟨_, rfl, .eq rfl⟩, ⟨_, rfl, .eq rfl⟩, ⟨_, rfl, .eq rfl⟩, ⟨_, rfl, .eq rfl⟩, ⟨_, rfl, .eq rfl⟩, trivial⟩, ⟨⟨rfl, ⟨.eq rfl, .eq rfl, trivial⟩⟩, ⟨rfl, ⟨.eq rfl, .eq rfl, .eq rfl, trivial⟩⟩, ⟨rfl, ⟨.eq rfl, .eq rfl, trivial⟩⟩, ⟨rfl, ⟨.eq rfl, .eq rfl, trivial⟩⟩, ⟨rfl, ⟨.eq rfl, .eq rfl, trivial⟩⟩, trivial⟩, trivial⟩) (an_ (code_source_ok_runs n8 l n6 n7 _ h5) (an_ h6 (an_ (code_source_id_C30_runs rec_code_source_id_2 hrec_code_source_id_2 depth n4 (!(decide ((n4 : Int) = 1))) n9 l n6 n7 _ h7) (an_ (code_source_ok_runs n10 l n11 n12 _ h8) (an_ h9 (an_ (code_source_id_C40_runs rec_code_source_id_2 hrec_code_source_id_2 depth n4 (!(decide ((n4 : Int) = 2))) n13 l n11 n12 b2 t _ h10) (an_ (id_ID_IsZero_runs b2 t _ h11) (an_ h12 (an_ (id_ID_IsZero_runs b4 t2 _ h13) (an_ h14 (an_ (code_source_must_runs false n14 l n15 n16 _ h15) (an_ (id_Pair_runs N b2 t b4 t2 _ h16) trivial))))))))))))))))) (by kernel_rfl))
        · obtain ⟨n17, h13, h⟩ := bind_of h
          obtain ⟨⟨b6, t3, n18⟩, h14, h⟩ := bind_of h
          have h := some_of h
          subst h
          exact runs_of (C := cfg) (objs := [[(.ref 1 0), (.pv (.int .i64 n))], [(.pv (.ints .u8 l false)), (.pv (.int .i64 n2)), (.pv (.int .i64 n3))]]) (sc := [.res (id_Zero_out ()), .res (id_Zero_out ()), .res (code_source_bit_out 2 n l n2 n3 (n4, n5, n6, n7)), .br false, .lp (code_source_id_C22_ex depth n4 (decide ((depth : Int) = 16)) n5 l n6 n7 n8).1 (code_source_id_C22_ex depth n4 (decide ((depth : Int) = 16)) n5 l n6 n7 n8).2, .res (code_source_ok_out n8 l n6 n7 (b, n9)), .br true, .lp (code_source_id_C30_ex depth n4 (!(decide ((n4 : Int) = 1))) n9 l n6 n7 (n10, n11, n12, b2, t)).1 (code_source_id_C30_ex depth n4 (!(decide ((n4 : Int) = 1))) n9 l n6 n7 (n10, n11, n12, b2, t)).2, .res (code_source_ok_out n10 l n11 n12 (b3, n13)), .br true, .lp (code_source_id_C40_ex depth n4 (!(decide ((n4 : Int) = 2))) n13 l n11 n12 b2 t (n14, n15, n16, b4, t2)).1 (code_source_id_C40_ex depth n4 (!(decide ((n4 : Int) = 2))) n13 l n11 n12 b2 t (n14, n15, n16, b4, t2)).2, .res (id_ID_IsZero_out b2 t b5), .br false, .br false, .res (code_source_must_out false n14 l n15 n16 n17), .res (id_Pair_out b2 t b4 t2 (b6, t3, n18))]) (.k0 (an_ (id_Zero_runs _ h1) (an_ (id_Zero_runs _ h1) (an_ (code_source_bit_runs 2 n l n2 n3 _ h2) (an_ h3 (an_ (LRuns.coe (s0 := ⟨[(0, (.av (.one (.ref 0 0)))), (1, (.av (.one (.pv (.int .i64 depth))))), (4, (.av (.one (.ref 2 0)))), (5, (.av (.one (.ref 3 0)))), (6, (.av (.one (.ref 4 0)))), (7, (.av (.one (.pv (.int .u64 n4))))), (22, (.av (.one (.pv (.bool (decide ((depth : Int) = 16)))))))], [(0, [(.ref 1 0), (.pv (.int .i64 n5))]), (1, [(.pv (.ints .u8 l false)), (.pv (.int .i64 n6)), (.pv (.int .i64 n7))]), (2, [(.pv (.bool false)), (.pv .nilp)]), (3, [(.pv (.bool false)), (.pv (T_id_halves.pv T_id_halves.nil))]), (4, [(.pv (.bool false)), (.pv (T_id_halves.pv T_id_halves.nil))])], []⟩) (code_source_id_C22_runs depth n4 (decide ((depth : Int) = 16)) n5 l n6 n7 _ h4) ⟨⟨⟨_, rfl, .eq rfl⟩, ⟨_, rfl, .eq rfl⟩, ⟨_, rfl, .eq rfl⟩, ⟨_, rfl, .eq rfl⟩, ⟨_, rfl, .eq rfl⟩, ⟨_, rfl, .eq rfl⟩, ⟨_, rfl, .eq rfl⟩, trivial⟩, ⟨⟨rfl, ⟨.eq rfl, .eq rfl, trivial⟩⟩, ⟨rfl, ⟨.eq rfl, .eq rfl, .eq rfl, trivial⟩⟩, ⟨rfl, ⟨.eq rfl, .eq rfl, trivial⟩⟩, ⟨rfl, ⟨.eq rfl, .eq rfl, trivial⟩⟩, ⟨rfl, ⟨.eq rfl, .eq rfl, trivial⟩⟩, trivial⟩, trivial⟩) (an_ (code_source_ok_runs n8 l n6 n7 _ h5) (an_ h6 (an_ (code_source_id_C30_runs rec_code_source_id_2 hrec_code_source_id_2 depth n4 (!(decide ((n4 : Int) = 1))) n9 l n6 n7 _ h7) (an_ (code_source_ok_runs n10 l n11 n12 _ h8) (an_ h9 (an_ (code_source_id_C40_runs rec_code_source_id_2 hrec_code_source_id_2 depth n4 (!(decide ((n4 : Int) = 2))) n13 l n11 n12 b2 t _ h10) (an_ (id_ID_IsZero_runs b2 t _ h11) (an_ h12 (an_ (rfl : false = false) (an_ (code_source_must_runs false n14 l n15 n16 _ h13) (an_ (id_Pair_runs N b2 t b4 t2 _ h14) trivial)))))))))))))))) (by kernel_rfl))
      · obtain ⟨b4, h10, h⟩ := bind_of h
        rcases cond_of h with ⟨h11, h⟩ | ⟨h11, h⟩
        · obtain ⟨b5, h12, h⟩ := bind_of h
          rcases cond_of h with ⟨h13, h⟩ | ⟨h13, h⟩
          · obtain ⟨_, h14, h⟩ := bind_of h
            rcases cond_of h with ⟨h15, h⟩ | ⟨h15, h⟩
            · obtain ⟨_, h16, h⟩ := bind_of h
              obtain ⟨n14, h17, h⟩ := bind_of h
              obtain ⟨⟨b6, t2, n15⟩, h18, h⟩ := bind_of h
              have h := some_of h
              subst h
              exact runs_of (C := cfg) (objs := [[(.ref 1 0), (.pv (.int .i64 n))], [(.pv (.ints .u8 l false)), (.pv (.int .i64 n2)), (.pv (.int .i64 n3))]]) (sc := [.res (id_Zero_out ()), .res (id_Zero_out ()), .res (code_source_bit_out 2 n l n2 n3 (n4, n5, n6, n7)), .br false, .lp (code_source_id_C22_ex depth n4 (decide ((depth : Int) = 16)) n5 l n6 n7 n8).1 (code_source_id_C22_ex depth n4 (decide ((depth : Int) = 16)) n5 l n6 n7 n8).2, .res (code_source_ok_out n8 l n6 n7 (b, n9)), .br true, .lp (code_source_id_C30_ex depth n4 (!(decide ((n4 : Int) = 1))) n9 l n6 n7 (n10, n11, n12, b2, t)).1 (code_source_id_C30_ex depth n4 (!(decide ((n4 : Int) = 1))) n9 l n6 n7 (n10, n11, n12, b2, t)).2, .res (code_source_ok_out n10 l n11 n12 (b3, n13)), .br false, .br false, .res (id_ID_IsZero_out b2 t b4), .br true, .res (id_ID_IsZero_out false T_id_halves.nil b5), .br true, .res (id_ID_IsOne_out b2 t ()), .br true, .res (id_ID_IsOne_out false T_id_halves.nil ()), .res (code_source_must_out true n13 l n11 n12 n14), .res (id_Pair_out b2 t false T_id_halves.nil (b6, t2, n15))]) (.k0 (an_ (id_Zero_runs _ h1) (an_ (id_Zero_runs _ h1) (an_ (code_source_bit_runs 2 n l n2 n3 _ h2) (an_ h3 (an_ (LRuns.coe (s0 := ⟨[(0, (.av (.one (.ref 0 0)))), (1, (.av (.one (.pv (.int .i64 depth))))), (4, (.av (.one (.ref 2 0)))), (5, (.av (.one (.ref 3 0)))), (6, (.av (.one (.ref 4 0)))), (7, (.av (.one (.pv (.int .u64 n4))))), (22, (.av (.one (.pv (.bool (decide ((depth : Int) = 16)))))))], [(0, [(.ref 1 0), (.pv (.int .i64 n5))]), (1, [(.pv (.ints .u8 l false)), (.pv (.int .i64 n6)), (.pv (.int .i64 n7))]), (2, [(.pv (.bool false)), (.pv .nilp)]), (3, [(.pv (.bool false)), (.pv (T_id_halves.pv T_id_halves.nil))]), (4, [(.pv (.bool false)), (.pv (T_id_halves.pv T_id_halves.nil))])], []⟩) (code_source_id_C22_runs depth n4 (decide ((depth : Int) = 16)) n5 l n6 n7 _ h4) ⟨⟨⟨_, rfl, .eq rfl⟩, ⟨_, rfl, .eq rfl⟩, ⟨_, rfl, .eq rfl⟩, ⟨_, rfl, .eq rfl⟩, ⟨_, rfl, .eq rfl⟩, ⟨_, rfl, .eq rfl⟩, ⟨_, rfl, .eq rfl⟩, trivial⟩, ⟨⟨rfl, ⟨.eq rfl, .eq rfl, trivial⟩⟩, ⟨rfl, ⟨.eq rfl, .eq rfl, .eq rfl, trivial⟩⟩, ⟨rfl, ⟨.eq rfl, .eq rfl, trivial⟩⟩, ⟨rfl, ⟨.eq rfl, .eq rfl, trivial⟩⟩, ⟨rfl, ⟨.eq rfl, .eq rfl, trivial⟩⟩, trivial⟩, trivial⟩) (an_ (code_source_ok_runs n8 l n6 n7 _ h5) (an_ h6 (an_ (code_source_id_C30_runs rec_code_source_id_2 hrec_code_source_id_2 depth n4 (!(decide ((n4 : Int) = 1))) n9 l n6 n7 _ h7) (an_ (code_source_ok_runs n10 l n11 n12 _ h8) (an_ h9 (an_ (rfl : false = false) (an_ (id_ID_IsZero_runs b2 t _ h10) (an_ h11 (an_ (id_ID_IsZero_runs false T_id_halves.nil _ h12) (an_ h13 (an_ (id_ID_IsOne_runs b2 t _ h14) (an_ h15 (an_ (id_ID_IsOne_runs false T_id_halves.nil _ h16) (an_ (code_source_must_runs true n13 l n11 n12 _ h17) (an_ (id_Pair_runs N b2 t false T_id_halves.nil _ h18) trivial)))))))))))))))))))) (by kernel_rfl))
            · obtain ⟨n14, h16, h⟩ := bind_of h
              obtain ⟨⟨b6, t2, n15⟩, h17, h⟩ := bind_of h
              have h := some_of h
              subst h
              exact runs_of (C := cfg) (objs := [[(.ref 1 0), (.pv (.int .i64 n))], [(.pv (.ints .u8 l false)), (.pv (.int .i64 n2)), (.pv (.int .i64 n3))]]) (sc := [.res (id_Zero_out ()), .res (id_Zero_out ()), .res (code_source_bit_out 2 n l n2 n3 (n4, n5, n6, n7)), .br false, .lp (code_source_id_C22_ex depth n4 (decide ((depth : Int) = 16)) n5 l n6 n7 n8).1 (code_source_id_C22_ex depth n4 (decide ((depth : Int) = 16)) n5 l n6 n7 n8).2, .res (code_source_ok_out n8 l n6 n7 (b, n9)), .br true, .lp (code_source_id_C30_ex depth n4 (!(decide ((n4 : Int) = 1))) n9 l n6 n7 (n10, n11, n12, b2, t)).1 (code_source_id_C30_ex depth n4 (!(decide ((n4 : Int) = 1))) n9 l n6 n7 (n10, n11, n12, b2, t)).2, .res (code_source_ok_out n10 l n11 n12 (b3, n13)), .br false, .br false, .res (id_ID_IsZero_out b2 t b4), .br true, .res (id_ID_IsZero_out false T_id_halves.nil b5), .br true, .res (id_ID_IsOne_out b2 t ()), .br false, .res (code_source_must_out true n13 l n11 n12 n14), .res (id_Pair_out b2 t false T_id_halves.nil (b6, t2, n15))]) (.k0 (an_ (id_Zero_runs _ h1) (an_ (id_Zero_runs _ h1) (an_ (code_source_bit_runs 2 n l n2 n3 _ h2) (an_ h3 (an_ (LRuns.coe (s0 := ⟨[(0, (.av (.one (.ref 0 0)))), (1, (.av (.one (.pv (.int .i64 depth))))), (4, (.av (.one (.ref 2 0)))), (5, (.av (.one (.ref 3 0)))), (6, (.av (.one (.ref 4 0)))), (7, (.av (.one (.pv (.int .u64 n4))))), (22, (.av (.one (.pv (.bool (decide ((depth : Int) = 16)))))))], [(0, [(.ref 1 0), (.pv (.int .i64 n5))]), (1, [(.pv (.ints .u8 l false)), (.pv (.int .i64 n6)), (.pv (.int .i64 n7))]), (2, [(.pv (.bool false)), (.pv .nilp)]), (3, [(.pv (.bool false)), (.pv (T_id_halves.pv T_id_halves.nil))]), (4, [(.pv (.bool false)), (.pv (T_id_halves.pv T_id_halves.nil))])], []⟩) (code_source_id_C22_runs depth n4 (decide ((depth : Int) = 16)) n5 l n6 n7 _ h4) ⟨⟨⟨_, rfl, .eq rfl⟩, ⟨_, rfl, .eq rfl⟩, ⟨_, rfl, .eq rfl⟩, ⟨_, rfl, .eq rfl⟩, ⟨_, rfl, .eq rfl⟩, ⟨_, rfl, .eq rfl⟩, ⟨_, rfl, .eq rfl⟩, trivial⟩, ⟨⟨rfl, ⟨.eq rfl, .eq rfl, trivial⟩⟩, ⟨rfl, ⟨.eq rfl, .eq rfl, .eq rfl, trivial⟩⟩, ⟨rfl, ⟨.eq rfl, .eq rfl, trivial⟩⟩, ⟨rfl, ⟨.eq rfl, .eq rfl, trivial⟩⟩, ⟨rfl, ⟨.eq rfl, .eq rfl, trivial⟩⟩, trivial⟩, trivial⟩) (an_ (code_source_ok_runs n8 l n6 n7 _ h5) (an_ h6 (an_ (code_source_id_C30_runs rec_code_source_id_2 hrec_code_source_id_2 depth n4 (!(decide ((n4 : Int) = 1))) n9 l n6 n7 _ h7) (an_ (code_source_ok_runs n10 l n11 n12 _ h8) (an_ h9 (an_ (rfl : false = false) (an_ (id_ID_IsZero_runs b2 t _ h10) (an_ h11 (an_ (id_ID_IsZero_runs false T_id_halves.nil _ h12) (an_ h13 (an_ (id_ID_IsOne_runs b2 t _ h14) (an_ h15 (an_ (code_source_must_runs true n13 l n11 n12 _ h16) (an_ (id_Pair_runs N b2 t false T_id_halves.nil _ h17) trivial))))))))))))))))))) (by kernel_rfl))
          · obtain ⟨n14, h14, h⟩ := bind_of h
            obtain ⟨⟨b6, t2, n15⟩, h15, h⟩ := bind_of h
            have h := some_of h
            subst h
            exact runs_of (C := cfg) (objs := [[(.ref 1 0), (.pv (.int .i64 n))], [(.pv (.ints .u8 l false)), (.pv (.int .i64 n2)), (.pv (.int .i64 n3))]]) (sc := [.res (id_Zero_out ()), .res (id_Zero_out ()), .res (code_source_bit_out 2 n l n2 n3 (n4, n5, n6, n7)), .br false, .lp (code_source_id_C22_ex depth n4 (decide ((depth : Int) = 16)) n5 l n6 n7 n8).1 (code_source_id_C22_ex depth n4 (decide ((depth : Int) = 16)) n5 l n6 n7 n8).2, .res (code_source_ok_out n8 l n6 n7 (b, n9)), .br true, .lp (code_source_id_C30_ex depth n4 (!(decide ((n4 : Int) = 1))) n9 l n6 n7 (n10, n11, n12, b2, t)).1 (code_source_id_C30_ex depth n4 (!(decide ((n4 : Int) = 1))) n9 l n6 n7 (n10, n11, n12, b2, t)).2, .res (code_source_ok_out n10 l n11 n12 (b3, n13)), .br false, .br false, .res (id_ID_IsZero_out b2 t b4), .br true, .res (id_ID_IsZero_out false T_id_halves.nil b5), .br false, .res (code_source_must_out false n13 l n11 n12 n14), .res (id_Pair_out b2 t false T_id_halves.nil (b6, t2, n15))]) (.k0 (an_ (id_Zero_runs _ h1) (an_ (id_Zero_runs _ h1) (an_ (code_source_bit_runs 2 n l n2 n3 _ h2) (an_ h3 (an_ (LRuns.coe (s0 := ⟨[(0, (.av (.one (.ref 0 0)))), (1, (.av (.one (.pv (.int .i64 depth))))), (4, (.av (.one (.ref 2 0)))), (5, (.av (.one (.ref 3 0)))), (6, (.av (.one (.ref 4 0)))), (7, (.av (.one (.pv (.int .u64 n4))))), (22, (.av (.one (.pv (.bool (decide ((depth : Int) = 16)))))))], [(0, [(.ref 1 0), (.pv (.int .i64 n5))]), (1, [(.pv (.ints .u8 l false)), (.pv (.int .i64 n6)), (.pv (.int .i64 n7))]), (2, [(.pv (.bool false)), (.pv .nilp)]), (3, [(.pv (.bool false)), (.pv (T_id_halves.pv T_id_halves.nil))]), (4, [(.pv (.bool false)), (.pv (T_id_halves.pv T_id_halves.nil))])], []⟩) (code_source_id_C22_runs depth n4 (decide ((depth : Int) = 16)) n5 l n6 n7 _ h4) ⟨⟨⟨_, rfl, .eq rfl⟩, ⟨_, rfl, .eq rfl⟩, ⟨_, rfl, .eq rfl⟩, ⟨_, rfl, .eq rfl⟩, ⟨_, rfl, .eq rfl⟩, ⟨_, rfl, .eq rfl⟩, ⟨_, rfl, .eq rfl⟩, trivial⟩, ⟨⟨rfl, ⟨.eq rfl, .eq rfl, trivial⟩⟩, ⟨rfl, ⟨.eq rfl, .eq rfl, .eq rfl, trivial⟩⟩, ⟨rfl, ⟨.eq rfl, .eq rfl, trivial⟩⟩, ⟨rfl, ⟨.eq rfl, .eq rfl, trivial⟩⟩, ⟨rfl, ⟨.eq rfl, .eq rfl, trivial⟩⟩, trivial⟩, trivial⟩) (an_ (code_source_ok_runs n8 l n6 n7 _ h5) (an_ h6 (an_ (code_source_id_C30_runs rec_code_source_id_2 hrec_code_source_id_2 depth n4 (!(decide ((n4 : Int) = 1))) n9 l n6 n7 _ h7) (an_ (code_source_ok_runs n10 l n11 n12 _ h8) (an_ h9 (an_ (rfl : false = false) (an_ (id_ID_IsZero_runs b2 t _ h10) (an_ h11 (an_ (id_ID_IsZero_runs false T_id_halves.nil _ h12) (an_ h13 (an_ (code_source_must_runs false n13 l n11 n12 _ h14) (an_ (id_Pair_runs N b2 t false T_id_halves.nil _ h15) trivial))))))))))))))))) (by kernel_rfl))
        · obtain ⟨n14, h12, h⟩ := bind_of h
          obtain ⟨⟨b5, t2, n15⟩, h13, h⟩ := bind_of h
          have h := some_of h
          subst h
          exact runs_of (C := cfg) (objs := [[(.ref 1 0), (.pv (.int .i64 n))], [(.pv (.ints .u8 l false)), (.pv (.int .i64 n2)), (.pv (.int .i64 n3))]]) (sc := [.res (id_Zero_out ()), .res (id_Zero_out ()), .res (code_source_bit_out 2 n l n2 n3 (n4, n5, n6, n7)), .br false, .lp (code_source_id_C22_ex depth n4 (decide ((depth : Int) = 16)) n5 l n6 n7 n8).1 (code_source_id_C22_ex depth n4 (decide ((depth : Int) = 16)) n5 l n6 n7 n8).2, .res (code_source_ok_out n8 l n6 n7 (b, n9)), .br true, .lp (code_source_id_C30_ex depth n4 (!(decide ((n4 : Int) = 1))) n9 l n6 n7 (n10, n11, n12, b2, t)).1 (code_source_id_C30_ex depth n4 (!(decide ((n4 : Int) = 1))) n9 l n6 n7 (n10, n11, n12, b2, t)).2, .res (code_source_ok_out n10 l n11 n12 (b3, n13)), .br false, .br false, .res (id_ID_IsZero_out b2 t b4), .br false, .br false, .res (code_source_must_out false n13 l n11 n12 n14), .res (id_Pair_out b2 t false T_id_halves.nil (b5, t2, n15))]) (.k0 (an_ (id_Zero_runs _ h1) (an_ (id_Zero_runs _ h1) (an_ (code_source_bit_runs 2 n l n2 n3 _ h2) (an_ h3 (an_ (LRuns.coe (s0 := ⟨[(0, (.av (.one (.ref 0 0)))), (1, (.av (.one (.pv (.int .i64 depth))))), (4, (.av (.one (.ref 2 0)))), (5, (.av (.one (.ref 3 0)))), (6, (.av (.one (.ref 4 0)))), (7, (.av (.one (.pv (.int .u64 n4))))), (22, (.av (.one (.pv (.bool (decide ((depth : Int) = 16)))))))], [(0, [(.ref 1 0), (.pv (.int .i64 n5))]), (1, [(.pv (.ints .u8 l false)), (.pv (.int .i64 n6)), (.pv (.int .i64 n7))]), (2, [(.pv (.bool false)), (.pv .nilp)]), (3, [(.pv (.bool false)), (.pv (T_id_halves.pv T_id_halves.nil))]), (4, [(.pv (.bool false)), (.pv (T_id_halves.pv T_id_halves.nil))])], []⟩) (code_source_id_C22_runs depth n4 (decide ((depth : Int) = 16)) n5 l n6 n7 _ h4) ⟨⟨⟨_, rfl, .eq rfl⟩, ⟨_, rfl, .eq rfl⟩, ⟨_, rfl, .eq rfl⟩, ⟨_, rfl, .eq rfl⟩, ⟨_, rfl, .eq rfl⟩, ⟨_, rfl, .eq rfl⟩, ⟨_, rfl, .eq rfl⟩, trivial⟩, ⟨⟨rfl, ⟨.eq rfl, .eq rfl, trivial⟩⟩, ⟨rfl, ⟨.eq rfl, .eq rfl, .eq rfl, trivial⟩⟩, ⟨rfl, ⟨.eq rfl, .eq rfl, trivial⟩⟩, ⟨rfl, ⟨.eq rfl, .eq rfl, trivial⟩⟩, ⟨rfl, ⟨.eq rfl, .eq rfl, trivial⟩⟩, trivial⟩, trivial⟩) (an_ (code_source_ok_runs n8 l n6 n7 _ h5) (an_ h6 (an_ (code_source_id_C30_runs rec_code_source_id_2 hrec_code_source_id_2 depth n4 (!(decide ((n4 : Int) = 1))) n9 l n6 n7 _ h7) (an_ (code_source_ok_runs n10 l n11 n12 _ h8) (an_ h9 (an_ (rfl : false = false) (an_ (id_ID_IsZero_runs b2 t _ h10) (an_ h11 (an_ (rfl : false = false) (an_ (code_source_must_runs false n13 l n11 n12 _ h12) (an_ (id_Pair_runs N b2 t false T_id_halves.nil _ h13) trivial)))))))))))))))) (by kernel_rfl))
    · obtain ⟨⟨b2, n10⟩, h7, h⟩ := bind_of h
      rcases cond_of h with ⟨h8, h⟩ | ⟨h8, h⟩
      · obtain ⟨⟨n11, n12, n13, b3, t⟩, h9, h⟩ := bind_of h
        obtain ⟨b4, h10, h⟩ := bind_of h
        rcases cond_of h with ⟨h11, h⟩ | ⟨h11, h⟩
        · obtain ⟨b5, h12, h⟩ := bind_of h
          rcases cond_of h with ⟨h13, h⟩ | ⟨h13, h⟩
          · obtain ⟨_, h14, h⟩ := bind_of h
            obtain ⟨n14, h15, h⟩ := bind_of h
            obtain ⟨⟨b6, t2, n15⟩, h16, h⟩ := bind_of h
            have h := some_of h
            subst h
            exact runs_of (C := cfg) (objs := [[(.ref 1 0), (.pv (.int .i64 n))], [(.pv (.ints .u8 l false)), (.pv (.int .i64 n2)), (.pv (.int .i64 n3))]]) (sc := [.res (id_Zero_out ()), .res (id_Zero_out ()), .res (code_source_bit_out 2 n l n2 n3 (n4, n5, n6, n7)), .br false, .lp (code_source_id_C22_ex depth n4 (decide ((depth : Int) = 16)) n5 l n6 n7 n8).1 (code_source_id_C22_ex depth n4 (decide ((depth : Int) = 16)) n5 l n6 n7 n8).2, .res (code_source_ok_out n8 l n6 n7 (b, n9)), .br false, .br false, .res (code_source_ok_out n9 l n6 n7 (b2, n10)), .br true, .lp (code_source_id_C40_2_ex depth n4 (!(decide ((n4 : Int) = 2))) n10 l n6 n7 (n11, n12, n13, b3, t)).1 (code_source_id_C40_2_ex depth n4 (!(decide ((n4 : Int) = 2))) n10 l n6 n7 (n11, n12, n13, b3, t)).2, .res (id_ID_IsZero_out false T_id_halves.nil b4), .br true, .res (id_ID_IsZero_out b3 t b5), .br true, .res (id_ID_IsOne_out false T_id_halves.nil ()), .br false, .res (code_source_must_out true n11 l n12 n13 n14), .res (id_Pair_out false T_id_halves.nil b3 t (b6, t2, n15))]) (.k0 (an_ (id_Zero_runs _ h1) (an_ (id_Zero_runs _ h1) (an_ (code_source_bit_runs 2 n l n2 n3 _ h2) (an_ h3 (an_ (LRuns.coe (s0 := ⟨[(0, (.av (.one (.ref 0 0)))), (1, (.av (.one (.pv (.int .i64 depth))))), (4, (.av (.one (.ref 2 0)))), (5, (.av (.one (.ref 3 0)))), (6, (.av (.one (.ref 4 0)))), (7, (.av (.one (.pv (.int .u64 n4))))), (22, (.av (.one (.pv (.bool (decide ((depth : Int) = 16)))))))], [(0, [(.ref 1 0), (.pv (.int .i64 n5))]), (1, [(.pv (.ints .u8 l false)), (.pv (.int .i64 n6)), (.pv (.int .i64 n7))]), (2, [(.pv (.bool false)), (.pv .nilp)]), (3, [(.pv (.bool false)), (.pv (T_id_halves.pv T_id_halves.nil))]), (4, [(.pv (.bool false)), (.pv (T_id_halves.pv T_id_halves.nil))])], []⟩) (code_source_id_C22_runs depth n4 (decide ((depth : Int) = 16)) n5 l n6 n7 _ h4) ⟨⟨⟨_, rfl, .eq rfl⟩, ⟨_, rfl, .eq rfl⟩, ⟨_, rfl, .eq rfl⟩, ⟨_, rfl, .eq rfl⟩, ⟨_, rfl, .eq rfl⟩, ⟨_, rfl, .eq rfl⟩, ⟨_, rfl, .eq rfl⟩, trivial⟩, ⟨⟨rfl, ⟨.eq rfl, .eq rfl, trivial⟩⟩, ⟨rfl, ⟨.eq rfl, .eq rfl, .eq rfl, trivial⟩⟩, ⟨rfl, ⟨.eq rfl, .eq rfl, trivial⟩⟩, ⟨rfl, ⟨.eq rfl, .eq rfl, trivial⟩⟩, ⟨rfl, ⟨.eq rfl, .eq rfl, trivial⟩⟩, trivial⟩, trivial⟩) (an_ (code_source_ok_runs n8 l n6 n7 _ h5) (an_ h6 (an_ (rfl : false = false) (an_ (code_source_ok_runs n9 l n6 n7 _ h7) (an_ h8 (an_ (code_source_id_C40_2_runs rec_code_source_id_2 hrec_code_source_id_2 depth n4 (!(decide ((n4 : Int) = 2))) n10 l n6 n7 _ h9) (an_ (id_ID_IsZero_runs false T_id_halves.nil _ h10) (an_ h11 (an_ (id_ID_IsZero_runs b3 t _ h12) (an_ h13 (an_ (id_ID_IsOne_runs false T_id_halves.nil _ h14) (an_ (rfl : false = false) (an_ (code_source_must_runs true n11 l n12 n13 _ h15) (an_ (id_Pair_runs N false T_id_halves.nil b3 t _ h16) trivial))))))))))))))))))) (by kernel_rfl))
          · obtain ⟨n14, h14, h⟩ := bind_of h
            obtain ⟨⟨b6, t2, n15⟩, h15, h⟩ := bind_of h
            have h := some_of h
            subst h
            exact runs_of (C := cfg) (objs := [[(.ref 1 0), (.pv (.int .i64 n))], [(.pv (.ints .u8 l false)), (.pv (.int .i64 n2)), (.pv (.int .i64 n3))]]) (sc := [.res (id_Zero_out ()), .res (id_Zero_out ()), .res (code_source_bit_out 2 n l n2 n3 (n4, n5, n6, n7)), .br false, .lp (code_source_id_C22_ex depth n4 (decide ((depth : Int) = 16)) n5 l n6 n7 n8).1 (code_source_id_C22_ex depth n4 (decide ((depth : Int) = 16)) n5 l n6 n7 n8).2, .res (code_source_ok_out n8 l n6 n7 (b, n9)), .br false, .br false, .res (code_source_ok_out n9 l n6 n7 (b2, n10)), .br true, .lp (code_source_id_C40_2_ex depth n4 (!(decide ((n4 : Int) = 2))) n10 l n6 n7 (n11, n12, n13, b3, t)).1 (code_source_id_C40_2_ex depth n4 (!(decide ((n4 : Int) = 2))) n10 l n6 n7 (n11, n12, n13, b3, t)).2, .res (id_ID_IsZero_out false T_id_halves.nil b4), .br true, .res (id_ID_IsZero_out b3 t b5), .br false, .res (code_source_must_out false n11 l n12 n13 n14), .res (id_Pair_out false T_id_halves.nil b3 t (b6, t2, n15))]) (.k0 (an_ (id_Zero_runs _ h1) (an_ (id_Zero_runs _ h1) (an_ (code_source_bit_runs 2 n l n2 n3 _ h2) (an_ h3 (an_ (LRuns.coe (s0 := ⟨[(0, (.av (.one (.ref 0 0)))), (1, (.av (.one (.pv (.int .i64 depth))))), (4, (.av (.one (.ref 2 0)))), (5, (.av (.one (.ref 3 0)))), (6, (.av (.one (.ref 4 0)))), (7, (.av (.one (.pv (.int .u64 n4))))), (22, (.av (.one (.pv (.bool (decide ((depth : Int) = 16)))))))], [(0, [(.ref 1 0), (.pv (.int .i64 n5))]), (1, [(.pv (.ints .u8 l false)), (.pv (.int .i64 n6)), (.pv (.int .i64 n7))]), (2, [(.pv (.bool false)), (.pv .nilp)]), (3, [(.pv (.bool false)), (.pv (T_id_halves.pv T_id_halves.nil))]), (4, [(.pv (.bool false)), (.pv (T_id_halves.pv T_id_halves.nil))])], []⟩) (code_source_id_C22_runs depth n4 (decide ((depth : Int) = 16)) n5 l n6 n7 _ h4) ⟨⟨⟨_, rfl, .eq rfl⟩, ⟨_, rfl, .eq rfl⟩, ⟨_, rfl, .eq rfl⟩, ⟨_, rfl, .eq rfl⟩, ⟨_, rfl, .eq rfl⟩, ⟨_, rfl, .eq rfl⟩, ⟨_, rfl, .eq rfl⟩, trivial⟩, ⟨⟨rfl, ⟨.eq rfl, .eq rfl, trivial⟩⟩, ⟨rfl, ⟨.eq rfl, .eq rfl, .eq rfl, trivial⟩⟩, ⟨rfl, ⟨.eq rfl, .eq rfl, trivial⟩⟩, ⟨rfl, ⟨.eq rfl, .eq rfl, trivial⟩⟩, ⟨rfl, ⟨.eq rfl, .eq rfl, trivial⟩⟩, trivial⟩, trivial⟩) (an_ (code_source_ok_runs n8 l n6 n7 _ h5) (an_ h6 (an_ (rfl : false = false) (an_ (code_source_ok_runs n9 l n6 n7 _ h7) (an_ h8 (an_ (code_source_id_C40_2_runs rec_code_source_id_2 hrec_code_source_id_2 depth n4 (!(decide ((n4 : Int) = 2))) n10 l n6 n7 _ h9) (an_ (id_ID_IsZero_runs false T_id_halves.nil _ h10) (an_ h11 (an_ (id_ID_IsZero_runs b3 t _ h12) (an_ h13 (an_ (code_source_must_runs false n11 l n12 n13 _ h14) (an_ (id_Pair_runs N false T_id_halves.nil b3 t _ h15) trivial))))))))))))))))) (by kernel_rfl))
        · obtain ⟨n14, h12, h⟩ := bind_of h
          obtain ⟨⟨b5, t2, n15⟩, h13, h⟩ := bind_of h
          have h := some_of h
          subst h
          exact runs_of (C := cfg) (objs := [[(.ref 1 0), (.pv (.int .i64 n))], [(.pv (.ints .u8 l false)), (.pv (.int .i64 n2)), (.pv (.int .i64 n3))]]) (sc := [.res (id_Zero_out ()), .res (id_Zero_out ()), .res (code_source_bit_out 2 n l n2 n3 (n4, n5, n6, n7)), .br false, .lp (code_source_id_C22_ex depth n4 (decide ((depth : Int) = 16)) n5 l n6 n7 n8).1 (code_source_id_C22_ex depth n4 (decide ((depth : Int) = 16)) n5 l n6 n7 n8).2, .res (code_source_ok_out n8 l n6 n7 (b, n9)), .br false, .br false, .res (code_source_ok_out n9 l n6 n7 (b2, n10)), .br true, .lp (code_source_id_C40_2_ex depth n4 (!(decide ((n4 : Int) = 2))) n10 l n6 n7 (n11, n12, n13, b3, t)).1 (code_source_id_C40_2_ex depth n4 (!(decide ((n4 : Int) = 2))) n10 l n6 n7 (n11, n12, n13, b3, t)).2, .res (id_ID_IsZero_out false T_id_halves.nil b4), .br false, .br false, .res (code_source_must_out false n11 l n12 n13 n14), .res (id_Pair_out false T_id_halves.nil b3 t (b5, t2, n15))]) (.k0 (an_ (id_Zero_runs _ h1) (an_ (id_Zero_runs _ h1) (an_ (code_source_bit_runs 2 n l n2 n3 _ h2) (an_ h3 (an_ (LRuns.coe (s0 := ⟨[(0, (.av (.one (.ref 0 0)))), (1, (.av (.one (.pv (.int .i64 depth))))), (4, (.av (.one (.ref 2 0)))), (5, (.av (.one (.ref 3 0)))), (6, (.av (.one (.ref 4 0)))), (7, (.av (.one (.pv (.int .u64 n4))))), (22, (.av (.one (.pv (.bool (decide ((depth : Int) = 16)))))))], [(0, [(.ref 1 0), (.pv (.int .i64 n5))]), (1, [(.pv (.ints .u8 l false)), (.pv (.int .i64 n6)), (.pv (.int .i64 n7))]), (2, [(.pv (.bool false)), (.pv .nilp)]), (3, [(.pv (.bool false)), (.pv (T_id_halves.pv T_id_halves.nil))]), (4, [(.pv (.bool false)), (.pv (T_id_halves.pv T_id_halves.nil))])], []⟩) (code_source_id_C22_runs depth n4 (decide ((depth : Int) = 16)) n5 l n6 n7 _ h4) ⟨⟨⟨_, rfl, .eq rfl⟩, ⟨_, rfl, .eq rfl⟩, ⟨_, rfl, .eq rfl⟩, ⟨_, rfl, .eq rfl⟩, ⟨_, rfl, .eq rfl⟩, ⟨_, rfl, .eq rfl⟩, ⟨_, rfl, .eq rfl⟩, trivial⟩, ⟨⟨rfl, ⟨.eq rfl, .eq rfl, trivial⟩⟩, ⟨rfl, ⟨.eq rfl, .eq rfl, .eq rfl, trivial⟩⟩, ⟨rfl, ⟨.eq rfl, .eq rfl, trivial⟩⟩, ⟨rfl, ⟨.eq rfl, .eq rfl, trivial⟩⟩, ⟨rfl, ⟨.eq rfl, .eq rfl, trivial⟩⟩, trivial⟩, trivial⟩) (an_ (code_source_ok_runs n8 l n6 n7 _ h5) (an_ h6 (an_ (rfl : false = false) (an_ (code_source_ok_runs n9 l n6 n7 _ h7) (an_ h8 (an_ (code_source_id_C40_2_runs rec_code_source_id_2 hrec_code_source_id_2 depth n4 (!(decide ((n4 : Int) = 2))) n10 l n6 n7 _ h9) (an_ (id_ID_IsZero_runs false T_id_halves.nil _ h10) (an_ h11 (an_ (rfl : false = false) (an_ (code_source_must_runs false n11 l n12 n13 _ h12) (an_ (id_Pair_runs N false T_id_halves.nil b3 t _ h13) trivial)))))))))))))))) (by kernel_rfl))
      · obtain ⟨b3, h9, h⟩ := bind_of h
        rcases cond_of h with ⟨h10, h⟩ | ⟨h10, h⟩
        · rcases cond_of h with ⟨h11, h⟩ | ⟨h11, h⟩
          · obtain ⟨_, h12, h⟩ := bind_of h
            obtain ⟨n11, h13, h⟩ := bind_of h
            obtain ⟨⟨b4, t, n12⟩, h14, h⟩ := bind_of h
            have h := some_of h
            subst h
            exact runs_of (C := cfg) (objs := [[(.ref 1 0), (.pv (.int .i64 n))], [(.pv (.ints .u8 l false)), (.pv (.int .i64 n2)), (.pv (.int .i64 n3))]]) (sc := [.res (id_Zero_out ()), .res (id_Zero_out ()), .res (code_source_bit_out 2 n l n2 n3 (n4, n5, n6, n7)), .br false, .lp (code_source_id_C22_ex depth n4 (decide ((depth : Int) = 16)) n5 l n6 n7 n8).1 (code_source_id_C22_ex depth n4 (decide ((depth : Int) = 16)) n5 l n6 n7 n8).2, .res (code_source_ok_out n8 l n6 n7 (b, n9)), .br false, .br false, .res (code_source_ok_out n9 l n6 n7 (b2, n10)), .br false, .br false, .res (id_ID_IsZero_out false T_id_halves.nil b3), .br true, .res (id_ID_IsZero_out false T_id_halves.nil b3), .br true, .res (id_ID_IsOne_out false T_id_halves.nil ()), .br false, .res (code_source_must_out true n10 l n6 n7 n11), .res (id_Pair_out false T_id_halves.nil false T_id_halves.nil (b4, t, n12))]) (.k0 (an_ (id_Zero_runs _ h1) (an_ (id_Zero_runs _ h1) (an_ (code_source_bit_runs 2 n l n2 n3 _ h2) (an_ h3 (an_ (LRuns.coe (s0 := ⟨[(0, (.av (.one (.ref 0 0)))), (1, (.av (.one (.pv (.int .i64 depth))))), (4, (.av (.one (.ref 2 0)))), (5, (.av (.one (.ref 3 0)))), (6, (.av (.one (.ref 4 0)))), (7, (.av (.one (.pv (.int .u64 n4))))), (22, (.av (.one (.pv (.bool (decide ((depth : Int) = 16)))))))], [(0, [(.ref 1 0), (.pv (.int .i64 n5))]), (1, [(.pv (.ints .u8 l false)), (.pv (.int .i64 n6)), (.pv (.int .i64 n7))]), (2, [(.pv (.bool false)), (.pv .nilp)]), (3, [(.pv (.bool false)), (.pv (T_id_halves.pv T_id_halves.nil))]), (4, [(.pv (.bool false)), (.pv (T_id_halves.pv T_id_halves.nil))])], []⟩) (code_source_id_C22_runs depth n4 (decide ((depth : Int) = 16)) n5 l n6 n7 _ h4) ⟨⟨⟨_, rfl, .eq rfl⟩, ⟨_, rfl, .eq rfl⟩, ⟨_, rfl, .eq rfl⟩, ⟨_, rfl, .eq rfl⟩, ⟨_, rfl, .eq rfl⟩, ⟨_, rfl, .eq rfl⟩, ⟨_, rfl, .eq rfl⟩, trivial⟩, ⟨⟨rfl, ⟨.eq rfl, .eq rfl, trivial⟩⟩, ⟨rfl, ⟨.eq rfl, .eq rfl, .eq rfl, trivial⟩⟩, ⟨rfl, ⟨.eq rfl, .eq rfl, trivial⟩⟩, ⟨rfl, ⟨.eq rfl, .eq rfl, trivial⟩⟩, ⟨rfl, ⟨.eq rfl, .eq rfl, trivial⟩⟩, trivial⟩, trivial⟩) (an_ (code_source_ok_runs n8 l n6 n7 _ h5) (an_ h6 (an_ (rfl : false = false) (an_ (code_source_ok_runs n9 l n6 n7 _ h7) (an_ h8 (an_ (rfl : false = false) (an_ (id_ID_IsZero_runs false T_id_halves.nil _ h9) (an_ h10 (an_ (id_ID_IsZero_runs false T_id_halves.nil _ h9) (an_ h11 (an_ (id_ID_IsOne_runs false T_id_halves.nil _ h12) (an_ (rfl : false = false) (an_ (code_source_must_runs true n10 l n6 n7 _ h13) (an_ (id_Pair_runs N false T_id_halves.nil false T_id_halves.nil _ h14) trivial))))))))))))))))))) (by kernel_rfl))
          · obtain ⟨n11, h12, h⟩ := bind_of h
            obtain ⟨⟨b4, t, n12⟩, h13, h⟩ := bind_of h
            have h := some_of h
            subst h
            exact runs_of (C := cfg) (objs := [[(.ref 1 0), (.pv (.int .i64 n))], [(.pv (.ints .u8 l false)), (.pv (.int .i64 n2)), (.pv (.int .i64 n3))]]) (sc := [.res (id_Zero_out ()), .res (id_Zero_out ()), .res (code_source_bit_out 2 n l n2 n3 (n4, n5, n6, n7)), .br false, .lp (code_source_id_C22_ex depth n4 (decide ((depth : Int) = 16)) n5 l n6 n7 n8).1 (code_source_id_C22_ex depth n4 (decide ((depth : Int) = 16)) n5 l n6 n7 n8).2, .res (code_source_ok_out n8 l n6 n7 (b, n9)), .br false, .br false, .res (code_source_ok_out n9 l n6 n7 (b2, n10)), .br false, .br false, .res (id_ID_IsZero_out false T_id_halves.nil b3), .br true, .res (id_ID_IsZero_out false T_id_halves.nil b3), .br false, .res (code_source_must_out false n10 l n6 n7 n11), .res (id_Pair_out false T_id_halves.nil false T_id_halves.nil (b4, t, n12))]) (.k0 (an_ (id_Zero_runs _ h1) (an_ (id_Zero_runs _ h1) (an_ (code_source_bit_runs 2 n l n2 n3 _ h2) (an_ h3 (an_ (LRuns.coe (s0 := ⟨[(0, (.av (.one (.ref 0 0)))), (1, (.av (.one (.pv (.int .i64 depth))))), (4, (.av (.one (.ref 2 0)))), (5, (.av (.one (.ref 3 0)))), (6, (.av (.one (.ref 4 0)))), (7, (.av (.one (.pv (.int .u64 n4))))), (22, (.av (.one (.pv (.bool (decide ((depth : Int) = 16)))))))], [(0, [(.ref 1 0), (.pv (.int .i64 n5))]), (1, [(.pv (.ints .u8 l false)), (.pv (.int .i64 n6)), (.pv (.int .i64 n7))]), (2, [(.pv (.bool false)), (.pv .nilp)]), (3, [(.pv (.bool false)), (.pv (T_id_halves.pv T_id_halves.nil))]), (4, [(.pv (.bool false)), (.pv (T_id_halves.pv T_id_halves.nil))])], []⟩) (code_source_id_C22_runs depth n4 (decide ((depth : Int) = 16)) n5 l n6 n7 _ h4) ⟨⟨⟨_, rfl, .eq rfl⟩, ⟨_, rfl, .eq rfl⟩, ⟨_, rfl, .eq rfl⟩, ⟨_, rfl, .eq rfl⟩, ⟨_, rfl, .eq rfl⟩, ⟨_, rfl, .eq rfl⟩, ⟨_, rfl, .eq rfl⟩, trivial⟩, ⟨⟨rfl, ⟨.eq rfl, .eq rfl, trivial⟩⟩, ⟨rfl, ⟨.eq rfl, .eq rfl, .eq rfl, trivial⟩⟩, ⟨rfl, ⟨.eq rfl, .eq rfl, trivial⟩⟩, ⟨rfl, ⟨.eq rfl, .eq rfl, trivial⟩⟩, ⟨rfl, ⟨.eq rfl, .eq rfl, trivial⟩⟩, trivial⟩, trivial⟩) (an_ (code_source_ok_runs n8 l n6 n7 _ h5) (an_ h6 (an_ (rfl : false = false) (an_ (code_source_ok_runs n9 l n6 n7 _ h7) (an_ h8 (an_ (rfl : false = false) (an_ (id_ID_IsZero_runs false T_id_halves.nil _ h9) (an_ h10 (an_ (id_ID_IsZero_runs false T_id_halves.nil _ h9) (an_ h11 (an_ (code_source_must_runs false n10 l n6 n7 _ h12) (an_ (id_Pair_runs N false T_id_halves.nil false T_id_halves.nil _ h13) trivial))))))))))))))))) (by kernel_rfl))
        · obtain ⟨n11, h11, h⟩ := bind_of h
          obtain ⟨⟨b4, t, n12⟩, h12, h⟩ := bind_of h
          have h := some_of h
          subst h
          exact runs_of (C := cfg) (objs := [[(.ref 1 0), (.pv (.int .i64 n))], [(.pv (.ints .u8 l false)), (.pv (.int .i64 n2)), (.pv (.int .i64 n3))]]) (sc := [.res (id_Zero_out ()), .res (id_Zero_out ()), .res (code_source_bit_out 2 n l n2 n3 (n4, n5, n6, n7)), .br false, .lp (code_source_id_C22_ex depth n4 (decide ((depth : Int) = 16)) n5 l n6 n7 n8).1 (code_source_id_C22_ex depth n4 (decide ((depth : Int) = 16)) n5 l n6 n7 n8).2, .res (code_source_ok_out n8 l n6 n7 (b, n9)), .br false, .br false, .res (code_source_ok_out n9 l n6 n7 (b2, n10)), .br false, .br false, .res (id_ID_IsZero_out false T_id_halves.nil b3), .br false, .br false, .res (code_source_must_out false n10 l n6 n7 n11), .res (id_Pair_out false T_id_halves.nil false T_id_halves.nil (b4, t, n12))]) (.k0 (an_ (id_Zero_runs _ h1) (an_ (id_Zero_runs _ h1) (an_ (code_source_bit_runs 2 n l n2 n3 _ h2) (an_ h3 (an_ (LRuns.coe (s0 := ⟨[(0, (.av (.one (.ref 0 0)))), (1, (.av (.one (.pv (.int .i64 depth))))), (4, (.av (.one (.ref 2 0)))), (5, (.av (.one (.ref 3 0)))), (6, (.av (.one (.ref 4 0)))), (7, (.av (.one (.pv (.int .u64 n4))))), (22, (.av (.one (.pv (.bool (decide ((depth : Int) = 16)))))))], [(0, [(.ref 1 0), (.pv (.int .i64 n5))]), (1, [(.pv (.ints .u8 l false)), (.pv (.int .i64 n6)), (.pv (.int .i64 n7))]), (2, [(.pv (.bool false)), (.pv .nilp)]), (3, [(.pv (.bool false)), (.pv (T_id_halves.pv T_id_halves.nil))]), (4, [(.pv (.bool false)), (.pv (T_id_halves.pv T_id_halves.nil))])], []⟩) (code_source_id_C22_runs depth n4 (decide ((depth : Int) = 16)) n5 l n6 n7 _ h4) ⟨⟨⟨_, rfl, .eq rfl⟩, ⟨_, rfl, .eq rfl⟩, ⟨_, rfl, .eq rfl⟩, ⟨_, rfl, .eq rfl⟩, ⟨_, rfl, .eq rfl⟩, ⟨_, rfl, .eq rfl⟩, ⟨_, rfl, .eq rfl⟩, trivial⟩, ⟨⟨rfl, ⟨.eq rfl, .eq rfl, trivial⟩⟩, ⟨rfl, ⟨.eq rfl, .eq rfl, .eq rfl, trivial⟩⟩, ⟨rfl, ⟨.eq rfl, .eq rfl, trivial⟩⟩, ⟨rfl, ⟨.eq rfl, .eq rfl, trivial⟩⟩, ⟨rfl, ⟨.eq rfl, .eq rfl, trivial⟩⟩, trivial⟩, trivial⟩) (an_ (code_source_ok_runs n8 l n6 n7 _ h5) (an_ h6 (an_ (rfl : false = false) (an_ (code_source_ok_runs n9 l n6 n7 _ h7) (an_ h8 (an_ (rfl : false = false) (an_ (id_ID_IsZero_runs false T_id_halves.nil _ h9) (an_ h10 (an_ (rfl : false = false) (an_ (code_source_must_runs false n10 l n6 n7 _ h11) (an_ (id_Pair_runs N false T_id_halves.nil false T_id_halves.nil _ h12) trivial)))))))))))))))) (by kernel_rfl))
noncomputable def code_source_id_2 : Nat → Int → Int → List Int → Int → Int → Option (Bool × T_id_halves × Int × Int × Int)
  | 0, _, _, _, _, _ => none
  | N + 1, depth, n, l, n2, n3 => code_source_id_2_b N (code_source_id_2 N) depth n l n2 n3
theorem code_source_id_2_runs : ∀ (N : Nat) (depth : Int) (n : Int) (l : List Int) (n2 : Int) (n3 : Int) (r_ : Bool × T_id_halves × Int × Int × Int), code_source_id_2 N depth n l n2 n3 = some r_ → Runs Try.prog 89 [(.one (.ref 0 0)), (.one (.pv (.int .i64 depth)))] [[(.ref 1 0), (.pv (.int .i64 n))], [(.pv (.ints .u8 l false)), (.pv (.int .i64 n2)), (.pv (.int .i64 n3))]] [] (code_source_id_2_out depth n l n2 n3 r_)
  | 0, _, _, _, _, _, _, h => by cases h
  | N + 1, depth, n, l, n2, n3, r_, h => code_source_id_2_b_runs N (code_source_id_2 N) (code_source_id_2_runs N) depth n l n2 n3 r_ h
/-! ### code_GetID -/
noncomputable def code_GetID (N : Nat) (l : List Int) (n : Int) (n2 : Int) : Option (Bool × T_id_halves × Int × Int × Int) :=
  (code_source_id_2 N 0 0 l n n2).bind fun (b, t, n3, n4, n5) =>
  bif (decide ((n3 : Int) = 0)) then
    some (b, t, 0, n4, n5)
  else
    (id_Zero).bind fun _ =>
    some (false, T_id_halves.nil, n3, n4, n5)
theorem code_GetID_runs (N : Nat) (l : List Int) (n : Int) (n2 : Int) (r_ : Bool × T_id_halves × Int × Int × Int) (h : code_GetID N l n n2 = some r_) : Runs Try.prog 69 [(.one (.ref 0 0))] [[(.pv (.ints .u8 l false)), (.pv (.int .i64 n)), (.pv (.int .i64 n2))]] [] (code_GetID_out l n n2 r_) := by
  unfold code_GetID at h
  obtain ⟨⟨b, t, n3, n4, n5⟩, h1, h⟩ := bind_of h
  rcases cond_of h with ⟨h2, h⟩ | ⟨h2, h⟩
  · have h := some_of h
    subst h
    exact runs_of (C := cfg) (objs := [[(.pv (.ints .u8 l false)), (.pv (.int .i64 n)), (.pv (.int .i64 n2))]]) (sc := [.res (code_source_id_2_out 0 0 l n n2 (b, t, n3, n4, n5)), .br false]) (.k0 (an_ (code_source_id_2_runs N 0 0 l n n2 _ h1) (an_ (not_of2 h2) trivial)) (by kernel_rfl))
  · obtain ⟨_, h3, h⟩ := bind_of h
    have h := some_of h
    subst h
    exact runs_of (C := cfg) (objs := [[(.pv (.ints .u8 l false)), (.pv (.int .i64 n)), (.pv (.int .i64 n2))]]) (sc := [.res (code_source_id_2_out 0 0 l n n2 (b, t, n3, n4, n5)), .br true, .res (id_Zero_out ()), .res (id_Zero_out ())]) (.k1 (an_ (code_source_id_2_runs N 0 0 l n n2 _ h1) (an_ (not_of h2) (an_ (id_Zero_runs _ h3) (an_ (id_Zero_runs _ h3) trivial)))) (by kernel_rfl) (by kernel_rfl))
/-! ### code_whole_id_ID_out -/
def code_whole_id_ID_out (x : Bool) (x2 : T_id_halves) (e : Int) (l : List Int) (n : Int) (n2 : Int) : Bool × T_id_halves × Int × Int → Res
  | (r1, r2, r3, r4) => ([(.agg [(.pv (.bool r1)), (.pv (T_id_halves.pv r2))]), (.one (.pv (.int .i64 r3)))], [[(.pv (.ints .u8 l false)), (.pv (.int .i64 n)), (.pv (.int .i64 r4))]], [])
/-! ### bits_Reader_End_out -/
def bits_Reader_End_out (l : List Int) (n : Int) (n2 : Int) : Int × Int → Res
  | (r1, r2) => ([(.one (.pv (.int .i64 r1)))], [[(.pv (.ints .u8 l false)), (.pv (.int .i64 n)), (.pv (.int .i64 r2))]], [])
/-! ### bits_Reader_End -/
noncomputable def bits_Reader_End (l : List Int) (n : Int) (n2 : Int) : Option (Int × Int) :=
  (bits_Reader_Err l n n2).bind fun _ =>
  bif (decide ((n2 : Int) = 0)) then
    (bits_Reader_Left l n n2).bind fun n3 =>
    bif (decide ((8 : Int) ≤ n3)) then
      (bits_Reader_fail l n n2).bind fun n4 =>
      some (n4, n4)
    else
      (bits_Reader_Get n3 l n n2).bind fun (n4, n5, n6) =>
      bif (decide ((n4 : Int) = 0)) then
        some (0, n6)
      else
        (bits_Reader_fail l n n6).bind fun n7 =>
        some (n7, n7)
  else
    some (n2, n2)
theorem bits_Reader_End_runs (l : List Int) (n : Int) (n2 : Int) (r_ : Int × Int) (h : bits_Reader_End l n n2 = some r_) : Runs Try.prog 90 [(.one (.ref 0 0))] [[(.pv (.ints .u8 l false)), (.pv (.int .i64 n)), (.pv (.int .i64 n2))]] [] (bits_Reader_End_out l n n2 r_) := by
  unfold bits_Reader_End at h
  obtain ⟨_, h1, h⟩ := bind_of h
  rcases cond_of h with ⟨h2, h⟩ | ⟨h2, h⟩
  · obtain ⟨n3, h3, h⟩ := bind_of h
    rcases cond_of h with ⟨h4, h⟩ | ⟨h4, h⟩
    · obtain ⟨n4, h5, h⟩ := bind_of h
      have h := some_of h
      subst h
      exact runs_of (C := cfg) (objs := [[(.pv (.ints .u8 l false)), (.pv (.int .i64 n)), (.pv (.int .i64 n2))]]) (sc := [.res (bits_Reader_Err_out l n n2 ()), .br false, .res (bits_Reader_Left_out l n n2 n3), .res (bits_Reader_Left_out l n n2 n3), .br true, .br true, .res (bits_Reader_fail_out l n n2 n4)]) (.k1 (an_ (bits_Reader_Err_runs l n n2 _ h1) (an_ (not_of2 h2) (an_ (bits_Reader_Left_runs l n n2 _ h3) (an_ (bits_Reader_Left_runs l n n2 _ h3) (an_ h4 (an_ (rfl : true = true) (an_ (bits_Reader_fail_runs l n n2 _ h5) trivial))))))) (by kernel_rfl) (by kernel_rfl))
    · obtain ⟨⟨n4, n5, n6⟩, h5, h⟩ := bind_of h
      rcases cond_of h with ⟨h6, h⟩ | ⟨h6, h⟩
      · have h := some_of h
        subst h
        exact runs_of (C := cfg) (objs := [[(.pv (.ints .u8 l false)), (.pv (.int .i64 n)), (.pv (.int .i64 n2))]]) (sc := [.res (bits_Reader_Err_out l n n2 ()), .br false, .res (bits_Reader_Left_out l n n2 n3), .res (bits_Reader_Left_out l n n2 n3), .br false, .res (bits_Reader_Get_out n3 l n n2 (n4, n5, n6)), .br false]) (.k1 (an_ (bits_Reader_Err_runs l n n2 _ h1) (an_ (not_of2 h2) (an_ (bits_Reader_Left_runs l n n2 _ h3) (an_ (bits_Reader_Left_runs l n n2 _ h3) (an_ h4 (an_ (bits_Reader_Get_runs n3 l n n2 _ h5) (an_ (not_of2 h6) trivial))))))) (by kernel_rfl) (by kernel_rfl))
      · obtain ⟨n7, h7, h⟩ := bind_of h
        have h := some_of h
        subst h
        exact runs_of (C := cfg) (objs := [[(.pv (.ints .u8 l false)), (.pv (.int .i64 n)), (.pv (.int .i64 n2))]]) (sc := [.res (bits_Reader_Err_out l n n2 ()), .br false, .res (bits_Reader_Left_out l n n2 n3), .res (bits_Reader_Left_out l n n2 n3), .br false, .res (bits_Reader_Get_out n3 l n n2 (n4, n5, n6)), .br true, .res (bits_Reader_fail_out l n n6 n7)]) (.k1 (an_ (bits_Reader_Err_runs l n n2 _ h1) (an_ (not_of2 h2) (an_ (bits_Reader_Left_runs l n n2 _ h3) (an_ (bits_Reader_Left_runs l n n2 _ h3) (an_ h4 (an_ (bits_Reader_Get_runs n3 l n n2 _ h5) (an_ (not_of h6) (an_ (bits_Reader_fail_runs l n n6 _ h7) trivial)))))))) (by kernel_rfl) (by kernel_rfl))
  · have h := some_of h
    subst h
    exact runs_of (C := cfg) (objs := [[(.pv (.ints .u8 l false)), (.pv (.int .i64 n)), (.pv (.int .i64 n2))]]) (sc := [.res (bits_Reader_Err_out l n n2 ()), .br true, .res (bits_Reader_Err_out l n n2 ())]) (.k0 (an_ (bits_Reader_Err_runs l n n2 _ h1) (an_ (not_of h2) (an_ (bits_Reader_Err_runs l n n2 _ h1) trivial))) (by kernel_rfl))
/-! ### code_whole_id_ID -/
noncomputable def code_whole_id_ID (x : Bool) (x2 : T_id_halves) (e : Int) (l : List Int) (n : Int) (n2 : Int) : Option (Bool × T_id_halves × Int × Int) :=
  bif (decide ((e : Int) = 0)) then
    (bits_Reader_End l n n2).bind fun (n3, n4) =>
    bif (decide ((n3 : Int) = 0)) then
      some (x, x2, 0, n4)
    else
      some (false, T_id_halves.nil, n3, n4)
  else
    some (false, T_id_halves.nil, e, n2)
theorem code_whole_id_ID_runs (x : Bool) (x2 : T_id_halves) (e : Int) (l : List Int) (n : Int) (n2 : Int) (r_ : Bool × T_id_halves × Int × Int) (h : code_whole_id_ID x x2 e l n n2 = some r_) : Runs Try.prog 70 [(.one (.ref 0 0)), (.agg [(.pv (.bool x)), (.pv (T_id_halves.pv x2))]), (.one (.pv (.int .i64 e)))] [[(.pv (.ints .u8 l false)), (.pv (.int .i64 n)), (.pv (.int .i64 n2))]] [] (code_whole_id_ID_out x x2 e l n n2 r_) := by
  unfold code_whole_id_ID at h
  rcases cond_of h with ⟨h1, h⟩ | ⟨h1, h⟩
  · obtain ⟨⟨n3, n4⟩, h2, h⟩ := bind_of h
    rcases cond_of h with ⟨h3, h⟩ | ⟨h3, h⟩
    · have h := some_of h
      subst h
      exact runs_of (C := cfg) (objs := [[(.pv (.ints .u8 l false)), (.pv (.int .i64 n)), (.pv (.int .i64 n2))]]) (sc := [.br false, .res (bits_Reader_End_out l n n2 (n3, n4)), .br false]) (.k0 (an_ (not_of2 h1) (an_ (bits_Reader_End_runs l n n2 _ h2) (an_ (not_of2 h3) trivial))) (by kernel_rfl))
    · have h := some_of h
      subst h
      have e_ : Runs Try.prog 70 [(.one (.ref 0 0)), (.agg [(.pv (.bool x)), (.pv (T_id_halves.pv x2))]), (.one (.pv (.int .i64 e)))] [[(.pv (.ints .u8 l false)), (.pv (.int .i64 n)), (.pv (.int .i64 n2))]] [] ([(.agg [(.pv (.bool false)), (.pv .nilp)]), (.one (.pv (.int .i64 n3)))], [[(.pv (.ints .u8 l false)), (.pv (.int .i64 n)), (.pv (.int .i64 n4))]], []) := runs_of (C := cfg) (objs := [[(.pv (.ints .u8 l false)), (.pv (.int .i64 n)), (.pv (.int .i64 n2))]]) (sc := [.br false, .res (bits_Reader_End_out l n n2 (n3, n4)), .br true]) (.k0 (an_ (not_of2 h1) (an_ (bits_Reader_End_runs l n n2 _ h2) (an_ (not_of h3) trivial))) (by kernel_rfl))
      exact e_.out ⟨⟨.eq rfl, .eq rfl, trivial⟩, .eq rfl, trivial⟩ ⟨⟨.eq rfl, .eq rfl, .eq rfl, trivial⟩, trivial⟩ trivial rfl
  · have h := some_of h
    subst h
    have e_ : Runs Try.prog 70 [(.one (.ref 0 0)), (.agg [(.pv (.bool x)), (.pv (T_id_halves.pv x2))]), (.one (.pv (.int .i64 e)))] [[(.pv (.ints .u8 l false)), (.pv (.int .i64 n)), (.pv (.int .i64 n2))]] [] ([(.agg [(.pv (.bool false)), (.pv .nilp)]), (.one (.pv (.int .i64 e)))], [[(.pv (.ints .u8 l false)), (.pv (.int .i64 n)), (.pv (.int .i64 n2))]], []) := runs_of (C := cfg) (objs := [[(.pv (.ints .u8 l false)), (.pv (.int .i64 n)), (.pv (.int .i64 n2))]]) (sc := [.br true]) (.k0 (an_ (not_of h1) trivial) (by kernel_rfl))
    exact e_.out ⟨⟨.eq rfl, .eq rfl, trivial⟩, .eq rfl, trivial⟩ ⟨⟨.eq rfl, .eq rfl, .eq rfl, trivial⟩, trivial⟩ trivial rfl
/-! ### code_ReadID -/
noncomputable def code_ReadID (N : Nat) (p : List Int) : Option (Bool × T_id_halves × Int) :=
  (bits_NewReader p).bind fun _ =>
  (code_GetID N p 0 0).bind fun (b, t, n, n2, n3) =>
  (code_whole_id_ID b t n p n2 n3).bind fun (b2, t2, n4, n5) =>
  some (b2, t2, n4)
theorem code_ReadID_runs (N : Nat) (p : List Int) (r_ : Bool × T_id_halves × Int) (h : code_ReadID N p = some r_) : Runs Try.prog 38 [(.one (.pv (.ints .u8 p false)))] [] [] (code_ReadID_out p r_) := by
  unfold code_ReadID at h
  obtain ⟨_, h1, h⟩ := bind_of h
  obtain ⟨⟨b, t, n, n2, n3⟩, h2, h⟩ := bind_of h
  obtain ⟨⟨b2, t2, n4, n5⟩, h3, h⟩ := bind_of h
  have h := some_of h
  subst h
  exact runs_of (C := cfg) (objs := []) (sc := [.res (bits_NewReader_out p ()), .res (code_GetID_out p 0 0 (b, t, n, n2, n3)), .res (code_whole_id_ID_out b t n p n2 n3 (b2, t2, n4, n5))]) (.k0 (an_ (bits_NewReader_runs p _ h1) (an_ (code_GetID_runs N p 0 0 _ h2) (an_ (code_whole_id_ID_runs b t n p n2 n3 _ h3) trivial))) (by kernel_rfl))
/-! ### deed_GetGift -/
noncomputable def deed_GetGift (N : Nat) (l : List Int) (n : Int) : Option (Int × Int × Int × Bool × T_id_halves × List Int × Int) :=
  (wire_In_Num l n).bind fun (n2, l_, n3) =>
  (deed_number l_ n3).bind fun (n4, l_2, n5) =>
  (deed_number l_2 n5).bind fun (n6, l_3, n7) =>
  (wire_In_Text 4096 l_3 n7).bind fun (s, l_4, n8) =>
  (wire_In_Err l_4 n8).bind fun _ =>
  bif (decide ((n8 : Int) = 0)) then
    bif decide (s.size ≤ 140737488355328) then
    (code_ReadID N (bytesL s)).bind fun (b, t, n9) =>
    bif (decide ((n9 : Int) = 0)) then
      some (n2, n4, n6, b, t, l_4, n8)
    else
      (wire_In_Fail n9 l_4 n8).bind fun n10 =>
      some (0, 0, 0, false, T_id_halves.nil, l_4, n10)
    else none
  else
    some (0, 0, 0, false, T_id_halves.nil, l_4, n8)
theorem deed_GetGift_runs (N : Nat) (l : List Int) (n : Int) (r_ : Int × Int × Int × Bool × T_id_halves × List Int × Int) (h : deed_GetGift N l n = some r_) : Runs Try.prog 10 [(.one (.ref 0 0))] [[(.pv (.ints .u8 l false)), (.pv (.int .i64 n))]] [] (deed_GetGift_out l n r_) := by
  unfold deed_GetGift at h
  obtain ⟨⟨n2, l_, n3⟩, h1, h⟩ := bind_of h
  obtain ⟨⟨n4, l_2, n5⟩, h2, h⟩ := bind_of h
  obtain ⟨⟨n6, l_3, n7⟩, h3, h⟩ := bind_of h
  obtain ⟨⟨s, l_4, n8⟩, h4, h⟩ := bind_of h
  obtain ⟨_, h5, h⟩ := bind_of h
  rcases cond_of h with ⟨h6, h⟩ | ⟨h6, h⟩
  · obtain ⟨h7, h⟩ := need_of h
    obtain ⟨⟨b, t, n9⟩, h8, h⟩ := bind_of h
    rcases cond_of h with ⟨h9, h⟩ | ⟨h9, h⟩
    · have h := some_of h
      subst h
      exact runs_of (C := cfg) (objs := [[(.pv (.ints .u8 l false)), (.pv (.int .i64 n))]]) (sc := [.res (wire_In_Num_out l n (n2, l_, n3)), .res (deed_number_out l_ n3 (n4, l_2, n5)), .res (deed_number_out l_2 n5 (n6, l_3, n7)), .res (wire_In_Text_out 4096 l_3 n7 (s, l_4, n8)), .res (wire_In_Err_out l_4 n8 ()), .br false, .res (code_ReadID_out (bytesL s) (b, t, n9)), .br false]) (.k0 (an_ (wire_In_Num_runs l n _ h1) (an_ (deed_number_runs l_ n3 _ h2) (an_ (deed_number_runs l_2 n5 _ h3) (an_ (wire_In_Text_runs 4096 l_3 n7 _ h4) (an_ (wire_In_Err_runs l_4 n8 _ h5) (an_ (not_of2 h6) (an_ h7 (an_ (Runs.coe (as' := [(.one (.pv (.ints .u8 (List.take (bytesL s).length (bytesL s)) false)))]) (objs' := []) (rows' := []) (code_ReadID_runs N (bytesL s) _ h8) ⟨.pv (.ints (by first | rfl | (simp only [List.take_length]; done) | (simp only [List.take_length, List.length_append, List.drop_zero, List.map_append, List.map_take, List.map_drop, List.map_replicate, List.map_cons, List.map_nil, List.append_nil, List.nil_append, E_deed_Gift.pv, E_deed_Gift.upd]; done) | (simp; done) | (simp only [List.length_map, List.take_length, List.length_append, List.drop_zero, List.map_append, List.map_take, List.map_drop, List.map_replicate, List.map_cons, List.map_nil, List.append_nil, List.nil_append, E_deed_Gift.pv, E_deed_Gift.upd]; done))), trivial⟩ trivial trivial) (an_ (not_of2 h9) trivial))))))))) (by kernel_rfl))
    · obtain ⟨n10, h10, h⟩ := bind_of h
      have h := some_of h
      subst h
      have e_ : Runs Try.prog 10 [(.one (.ref 0 0))] [[(.pv (.ints .u8 l false)), (.pv (.int .i64 n))]] [] ([(.agg [(.pv (.int .u64 0)), (.pv (.int .i64 0)), (.pv (.int .i64 0)), (.pv (.bool false)), (.pv .nilp)])], [[(.pv (.ints .u8 l_4 false)), (.pv (.int .i64 n10))]], []) := runs_of (C := cfg) (objs := [[(.pv (.ints .u8 l false)), (.pv (.int .i64 n))]]) (sc := [.res (wire_In_Num_out l n (n2, l_, n3)), .res (deed_number_out l_ n3 (n4, l_2, n5)), .res (deed_number_out l_2 n5 (n6, l_3, n7)), .res (wire_In_Text_out 4096 l_3 n7 (s, l_4, n8)), .res (wire_In_Err_out l_4 n8 ()), .br false, .res (code_ReadID_out (bytesL s) (b, t, n9)), .br true, .res (wire_In_Fail_out n9 l_4 n8 n10)]) (.k0 (an_ (wire_In_Num_runs l n _ h1) (an_ (deed_number_runs l_ n3 _ h2) (an_ (deed_number_runs l_2 n5 _ h3) (an_ (wire_In_Text_runs 4096 l_3 n7 _ h4) (an_ (wire_In_Err_runs l_4 n8 _ h5) (an_ (not_of2 h6) (an_ h7 (an_ (Runs.coe (as' := [(.one (.pv (.ints .u8 (List.take (bytesL s).length (bytesL s)) false)))]) (objs' := []) (rows' := []) (code_ReadID_runs N (bytesL s) _ h8) ⟨.pv (.ints (by first | rfl | (simp only [List.take_length]; done) | (simp only [List.take_length, List.length_append, List.drop_zero, List.map_append, List.map_take, List.map_drop, List.map_replicate, List.map_cons, List.map_nil, List.append_nil, List.nil_append, E_deed_Gift.pv, E_deed_Gift.upd]; done) | (simp; done) | (simp only [List.length_map, List.take_length, List.length_append, List.drop_zero, List.map_append, List.map_take, List.map_drop, List.map_replicate, List.map_cons, List.map_nil, List.append_nil, List.nil_append, E_deed_Gift.pv, E_deed_Gift.upd]; done))), trivial⟩ trivial trivial) (an_ (not_of h9) (an_ (wire_In_Fail_runs n9 l_4 n8 _ h10) trivial)))))))))) (by kernel_rfl))
      exact e_.out ⟨⟨.eq rfl, .eq rfl, .eq rfl, .eq rfl, .eq rfl, trivial⟩, trivial⟩ ⟨⟨.eq rfl, .eq rfl, trivial⟩, trivial⟩ trivial rfl
  · have h := some_of h
    subst h
    have e_ : Runs Try.prog 10 [(.one (.ref 0 0))] [[(.pv (.ints .u8 l false)), (.pv (.int .i64 n))]] [] ([(.agg [(.pv (.int .u64 0)), (.pv (.int .i64 0)), (.pv (.int .i64 0)), (.pv (.bool false)), (.pv .nilp)])], [[(.pv (.ints .u8 l_4 false)), (.pv (.int .i64 n8))]], []) := runs_of (C := cfg) (objs := [[(.pv (.ints .u8 l false)), (.pv (.int .i64 n))]]) (sc := [.res (wire_In_Num_out l n (n2, l_, n3)), .res (deed_number_out l_ n3 (n4, l_2, n5)), .res (deed_number_out l_2 n5 (n6, l_3, n7)), .res (wire_In_Text_out 4096 l_3 n7 (s, l_4, n8)), .res (wire_In_Err_out l_4 n8 ()), .br true]) (.k0 (an_ (wire_In_Num_runs l n _ h1) (an_ (deed_number_runs l_ n3 _ h2) (an_ (deed_number_runs l_2 n5 _ h3) (an_ (wire_In_Text_runs 4096 l_3 n7 _ h4) (an_ (wire_In_Err_runs l_4 n8 _ h5) (an_ (not_of h6) trivial)))))) (by kernel_rfl))
    exact e_.out ⟨⟨.eq rfl, .eq rfl, .eq rfl, .eq rfl, .eq rfl, trivial⟩, trivial⟩ ⟨⟨.eq rfl, .eq rfl, trivial⟩, trivial⟩ trivial rfl
/-! ### kinfolkref15_GetGift_out -/
def kinfolkref15_GetGift_out (l : List Int) (n : Int) (n2 : Int) : Int × Int × Int × T_kinfolkref01_ID × Int × Int → Res
  | (r1, r2, r3, r4, r5, r6) => ([(.agg [(.pv (.int .u64 r1)), (.pv (.int .i64 r2)), (.pv (.int .i64 r3)), (.pv (T_kinfolkref01_ID.pv r4))])], [[(.pv (.ints .u8 l false)), (.pv (.int .i64 r5)), (.pv (.int .i64 r6))]], [])
/-! ### kinfolkref06_GetNum_out -/
def kinfolkref06_GetNum_out (l : List Int) (n : Int) (n2 : Int) : Int × Int × Int → Res
  | (r1, r2, r3) => ([(.one (.pv (.int .u64 r1)))], [[(.pv (.ints .u8 l false)), (.pv (.int .i64 r2)), (.pv (.int .i64 r3))]], [])
/-! ### kinfolkref06_number_out -/
def kinfolkref06_number_out (p : List Int) (at_ : Int) : Int × Int → Res
  | (r1, r2) => ([(.one (.pv (.int .u64 r1))), (.one (.pv (.int .i64 r2)))], [], [])
/-! ### kinfolkref06_number_L0 -/
def kinfolkref06_number_L0_st (p : List Int) (at_ : Int) : Int → St
  | k => ⟨[(0, (.av (.one (.pv (.ints .u8 p false))))), (1, (.av (.one (.pv (.int .i64 at_))))), (6, (.av (.one (.pv (.int .i64 k)))))], [], []⟩
def kinfolkref06_number_L0_ex (p : List Int) (at_ : Int) : Int → Ex × St
  | r1 => ((.exit 0), ⟨[(0, (.av (.one (.pv (.ints .u8 p false))))), (1, (.av (.one (.pv (.int .i64 at_))))), (6, (.av (.one (.pv (.int .i64 r1)))))], [], []⟩)
noncomputable def kinfolkref06_number_L0_step (p : List Int) (at_ : Int) : Int → Option ((Int) ⊕ (Int))
  | k =>
  bif (decide ((k : Int) < ((p).length : Int))) then
    bif (decide ((k : Int) < (iadd .i64 at_ 9))) then
      bif decide ((0 : Int) ≤ k) && decide ((k : Int) < ((p).length : Int)) then
      bif (decide ((127 : Int) < (p.getD (k).toNat 0))) then
        some (.inl (iadd .i64 k 1))
      else
        some (.inr k)
      else none
    else
      some (.inr k)
  else
    some (.inr k)
theorem kinfolkref06_number_L0_ok (p : List Int) (at_ : Int) (k : Int) (z_ : (Int) ⊕ (Int)) (h : kinfolkref06_number_L0_step p at_ k = some z_) : RoundOk Try.prog cfg 71 0 (loopAt Try.prog 71 0) (kinfolkref06_number_L0_st p at_) (kinfolkref06_number_L0_ex p at_) k z_ := by
  rcases cond_of h with ⟨h1, h⟩ | ⟨h1, h⟩
  · rcases cond_of h with ⟨h2, h⟩ | ⟨h2, h⟩
    · obtain ⟨h3, h⟩ := need_of h
      rcases cond_of h with ⟨h4, h⟩ | ⟨h4, h⟩
      · have h := some_of h
        subst h
        exact ⟨[.br true, .br true, .br true], kinfolkref06_number_L0_st p at_ (iadd .i64 k 1), .k0 (an_ h1 (an_ h2 (an_ h3 (an_ h4 trivial)))) (by kernel_rfl), .same (by kernel_rfl)⟩
      · have h := some_of h
        subst h
        exact ⟨[.br true, .br true, .br false], ⟨[(26, (.av (.one (.pv (.bool false))))), (0, (.av (.one (.pv (.ints .u8 p false))))), (1, (.av (.one (.pv (.int .i64 at_))))), (6, (.av (.one (.pv (.int .i64 k))))), (26, (.av (.one (.pv (.bool (decide ((127 : Int) < (p.getD (k).toNat 0))))))))], [], []⟩, .k0 (an_ h1 (an_ h2 (an_ h3 (an_ h4 trivial)))) (by kernel_rfl), ⟨⟨⟨_, rfl, .eq rfl⟩, ⟨_, rfl, .eq rfl⟩, ⟨_, rfl, .eq rfl⟩, trivial⟩, trivial, trivial⟩⟩
    · have h := some_of h
      subst h
      exact ⟨[.br true, .br false, .br false], ⟨[(26, (.av (.one (.pv (.bool false))))), (0, (.av (.one (.pv (.ints .u8 p false))))), (1, (.av (.one (.pv (.int .i64 at_))))), (6, (.av (.one (.pv (.int .i64 k))))), (26, (.av (.one (.pv (.bool false)))))], [], []⟩, .k0 (an_ h1 (an_ h2 (an_ (rfl : false = false) trivial))) (by kernel_rfl), ⟨⟨⟨_, rfl, .eq rfl⟩, ⟨_, rfl, .eq rfl⟩, ⟨_, rfl, .eq rfl⟩, trivial⟩, trivial, trivial⟩⟩
  · have h := some_of h
    subst h
    exact ⟨[.br false, .br false, .br false], ⟨[(26, (.av (.one (.pv (.bool false))))), (0, (.av (.one (.pv (.ints .u8 p false))))), (1, (.av (.one (.pv (.int .i64 at_))))), (6, (.av (.one (.pv (.int .i64 k))))), (26, (.av (.one (.pv (.bool false)))))], [], []⟩, .k0 (an_ h1 (an_ (rfl : false = false) (an_ (rfl : false = false) trivial))) (by kernel_rfl), ⟨⟨⟨_, rfl, .eq rfl⟩, ⟨_, rfl, .eq rfl⟩, ⟨_, rfl, .eq rfl⟩, trivial⟩, trivial, trivial⟩⟩
theorem kinfolkref06_number_L0_runs (p : List Int) (at_ : Int) (s_ : Int) (r_ : Int) (h : runL (kinfolkref06_number_L0_step p at_) s_ = some r_) : LRuns Try.prog (lEnv Try.prog cfg 71 0).nt 0 (.loop (loopAt Try.prog 71 0)) (kinfolkref06_number_L0_st p at_ s_) (kinfolkref06_number_L0_ex p at_ r_).1 (kinfolkref06_number_L0_ex p at_ r_).2 :=
  loop_run h (kinfolkref06_number_L0_ok p at_) (by intro r_; rcases r_ with r1 <;> simp [kinfolkref06_number_L0_ex])
/-! ### kinfolkref06_number_L1 -/
def kinfolkref06_number_L1_st (p : List Int) (at_ : Int) (k : Int) : Int × Int → St
  | (n, i) => ⟨[(0, (.av (.one (.pv (.ints .u8 p false))))), (1, (.av (.one (.pv (.int .i64 at_))))), (6, (.av (.one (.pv (.int .i64 k))))), (7, (.av (.one (.pv (.int .u64 n))))), (8, (.av (.one (.pv (.int .i64 i)))))], [], []⟩
def kinfolkref06_number_L1_ex (p : List Int) (at_ : Int) (k : Int) : Int → Ex × St
  | r1 => ((.exit 2), ⟨[(1, (.av (.one (.pv (.int .i64 at_))))), (6, (.av (.one (.pv (.int .i64 k))))), (7, (.av (.one (.pv (.int .u64 r1)))))], [], []⟩)
noncomputable def kinfolkref06_number_L1_step (p : List Int) (at_ : Int) (k : Int) : Int × Int → Option ((Int × Int) ⊕ (Int))
  | (n, i) =>
  bif (decide ((at_ : Int) ≤ i)) then
    bif decide ((0 : Int) ≤ i) && decide ((i : Int) < ((p).length : Int)) then
    some (.inl ((iadd .u64 (imul .u64 128 n) (IntKind.u64.wrap (irem .u8 (p.getD (i).toNat 0) 128))), (isub .i64 i 1)))
    else none
  else
    some (.inr n)
theorem kinfolkref06_number_L1_ok (p : List Int) (at_ : Int) (k : Int) (s_ : Int × Int) (z_ : (Int × Int) ⊕ (Int)) (h : kinfolkref06_number_L1_step p at_ k s_ = some z_) : RoundOk Try.prog cfg 71 0 (loopAt Try.prog 71 1) (kinfolkref06_number_L1_st p at_ k) (kinfolkref06_number_L1_ex p at_ k) s_ z_ := by
  rcases s_ with ⟨n, i⟩
  rcases cond_of h with ⟨h1, h⟩ | ⟨h1, h⟩
  · obtain ⟨h2, h⟩ := need_of h
    have h := some_of h
    subst h
    exact ⟨[.br true], kinfolkref06_number_L1_st p at_ k ((iadd .u64 (imul .u64 128 n) (IntKind.u64.wrap (irem .u8 (p.getD (i).toNat 0) 128))), (isub .i64 i 1)), .k0 (an_ h1 (an_ h2 (an_ (rfl : true = true) trivial))) (by kernel_rfl), .same (by kernel_rfl)⟩
  · have h := some_of h
    subst h
    exact ⟨[.br false], ⟨[(61, (.av (.one (.pv (.bool false))))), (0, (.av (.one (.pv (.ints .u8 p false))))), (1, (.av (.one (.pv (.int .i64 at_))))), (6, (.av (.one (.pv (.int .i64 k))))), (7, (.av (.one (.pv (.int .u64 n))))), (8, (.av (.one (.pv (.int .i64 i))))), (61, (.av (.one (.pv (.bool (decide ((at_ : Int) ≤ i)))))))], [], []⟩, .k0 (an_ h1 trivial) (by kernel_rfl), ⟨⟨⟨_, rfl, .eq rfl⟩, ⟨_, rfl, .eq rfl⟩, ⟨_, rfl, .eq rfl⟩, trivial⟩, trivial, trivial⟩⟩
theorem kinfolkref06_number_L1_runs (p : List Int) (at_ : Int) (k : Int) (s_ : Int × Int) (r_ : Int) (h : runL (kinfolkref06_number_L1_step p at_ k) s_ = some r_) : LRuns Try.prog (lEnv Try.prog cfg 71 0).nt 0 (.loop (loopAt Try.prog 71 1)) (kinfolkref06_number_L1_st p at_ k s_) (kinfolkref06_number_L1_ex p at_ k r_).1 (kinfolkref06_number_L1_ex p at_ k r_).2 :=
  loop_run h (kinfolkref06_number_L1_ok p at_ k) (by intro r_; rcases r_ with r1 <;> simp [kinfolkref06_number_L1_ex])
/-! ### kinfolkref06_number -/
noncomputable def kinfolkref06_number (p : List Int) (at_ : Int) : Option (Int × Int) :=
  (runL (kinfolkref06_number_L0_step p at_) at_).bind fun n =>
  bif (decide ((((p).length : Int) : Int) ≤ n)) then
    some (0, 0)
  else
    bif (decide ((n : Int) = (iadd .i64 at_ 9))) then
      bif decide ((0 : Int) ≤ n) && decide ((n : Int) < ((p).length : Int)) then
      bif (decide ((1 : Int) < (p.getD (n).toNat 0))) then
        some (0, 0)
      else
        bif (decide ((at_ : Int) < n)) then
          bif (decide (((p.getD (n).toNat 0) : Int) = 0)) then
            some (0, 0)
          else
            (runL (kinfolkref06_number_L1_step p at_ n) (0, n)).bind fun n2 =>
            some (n2, (iadd .i64 (isub .i64 n at_) 1))
        else
          (runL (kinfolkref06_number_L1_step p at_ n) (0, n)).bind fun n2 =>
          some (n2, (iadd .i64 (isub .i64 n at_) 1))
      else none
    else
      bif (decide ((at_ : Int) < n)) then
        bif decide ((0 : Int) ≤ n) && decide ((n : Int) < ((p).length : Int)) then
        bif (decide (((p.getD (n).toNat 0) : Int) = 0)) then
          some (0, 0)
        else
          (runL (kinfolkref06_number_L1_step p at_ n) (0, n)).bind fun n2 =>
          some (n2, (iadd .i64 (isub .i64 n at_) 1))
        else none
      else
        (runL (kinfolkref06_number_L1_step p at_ n) (0, n)).bind fun n2 =>
        some (n2, (iadd .i64 (isub .i64 n at_) 1))
theorem kinfolkref06_number_runs (p : List Int) (at_ : Int) (r_ : Int × Int) (h : kinfolkref06_number p at_ = some r_) : Runs Try.prog 71 [(.one (.pv (.ints .u8 p false))), (.one (.pv (.int .i64 at_)))] [] [] (kinfolkref06_number_out p at_ r_) := by
  unfold kinfolkref06_number at h
  obtain ⟨n, h1, h⟩ := bind_of h
  rcases cond_of h with ⟨h2, h⟩ | ⟨h2, h⟩
  · have h := some_of h
    subst h
    exact runs_of (C := cfg) (objs := []) (sc := [.lp (kinfolkref06_number_L0_ex p at_ n).1 (kinfolkref06_number_L0_ex p at_ n).2, .br true, .br true, .br true]) (.k0 (an_ (kinfolkref06_number_L0_runs p at_ _ _ h1) (an_ h2 (an_ (rfl : true = true) (an_ (rfl : true = true) trivial)))) (by kernel_rfl))
  · rcases cond_of h with ⟨h3, h⟩ | ⟨h3, h⟩
    · obtain ⟨h4, h⟩ := need_of h
      rcases cond_of h with ⟨h5, h⟩ | ⟨h5, h⟩
      · have h := some_of h
        subst h
        exact runs_of (C := cfg) (objs := []) (sc := [.lp (kinfolkref06_number_L0_ex p at_ n).1 (kinfolkref06_number_L0_ex p at_ n).2, .br false, .br true, .br true, .br true]) (.k0 (an_ (kinfolkref06_number_L0_runs p at_ _ _ h1) (an_ h2 (an_ h3 (an_ h4 (an_ h5 (an_ (rfl : true = true) trivial)))))) (by kernel_rfl))
      · rcases cond_of h with ⟨h6, h⟩ | ⟨h6, h⟩
        · rcases cond_of h with ⟨h7, h⟩ | ⟨h7, h⟩
          · have h := some_of h
            subst h
            exact runs_of (C := cfg) (objs := []) (sc := [.lp (kinfolkref06_number_L0_ex p at_ n).1 (kinfolkref06_number_L0_ex p at_ n).2, .br false, .br true, .br false, .br true, .br true]) (.k0 (an_ (kinfolkref06_number_L0_runs p at_ _ _ h1) (an_ h2 (an_ h3 (an_ h4 (an_ h5 (an_ h6 (an_ h4 (an_ h7 trivial)))))))) (by kernel_rfl))
          · obtain ⟨n2, h8, h⟩ := bind_of h
            have h := some_of h
            subst h
            exact runs_of (C := cfg) (objs := []) (sc := [.lp (kinfolkref06_number_L0_ex p at_ n).1 (kinfolkref06_number_L0_ex p at_ n).2, .br false, .br true, .br false, .br true, .br false, .lp (kinfolkref06_number_L1_ex p at_ n n2).1 (kinfolkref06_number_L1_ex p at_ n n2).2]) (.k0 (an_ (kinfolkref06_number_L0_runs p at_ _ _ h1) (an_ h2 (an_ h3 (an_ h4 (an_ h5 (an_ h6 (an_ h4 (an_ h7 (an_ (kinfolkref06_number_L1_runs p at_ n _ _ h8) trivial))))))))) (by kernel_rfl))
        · obtain ⟨n2, h7, h⟩ := bind_of h
          have h := some_of h
          subst h
          exact runs_of (C := cfg) (objs := []) (sc := [.lp (kinfolkref06_number_L0_ex p at_ n).1 (kinfolkref06_number_L0_ex p at_ n).2, .br false, .br true, .br false, .br false, .br false, .lp (kinfolkref06_number_L1_ex p at_ n n2).1 (kinfolkref06_number_L1_ex p at_ n n2).2]) (.k0 (an_ (kinfolkref06_number_L0_runs p at_ _ _ h1) (an_ h2 (an_ h3 (an_ h4 (an_ h5 (an_ h6 (an_ (rfl : false = false) (an_ (kinfolkref06_number_L1_runs p at_ n _ _ h7) trivial)))))))) (by kernel_rfl))
    · rcases cond_of h with ⟨h4, h⟩ | ⟨h4, h⟩
      · obtain ⟨h5, h⟩ := need_of h
        rcases cond_of h with ⟨h6, h⟩ | ⟨h6, h⟩
        · have h := some_of h
          subst h
          exact runs_of (C := cfg) (objs := []) (sc := [.lp (kinfolkref06_number_L0_ex p at_ n).1 (kinfolkref06_number_L0_ex p at_ n).2, .br false, .br false, .br false, .br true, .br true]) (.k0 (an_ (kinfolkref06_number_L0_runs p at_ _ _ h1) (an_ h2 (an_ h3 (an_ (rfl : false = false) (an_ h4 (an_ h5 (an_ h6 trivial))))))) (by kernel_rfl))
        · obtain ⟨n2, h7, h⟩ := bind_of h
          have h := some_of h
          subst h
          exact runs_of (C := cfg) (objs := []) (sc := [.lp (kinfolkref06_number_L0_ex p at_ n).1 (kinfolkref06_number_L0_ex p at_ n).2, .br false, .br false, .br false, .br true, .br false, .lp (kinfolkref06_number_L1_ex p at_ n n2).1 (kinfolkref06_number_L1_ex p at_ n n2).2]) (.k0 (an_ (kinfolkref06_number_L0_runs p at_ _ _ h1) (an_ h2 (an_ h3 (an_ (rfl : false = false) (an_ h4 (an_ h5 (an_ h6 (an_ (kinfolkref06_number_L1_runs p at_ n _ _ h7) trivial)))))))) (by kernel_rfl))
      · obtain ⟨n2, h5, h⟩ := bind_of h
        have h := some_of h
        subst h
        exact runs_of (C := cfg) (objs := []) (sc := [.lp (kinfolkref06_number_L0_ex p at_ n).1 (kinfolkref06_number_L0_ex p at_ n).2, .br false, .br false, .br false, .br false, .br false, .lp (kinfolkref06_number_L1_ex p at_ n n2).1 (kinfolkref06_number_L1_ex p at_ n n2).2]) (.k0 (an_ (kinfolkref06_number_L0_runs p at_ _ _ h1) (an_ h2 (an_ h3 (an_ (rfl : false = false) (an_ h4 (an_ (rfl : false = false) (an_ (kinfolkref06_number_L1_runs p at_ n _ _ h5) trivial))))))) (by kernel_rfl))
/-! ### kinfolkref06_GetNum -/
noncomputable def kinfolkref06_GetNum (l : List Int) (n : Int) (n2 : Int) : Option (Int × Int × Int) :=
  bif (decide ((n2 : Int) = 0)) then
    (kinfolkref06_number l n).bind fun (n3, n4) =>
    bif (decide ((n4 : Int) = 0)) then
      some (n3, (iadd .i64 n n4), 6)
    else
      some (n3, (iadd .i64 n n4), n2)
  else
    some (0, n, n2)
theorem kinfolkref06_GetNum_runs (l : List Int) (n : Int) (n2 : Int) (r_ : Int × Int × Int) (h : kinfolkref06_GetNum l n n2 = some r_) : Runs Try.prog 40 [(.one (.ref 0 0))] [[(.pv (.ints .u8 l false)), (.pv (.int .i64 n)), (.pv (.int .i64 n2))]] [] (kinfolkref06_GetNum_out l n n2 r_) := by
  unfold kinfolkref06_GetNum at h
  rcases cond_of h with ⟨h1, h⟩ | ⟨h1, h⟩
  · obtain ⟨⟨n3, n4⟩, h2, h⟩ := bind_of h
    rcases cond_of h with ⟨h3, h⟩ | ⟨h3, h⟩
    · have h := some_of h
      subst h
      exact runs_of (C := cfg) (objs := [[(.pv (.ints .u8 l false)), (.pv (.int .i64 n)), (.pv (.int .i64 n2))]]) (sc := [.br false, .res (kinfolkref06_number_out l n (n3, n4)), .br true]) (.k1 (an_ (not_of2 h1) (an_ (kinfolkref06_number_runs l n _ h2) (an_ h3 trivial))) (by kernel_rfl) (by kernel_rfl))
    · have h := some_of h
      subst h
      exact runs_of (C := cfg) (objs := [[(.pv (.ints .u8 l false)), (.pv (.int .i64 n)), (.pv (.int .i64 n2))]]) (sc := [.br false, .res (kinfolkref06_number_out l n (n3, n4)), .br false]) (.k1 (an_ (not_of2 h1) (an_ (kinfolkref06_number_runs l n _ h2) (an_ h3 trivial))) (by kernel_rfl) (by kernel_rfl))
  · have h := some_of h
    subst h
    exact runs_of (C := cfg) (objs := [[(.pv (.ints .u8 l false)), (.pv (.int .i64 n)), (.pv (.int .i64 n2))]]) (sc := [.br true]) (.k0 (an_ (not_of h1) trivial) (by kernel_rfl))
/-! ### kinfolkref15_number_out -/
def kinfolkref15_number_out (l : List Int) (n : Int) (n2 : Int) : Int × Int × Int → Res
  | (r1, r2, r3) => ([(.one (.pv (.int .i64 r1)))], [[(.pv (.ints .u8 l false)), (.pv (.int .i64 r2)), (.pv (.int .i64 r3))]], [])
/-! ### kinfolkref06_Fail_out -/
def kinfolkref06_Fail_out (e : Int) (l : List Int) (n : Int) (n2 : Int) : Int → Res
  | r1 => ([], [[(.pv (.ints .u8 l false)), (.pv (.int .i64 n)), (.pv (.int .i64 r1))]], [])
/-! ### kinfolkref06_Fail -/
noncomputable def kinfolkref06_Fail (e : Int) (l : List Int) (n : Int) (n2 : Int) : Option (Int) :=
  bif (decide ((n2 : Int) = 0)) then
    some e
  else
    some n2
theorem kinfolkref06_Fail_runs (e : Int) (l : List Int) (n : Int) (n2 : Int) (r_ : Int) (h : kinfolkref06_Fail e l n n2 = some r_) : Runs Try.prog 72 [(.one (.ref 0 0)), (.one (.pv (.int .i64 e)))] [[(.pv (.ints .u8 l false)), (.pv (.int .i64 n)), (.pv (.int .i64 n2))]] [] (kinfolkref06_Fail_out e l n n2 r_) := by
  unfold kinfolkref06_Fail at h
  rcases cond_of h with ⟨h1, h⟩ | ⟨h1, h⟩
  · have h := some_of h
    subst h
    exact runs_of (C := cfg) (objs := [[(.pv (.ints .u8 l false)), (.pv (.int .i64 n)), (.pv (.int .i64 n2))]]) (sc := [.br true]) (.k0 (an_ h1 trivial) (by kernel_rfl))
  · have h := some_of h
    subst h
    exact runs_of (C := cfg) (objs := [[(.pv (.ints .u8 l false)), (.pv (.int .i64 n)), (.pv (.int .i64 n2))]]) (sc := [.br false]) (.k0 (an_ h1 trivial) (by kernel_rfl))
/-! ### kinfolkref15_number -/
noncomputable def kinfolkref15_number (l : List Int) (n : Int) (n2 : Int) : Option (Int × Int × Int) :=
  (kinfolkref06_GetNum l n n2).bind fun (n3, n4, n5) =>
  bif (decide ((2147483648 : Int) ≤ n3)) then
    (kinfolkref06_Fail 6 l n4 n5).bind fun n6 =>
    some (0, n4, n6)
  else
    some ((IntKind.i64.wrap n3), n4, n5)
theorem kinfolkref15_number_runs (l : List Int) (n : Int) (n2 : Int) (r_ : Int × Int × Int) (h : kinfolkref15_number l n n2 = some r_) : Runs Try.prog 41 [(.one (.ref 0 0))] [[(.pv (.ints .u8 l false)), (.pv (.int .i64 n)), (.pv (.int .i64 n2))]] [] (kinfolkref15_number_out l n n2 r_) := by
  unfold kinfolkref15_number at h
  obtain ⟨⟨n3, n4, n5⟩, h1, h⟩ := bind_of h
  rcases cond_of h with ⟨h2, h⟩ | ⟨h2, h⟩
  · obtain ⟨n6, h3, h⟩ := bind_of h
    have h := some_of h
    subst h
    exact runs_of (C := cfg) (objs := [[(.pv (.ints .u8 l false)), (.pv (.int .i64 n)), (.pv (.int .i64 n2))]]) (sc := [.res (kinfolkref06_GetNum_out l n n2 (n3, n4, n5)), .br true, .res (kinfolkref06_Fail_out 6 l n4 n5 n6)]) (.k0 (an_ (kinfolkref06_GetNum_runs l n n2 _ h1) (an_ h2 (an_ (kinfolkref06_Fail_runs 6 l n4 n5 _ h3) trivial))) (by kernel_rfl))
  · have h := some_of h
    subst h
    exact runs_of (C := cfg) (objs := [[(.pv (.ints .u8 l false)), (.pv (.int .i64 n)), (.pv (.int .i64 n2))]]) (sc := [.res (kinfolkref06_GetNum_out l n n2 (n3, n4, n5)), .br false]) (.k0 (an_ (kinfolkref06_GetNum_runs l n n2 _ h1) (an_ h2 trivial)) (by kernel_rfl))
/-! ### kinfolkref06_GetText_out -/
def kinfolkref06_GetText_out (most : Int) (l : List Int) (n : Int) (n2 : Int) : ByteArray × Int × Int → Res
  | (r1, r2, r3) => ([(.one (.pv (.str r1)))], [[(.pv (.ints .u8 l false)), (.pv (.int .i64 r2)), (.pv (.int .i64 r3))]], [])
/-! ### kinfolkref06_GetText -/
noncomputable def kinfolkref06_GetText (most : Int) (l : List Int) (n : Int) (n2 : Int) : Option (ByteArray × Int × Int) :=
  bif (decide ((n2 : Int) = 0)) then
    (kinfolkref06_number l n).bind fun (n3, n4) =>
    bif (decide ((n4 : Int) = 0)) then
      some ((⟨#[]⟩ : ByteArray), n, 6)
    else
      bif (decide ((most : Int) < 0)) then
        some ((⟨#[]⟩ : ByteArray), n, 9)
      else
        bif (decide (((IntKind.u64.wrap most) : Int) < n3)) then
          some ((⟨#[]⟩ : ByteArray), n, 9)
        else
          bif (decide (((IntKind.u64.wrap (isub .i64 (isub .i64 ((l).length : Int) n) n4)) : Int) < n3)) then
            some ((⟨#[]⟩ : ByteArray), n, 6)
          else
            bif decide ((0 : Int) ≤ (isub .i64 (iadd .i64 n (iadd .i64 n4 (IntKind.i64.wrap n3))) (IntKind.i64.wrap n3))) && decide (((isub .i64 (iadd .i64 n (iadd .i64 n4 (IntKind.i64.wrap n3))) (IntKind.i64.wrap n3)) : Int) ≤ (iadd .i64 n (iadd .i64 n4 (IntKind.i64.wrap n3)))) && decide (((iadd .i64 n (iadd .i64 n4 (IntKind.i64.wrap n3))) : Int) ≤ ((l).length : Int)) && decide (((iadd .i64 n (iadd .i64 n4 (IntKind.i64.wrap n3))) : Int) = (iadd .i64 n (iadd .i64 n4 (IntKind.i64.wrap n3)))) then
            some ((strOf (List.take ((iadd .i64 n (iadd .i64 n4 (IntKind.i64.wrap n3))) - (isub .i64 (iadd .i64 n (iadd .i64 n4 (IntKind.i64.wrap n3))) (IntKind.i64.wrap n3))).toNat (List.drop ((isub .i64 (iadd .i64 n (iadd .i64 n4 (IntKind.i64.wrap n3))) (IntKind.i64.wrap n3))).toNat l))), (iadd .i64 n (iadd .i64 n4 (IntKind.i64.wrap n3))), n2)
            else none
  else
    some ((⟨#[]⟩ : ByteArray), n, n2)
theorem kinfolkref06_GetText_runs (most : Int) (l : List Int) (n : Int) (n2 : Int) (r_ : ByteArray × Int × Int) (h : kinfolkref06_GetText most l n n2 = some r_) : Runs Try.prog 42 [(.one (.ref 0 0)), (.one (.pv (.int .i64 most)))] [[(.pv (.ints .u8 l false)), (.pv (.int .i64 n)), (.pv (.int .i64 n2))]] [] (kinfolkref06_GetText_out most l n n2 r_) := by
  unfold kinfolkref06_GetText at h
  rcases cond_of h with ⟨h1, h⟩ | ⟨h1, h⟩
  · obtain ⟨⟨n3, n4⟩, h2, h⟩ := bind_of h
    rcases cond_of h with ⟨h3, h⟩ | ⟨h3, h⟩
    · have h := some_of h
      subst h
      exact runs_of (C := cfg) (objs := [[(.pv (.ints .u8 l false)), (.pv (.int .i64 n)), (.pv (.int .i64 n2))]]) (sc := [.br false, .res (kinfolkref06_number_out l n (n3, n4)), .br true]) (.k1 (an_ (not_of2 h1) (an_ (kinfolkref06_number_runs l n _ h2) (an_ h3 trivial))) (by kernel_rfl) (by kernel_rfl))
    · rcases cond_of h with ⟨h4, h⟩ | ⟨h4, h⟩
      · have h := some_of h
        subst h
        exact runs_of (C := cfg) (objs := [[(.pv (.ints .u8 l false)), (.pv (.int .i64 n)), (.pv (.int .i64 n2))]]) (sc := [.br false, .res (kinfolkref06_number_out l n (n3, n4)), .br false, .br true, .br true]) (.k1 (an_ (not_of2 h1) (an_ (kinfolkref06_number_runs l n _ h2) (an_ h3 (an_ h4 (an_ (rfl : true = true) trivial))))) (by kernel_rfl) (by kernel_rfl))
      · rcases cond_of h with ⟨h5, h⟩ | ⟨h5, h⟩
        · have h := some_of h
          subst h
          exact runs_of (C := cfg) (objs := [[(.pv (.ints .u8 l false)), (.pv (.int .i64 n)), (.pv (.int .i64 n2))]]) (sc := [.br false, .res (kinfolkref06_number_out l n (n3, n4)), .br false, .br false, .br true]) (.k1 (an_ (not_of2 h1) (an_ (kinfolkref06_number_runs l n _ h2) (an_ h3 (an_ h4 (an_ h5 trivial))))) (by kernel_rfl) (by kernel_rfl))
        · rcases cond_of h with ⟨h6, h⟩ | ⟨h6, h⟩
          · have h := some_of h
            subst h
            exact runs_of (C := cfg) (objs := [[(.pv (.ints .u8 l false)), (.pv (.int .i64 n)), (.pv (.int .i64 n2))]]) (sc := [.br false, .res (kinfolkref06_number_out l n (n3, n4)), .br false, .br false, .br false, .br true]) (.k1 (an_ (not_of2 h1) (an_ (kinfolkref06_number_runs l n _ h2) (an_ h3 (an_ h4 (an_ h5 (an_ h6 trivial)))))) (by kernel_rfl) (by kernel_rfl))
          · obtain ⟨h7, h⟩ := need_of h
            have h := some_of h
            subst h
            exact runs_of (C := cfg) (objs := [[(.pv (.ints .u8 l false)), (.pv (.int .i64 n)), (.pv (.int .i64 n2))]]) (sc := [.br false, .res (kinfolkref06_number_out l n (n3, n4)), .br false, .br false, .br false, .br false]) (.k1 (an_ (not_of2 h1) (an_ (kinfolkref06_number_runs l n _ h2) (an_ h3 (an_ h4 (an_ h5 (an_ h6 (an_ h7 trivial))))))) (by kernel_rfl) (by kernel_rfl))
  · have h := some_of h
    subst h
    exact runs_of (C := cfg) (objs := [[(.pv (.ints .u8 l false)), (.pv (.int .i64 n)), (.pv (.int .i64 n2))]]) (sc := [.br true]) (.k0 (an_ (not_of h1) trivial) (by kernel_rfl))
/-! ### kinfolkref15_ReadID_out -/
def kinfolkref15_ReadID_out (p : List Int) : T_kinfolkref01_ID × Int → Res
  | (r1, r2) => ([(.one (.pv (T_kinfolkref01_ID.pv r1))), (.one (.pv (.int .i64 r2)))], [], [])
/-! ### kinfolkref05_Bits_out -/
def kinfolkref05_Bits_out (p : List Int) : List Bool → Res
  | r1 => ([(.one (.own 0 0 (r1).length false))], [], [(.bools r1)])
/-! ### kinfolkref05_Bits_L1_3 -/
def kinfolkref05_Bits_L1_3_st (l : List Int) (n : Int) (n2 : Int) : Int × Int × List Bool → St
  | (b, k, l2) => ⟨[(3, (.av (.one (.own 0 0 (l2).length false)))), (5, (.av (.one (.pv (.int .u8 b))))), (6, (.av (.one (.pv (.int .i64 k))))), (7, (.av (.one (.pv (.ints .u8 l false))))), (8, (.av (.one (.pv (.int .i64 n))))), (9, (.av (.one (.pv (.int .i64 n2)))))], [], [(0, (.live (.bools l2)))]⟩
def kinfolkref05_Bits_L1_3_ex (l : List Int) (n : Int) (n2 : Int) : List Bool → Ex × St
  | r1 => ((.exit 2), ⟨[(3, (.av (.one (.own 0 0 (r1).length false)))), (7, (.av (.one (.pv (.ints .u8 l false))))), (8, (.av (.one (.pv (.int .i64 n))))), (9, (.av (.one (.pv (.int .i64 n2)))))], [], [(0, (.live (.bools r1)))]⟩)
noncomputable def kinfolkref05_Bits_L1_3_step (l : List Int) (n : Int) (n2 : Int) : Int × Int × List Bool → Option ((Int × Int × List Bool) ⊕ (List Bool))
  | (b, k, l2) =>
  bif (decide ((k : Int) < 8)) then
    bif fits ((l2 ++ [(decide ((128 : Int) ≤ b))])).length then
    some (.inl ((imul .u8 b 2), (iadd .i64 k 1), (l2 ++ [(decide ((128 : Int) ≤ b))])))
    else none
  else
    some (.inr l2)
theorem kinfolkref05_Bits_L1_3_ok (l : List Int) (n : Int) (n2 : Int) (s_ : Int × Int × List Bool) (z_ : (Int × Int × List Bool) ⊕ (List Bool)) (h : kinfolkref05_Bits_L1_3_step l n n2 s_ = some z_) : RoundOk Try.prog cfg 73 0 (loopAt Try.prog 73 1) (kinfolkref05_Bits_L1_3_st l n n2) (kinfolkref05_Bits_L1_3_ex l n n2) s_ z_ := by
  rcases s_ with ⟨b, k, l2⟩
  rcases cond_of h with ⟨h1, h⟩ | ⟨h1, h⟩
  · obtain ⟨h2, h⟩ := need_of h
    have h := some_of h
    subst h
    exact ⟨[.br true], kinfolkref05_Bits_L1_3_st l n n2 ((imul .u8 b 2), (iadd .i64 k 1), (l2 ++ [(decide ((128 : Int) ≤ b))])), .k0 (an_ h1 (an_ (show (Nat.beq (l2).length (l2).length) = true from Nat.beq_refl _) (an_ h2 trivial))) (by kernel_rfl), .same (by kernel_rfl)⟩
  · have h := some_of h
    subst h
    exact ⟨[.br false], ⟨[(14, (.av (.one (.pv (.bool false))))), (3, (.av (.one (.own 0 0 (l2).length false)))), (5, (.av (.one (.pv (.int .u8 b))))), (6, (.av (.one (.pv (.int .i64 k))))), (7, (.av (.one (.pv (.ints .u8 l false))))), (8, (.av (.one (.pv (.int .i64 n))))), (9, (.av (.one (.pv (.int .i64 n2))))), (14, (.av (.one (.pv (.bool (decide ((k : Int) < 8)))))))], [], [(0, (.live (.bools l2)))]⟩, .k0 (an_ h1 trivial) (by kernel_rfl), ⟨⟨⟨_, rfl, .eq rfl⟩, ⟨_, rfl, .eq rfl⟩, ⟨_, rfl, .eq rfl⟩, ⟨_, rfl, .eq rfl⟩, trivial⟩, trivial, ⟨⟨rfl, .eq rfl⟩, trivial⟩⟩⟩
theorem kinfolkref05_Bits_L1_3_runs (l : List Int) (n : Int) (n2 : Int) (s_ : Int × Int × List Bool) (r_ : List Bool) (h : runL (kinfolkref05_Bits_L1_3_step l n n2) s_ = some r_) : LRuns Try.prog (lEnv Try.prog cfg 73 0).nt 0 (.loop (loopAt Try.prog 73 1)) (kinfolkref05_Bits_L1_3_st l n n2 s_) (kinfolkref05_Bits_L1_3_ex l n n2 r_).1 (kinfolkref05_Bits_L1_3_ex l n n2 r_).2 :=
  loop_run h (kinfolkref05_Bits_L1_3_ok l n n2) (by intro r_; rcases r_ with r1 <;> simp [kinfolkref05_Bits_L1_3_ex])
/-! ### kinfolkref05_Bits_L0_2 -/
def kinfolkref05_Bits_L0_2_st (l : List Int) (n : Int) : Int × List Bool → St
  | (n2, l2) => ⟨[(3, (.av (.one (.own 0 0 (l2).length false)))), (7, (.av (.one (.pv (.ints .u8 l false))))), (8, (.av (.one (.pv (.int .i64 n))))), (9, (.av (.one (.pv (.int .i64 n2)))))], [], [(0, (.live (.bools l2)))]⟩
def kinfolkref05_Bits_L0_2_ex (l : List Int) (n : Int) : List Bool → Ex × St
  | r1 => ((.exit 0), ⟨[(3, (.av (.one (.own 0 0 (r1).length false))))], [], [(0, (.live (.bools r1)))]⟩)
noncomputable def kinfolkref05_Bits_L0_2_step (l : List Int) (n : Int) : Int × List Bool → Option ((Int × List Bool) ⊕ (List Bool))
  | (n2, l2) =>
  bif (decide ((n2 : Int) < n)) then
    bif decide ((0 : Int) ≤ n2) && decide ((n2 : Int) < ((l).length : Int)) then
    (runL (kinfolkref05_Bits_L1_3_step l n n2) ((l.getD (n2).toNat 0), 0, l2)).bind fun l_ =>
    some (.inl ((iadd .i64 n2 1), l_))
    else none
  else
    some (.inr l2)
theorem kinfolkref05_Bits_L0_2_ok (l : List Int) (n : Int) (s_ : Int × List Bool) (z_ : (Int × List Bool) ⊕ (List Bool)) (h : kinfolkref05_Bits_L0_2_step l n s_ = some z_) : RoundOk Try.prog cfg 73 0 (loopAt Try.prog 73 0) (kinfolkref05_Bits_L0_2_st l n) (kinfolkref05_Bits_L0_2_ex l n) s_ z_ := by
  rcases s_ with ⟨n2, l2⟩
  rcases cond_of h with ⟨h1, h⟩ | ⟨h1, h⟩
  · obtain ⟨h2, h⟩ := need_of h
    obtain ⟨l_, h3, h⟩ := bind_of h
    have h := some_of h
    subst h
    exact ⟨[.br true, .lp (kinfolkref05_Bits_L1_3_ex l n n2 l_).1 (kinfolkref05_Bits_L1_3_ex l n n2 l_).2], kinfolkref05_Bits_L0_2_st l n ((iadd .i64 n2 1), l_), .k0 (an_ h1 (an_ h2 (an_ (kinfolkref05_Bits_L1_3_runs l n n2 _ _ h3) trivial))) (by kernel_rfl), .same (by kernel_rfl)⟩
  · have h := some_of h
    subst h
    exact ⟨[.br false], ⟨[(10, (.av (.one (.pv (.bool false))))), (3, (.av (.one (.own 0 0 (l2).length false)))), (7, (.av (.one (.pv (.ints .u8 l false))))), (8, (.av (.one (.pv (.int .i64 n))))), (9, (.av (.one (.pv (.int .i64 n2))))), (10, (.av (.one (.pv (.bool (decide ((n2 : Int) < n)))))))], [], [(0, (.live (.bools l2)))]⟩, .k0 (an_ h1 trivial) (by kernel_rfl), ⟨⟨⟨_, rfl, .eq rfl⟩, trivial⟩, trivial, ⟨⟨rfl, .eq rfl⟩, trivial⟩⟩⟩
theorem kinfolkref05_Bits_L0_2_runs (l : List Int) (n : Int) (s_ : Int × List Bool) (r_ : List Bool) (h : runL (kinfolkref05_Bits_L0_2_step l n) s_ = some r_) : LRuns Try.prog (lEnv Try.prog cfg 73 0).nt 0 (.loop (loopAt Try.prog 73 0)) (kinfolkref05_Bits_L0_2_st l n s_) (kinfolkref05_Bits_L0_2_ex l n r_).1 (kinfolkref05_Bits_L0_2_ex l n r_).2 :=
  loop_run h (kinfolkref05_Bits_L0_2_ok l n) (by intro r_; rcases r_ with r1 <;> simp [kinfolkref05_Bits_L0_2_ex])
/-! ### kinfolkref05_Bits -/
noncomputable def kinfolkref05_Bits (p : List Int) : Option (List Bool) :=
  (runL (kinfolkref05_Bits_L0_2_step p ((p).length : Int)) (0, [])).bind fun l_ =>
  some l_
theorem kinfolkref05_Bits_runs (p : List Int) (r_ : List Bool) (h : kinfolkref05_Bits p = some r_) : Runs Try.prog 73 [(.one (.pv (.ints .u8 p false)))] [] [] (kinfolkref05_Bits_out p r_) := by
  unfold kinfolkref05_Bits at h
  obtain ⟨l_, h1, h⟩ := bind_of h
  have h := some_of h
  subst h
  exact runs_of (C := cfg) (objs := []) (sc := [.lp (kinfolkref05_Bits_L0_2_ex p ((p).length : Int) l_).1 (kinfolkref05_Bits_L0_2_ex p ((p).length : Int) l_).2]) (.k0 (an_ (LRuns.coe (s0 := ⟨[(3, (.av (.one (.own 0 0 0 false)))), (7, (.av (.one (.pv (.ints .u8 p false))))), (8, (.av (.one (.pv (.int .i64 ((p).length : Int)))))), (9, (.av (.one (.pv (.int .i64 0)))))], [], [(0, (.live (.bools [])))]⟩) (kinfolkref05_Bits_L0_2_runs p ((p).length : Int) _ _ h1) ⟨⟨⟨_, rfl, .own (by first | rfl | (simp only [List.take_length]; done) | (simp only [List.take_length, List.length_append, List.drop_zero, List.map_append, List.map_take, List.map_drop, List.map_replicate, List.map_cons, List.map_nil, List.append_nil, List.nil_append, E_deed_Gift.pv, E_deed_Gift.upd]; done) | (simp; done) | (simp only [List.length_map, List.take_length, List.length_append, List.drop_zero, List.map_append, List.map_take, List.map_drop, List.map_replicate, List.map_cons, List.map_nil, List.append_nil, List.nil_append, E_deed_Gift.pv, E_deed_Gift.upd]; done))⟩, ⟨_, rfl, .eq rfl⟩, ⟨_, rfl, .eq rfl⟩, ⟨_, rfl, .eq rfl⟩, trivial⟩, trivial, ⟨⟨rfl, .eq rfl⟩, trivial⟩⟩) trivial) (by kernel_rfl))
/-! ### kinfolkref07_GetID_3_out -/
def kinfolkref07_GetID_3_out (depth : Int) (n : Int) (l : List Bool) : T_kinfolkref01_ID × Int × List Bool × Int → Res
  | (r1, r2, r3, r4) => ([(.one (.pv (T_kinfolkref01_ID.pv r1))), (.one (.pv (.int .i64 r2)))], [[(.pv (.bools r3 false)), (.pv (.int .i64 r4))]], [])
/-! ### kinfolkref05_Get_out -/
def kinfolkref05_Get_out (k : Int) (n : Int) (l : List Bool) : Int × List Bool × Int → Res
  | (r1, r2, r3) => ([(.one (.pv (.int .u64 r1)))], [[(.pv (.bools r2 false)), (.pv (.int .i64 r3))]], [])
/-! ### kinfolkref05_within_out -/
def kinfolkref05_within_out (k : Int) : Int → Res
  | r1 => ([(.one (.pv (.int .i64 r1)))], [], [])
/-! ### kinfolkref05_within -/
noncomputable def kinfolkref05_within (k : Int) : Option (Int) :=
  bif (decide ((k : Int) < 0)) then
    some 0
  else
    bif (decide ((64 : Int) < k)) then
      some 64
    else
      some k
theorem kinfolkref05_within_runs (k : Int) (r_ : Int) (h : kinfolkref05_within k = some r_) : Runs Try.prog 92 [(.one (.pv (.int .i64 k)))] [] [] (kinfolkref05_within_out k r_) := by
  unfold kinfolkref05_within at h
  rcases cond_of h with ⟨h1, h⟩ | ⟨h1, h⟩
  · have h := some_of h
    subst h
    exact runs_of (C := cfg) (objs := []) (sc := [.br true]) (.k0 (an_ h1 trivial) (by kernel_rfl))
  · rcases cond_of h with ⟨h2, h⟩ | ⟨h2, h⟩
    · have h := some_of h
      subst h
      exact runs_of (C := cfg) (objs := []) (sc := [.br false, .br true]) (.k0 (an_ h1 (an_ h2 trivial)) (by kernel_rfl))
    · have h := some_of h
      subst h
      exact runs_of (C := cfg) (objs := []) (sc := [.br false, .br false]) (.k0 (an_ h1 (an_ h2 trivial)) (by kernel_rfl))
/-! ### kinfolkref05_Get_L0 -/
def kinfolkref05_Get_L0_st (k : Int) (k2 : Nat) (n : Int) (n2 : Int) (l : List Bool) : Int × Int → St
  | (n3, n4) => ⟨[(0, (.av (.one (.ref 0 0)))), (1, (.av (.one (.pv (.int .i64 k))))), (5, (.av (.one (.pv (.int .u64 n3))))), (30, (.av (.one (.own 0 0 k2 false)))), (31, (.av (.one (.pv (.int .i64 n))))), (32, (.av (.one (.pv (.int .i64 n4)))))], [(0, [(.own 0 0 (l).length false), (.pv (.int .i64 n2))])], [(0, (.live (.bools l)))]⟩
def kinfolkref05_Get_L0_ex (k : Int) (k2 : Nat) (n : Int) (n2 : Int) (l : List Bool) : Int → Ex × St
  | r1 => ((.exit 0), ⟨[(0, (.av (.one (.ref 0 0)))), (1, (.av (.one (.pv (.int .i64 k))))), (5, (.av (.one (.pv (.int .u64 r1)))))], [(0, [(.own 0 0 (l).length false), (.pv (.int .i64 n2))])], [(0, (.live (.bools l)))]⟩)
noncomputable def kinfolkref05_Get_L0_step (k : Int) (k2 : Nat) (n : Int) (n2 : Int) (l : List Bool) : Int × Int → Option ((Int × Int) ⊕ (Int))
  | (n3, n4) =>
  bif (decide ((n4 : Int) < n)) then
    bif decide ((0 : Int) ≤ n4) && decide ((n4 : Int) < (k2 : Int)) then
    bif (l.getD (0 + (n4).toNat) false) then
      some (.inl ((iadd .u64 (imul .u64 n3 2) 1), (iadd .i64 n4 1)))
    else
      some (.inl ((imul .u64 n3 2), (iadd .i64 n4 1)))
    else none
  else
    some (.inr n3)
theorem kinfolkref05_Get_L0_ok (k : Int) (k2 : Nat) (n : Int) (n2 : Int) (l : List Bool) (s_ : Int × Int) (z_ : (Int × Int) ⊕ (Int)) (h : kinfolkref05_Get_L0_step k k2 n n2 l s_ = some z_) : RoundOk Try.prog cfg 91 1 (loopAt Try.prog 91 0) (kinfolkref05_Get_L0_st k k2 n n2 l) (kinfolkref05_Get_L0_ex k k2 n n2 l) s_ z_ := by
  rcases s_ with ⟨n3, n4⟩
  rcases cond_of h with ⟨h1, h⟩ | ⟨h1, h⟩
  · obtain ⟨h2, h⟩ := need_of h
    rcases cond_of h with ⟨h3, h⟩ | ⟨h3, h⟩
    · have h := some_of h
      subst h
      exact ⟨[.br true, .br true], kinfolkref05_Get_L0_st k k2 n n2 l ((iadd .u64 (imul .u64 n3 2) 1), (iadd .i64 n4 1)), .k0 (an_ h1 (an_ h2 (an_ h3 trivial))) (by kernel_rfl), .same (by kernel_rfl)⟩
    · have h := some_of h
      subst h
      exact ⟨[.br true, .br false], kinfolkref05_Get_L0_st k k2 n n2 l ((imul .u64 n3 2), (iadd .i64 n4 1)), .k0 (an_ h1 (an_ h2 (an_ h3 trivial))) (by kernel_rfl), .same (by kernel_rfl)⟩
  · have h := some_of h
    subst h
    exact ⟨[.br false], ⟨[(33, (.av (.one (.pv (.bool false))))), (0, (.av (.one (.ref 0 0)))), (1, (.av (.one (.pv (.int .i64 k))))), (5, (.av (.one (.pv (.int .u64 n3))))), (30, (.av (.one (.own 0 0 k2 false)))), (31, (.av (.one (.pv (.int .i64 n))))), (32, (.av (.one (.pv (.int .i64 n4))))), (33, (.av (.one (.pv (.bool (decide ((n4 : Int) < n)))))))], [(0, [(.own 0 0 (l).length false), (.pv (.int .i64 n2))])], [(0, (.live (.bools l)))]⟩, .k0 (an_ h1 trivial) (by kernel_rfl), ⟨⟨⟨_, rfl, .eq rfl⟩, ⟨_, rfl, .eq rfl⟩, ⟨_, rfl, .eq rfl⟩, trivial⟩, ⟨⟨rfl, ⟨.eq rfl, .eq rfl, trivial⟩⟩, trivial⟩, ⟨⟨rfl, .eq rfl⟩, trivial⟩⟩⟩
theorem kinfolkref05_Get_L0_runs (k : Int) (k2 : Nat) (n : Int) (n2 : Int) (l : List Bool) (s_ : Int × Int) (r_ : Int) (h : runL (kinfolkref05_Get_L0_step k k2 n n2 l) s_ = some r_) : LRuns Try.prog (lEnv Try.prog cfg 91 1).nt 1 (.loop (loopAt Try.prog 91 0)) (kinfolkref05_Get_L0_st k k2 n n2 l s_) (kinfolkref05_Get_L0_ex k k2 n n2 l r_).1 (kinfolkref05_Get_L0_ex k k2 n n2 l r_).2 :=
  loop_run h (kinfolkref05_Get_L0_ok k k2 n n2 l) (by intro r_; rcases r_ with r1 <;> simp [kinfolkref05_Get_L0_ex])
/-! ### kinfolkref05_Get -/
noncomputable def kinfolkref05_Get (k : Int) (n : Int) (l : List Bool) : Option (Int × List Bool × Int) :=
  (kinfolkref05_within k).bind fun n2 =>
  bif (decide ((n : Int) = 0)) then
    bif (decide ((((l).length : Int) : Int) < n2)) then
      some (0, l, 6)
    else
      bif decide ((0 : Int) ≤ 0) && decide ((0 : Int) ≤ n2) && decide ((n2 : Int) ≤ ((l).length : Int)) && decide ((n2 : Int) = n2) then
      (runL (kinfolkref05_Get_L0_step n2 ((n2 - 0).toNat) ((n2 - 0).toNat : Int) n l) (0, 0)).bind fun n3 =>
      bif decide ((0 : Int) ≤ n2) && decide ((n2 : Int) ≤ ((l).length : Int)) && decide ((((l).length : Int) : Int) ≤ ((l).length : Int)) && decide ((((l).length : Int) : Int) = ((l).length : Int)) then
      some (n3, (List.take (((l).length : Int) - n2).toNat (List.drop (0 + (n2).toNat) l)), n)
      else none
      else none
  else
    some (0, l, n)
theorem kinfolkref05_Get_runs (k : Int) (n : Int) (l : List Bool) (r_ : Int × List Bool × Int) (h : kinfolkref05_Get k n l = some r_) : Runs Try.prog 91 [(.one (.ref 0 0)), (.one (.pv (.int .i64 k)))] [[(.own 0 0 (l).length false), (.pv (.int .i64 n))]] [(.bools l)] (kinfolkref05_Get_out k n l r_) := by
  unfold kinfolkref05_Get at h
  obtain ⟨n2, h1, h⟩ := bind_of h
  rcases cond_of h with ⟨h2, h⟩ | ⟨h2, h⟩
  · rcases cond_of h with ⟨h3, h⟩ | ⟨h3, h⟩
    · have h := some_of h
      subst h
      have e_ : Runs Try.prog 91 [(.one (.ref 0 0)), (.one (.pv (.int .i64 k)))] [[(.own 0 0 (l).length false), (.pv (.int .i64 n))]] [(.bools l)] ([(.one (.pv (.int .u64 0)))], [[(.own 0 0 (l).length false), (.pv (.int .i64 6))]], [(.bools l)]) := runs_of (C := cfg) (objs := [[(.own 0 0 (l).length false), (.pv (.int .i64 n))]]) (sc := [.res (kinfolkref05_within_out k n2), .br false, .br true]) (.k0 (an_ (kinfolkref05_within_runs k _ h1) (an_ (not_of2 h2) (an_ h3 trivial))) (by kernel_rfl))
      have e_ := e_.shut (res' := ([(.one (.pv (.int .u64 0)))], [[(.pv (.bools (List.take (l).length l) false)), (.pv (.int .i64 6))]], [])) [0] (by kernel_rfl)
      exact e_.out ⟨.eq rfl, trivial⟩ ⟨⟨.pv (.bools (by first | rfl | (simp only [List.take_length]; done) | (simp only [List.take_length, List.length_append, List.drop_zero, List.map_append, List.map_take, List.map_drop, List.map_replicate, List.map_cons, List.map_nil, List.append_nil, List.nil_append, E_deed_Gift.pv, E_deed_Gift.upd]; done) | (simp; done) | (simp only [List.length_map, List.take_length, List.length_append, List.drop_zero, List.map_append, List.map_take, List.map_drop, List.map_replicate, List.map_cons, List.map_nil, List.append_nil, List.nil_append, E_deed_Gift.pv, E_deed_Gift.upd]; done))), .eq rfl, trivial⟩, trivial⟩ trivial rfl
    · obtain ⟨h4, h⟩ := need_of h
      obtain ⟨n3, h5, h⟩ := bind_of h
      obtain ⟨h6, h⟩ := need_of h
      have h := some_of h
      subst h
      have e_ : Runs Try.prog 91 [(.one (.ref 0 0)), (.one (.pv (.int .i64 k)))] [[(.own 0 0 (l).length false), (.pv (.int .i64 n))]] [(.bools l)] ([(.one (.pv (.int .u64 n3)))], [[(.own 0 (0 + (n2).toNat) (((l).length : Int) - n2).toNat false), (.pv (.int .i64 n))]], [(.bools l)]) := runs_of (C := cfg) (objs := [[(.own 0 0 (l).length false), (.pv (.int .i64 n))]]) (sc := [.res (kinfolkref05_within_out k n2), .br false, .br false, .lp (kinfolkref05_Get_L0_ex n2 ((n2 - 0).toNat) ((n2 - 0).toNat : Int) n l n3).1 (kinfolkref05_Get_L0_ex n2 ((n2 - 0).toNat) ((n2 - 0).toNat : Int) n l n3).2]) (.k0 (an_ (kinfolkref05_within_runs k _ h1) (an_ (not_of2 h2) (an_ h3 (an_ h4 (an_ (kinfolkref05_Get_L0_runs n2 ((n2 - 0).toNat) ((n2 - 0).toNat : Int) n l _ _ h5) (an_ h6 trivial)))))) (by kernel_rfl))
      have e_ := e_.shut (res' := ([(.one (.pv (.int .u64 n3)))], [[(.pv (.bools (List.take (((l).length : Int) - n2).toNat (List.drop (0 + (n2).toNat) l)) false)), (.pv (.int .i64 n))]], [])) [0] (by kernel_rfl)
      exact e_
  · have h := some_of h
    subst h
    have e_ : Runs Try.prog 91 [(.one (.ref 0 0)), (.one (.pv (.int .i64 k)))] [[(.own 0 0 (l).length false), (.pv (.int .i64 n))]] [(.bools l)] ([(.one (.pv (.int .u64 0)))], [[(.own 0 0 (l).length false), (.pv (.int .i64 n))]], [(.bools l)]) := runs_of (C := cfg) (objs := [[(.own 0 0 (l).length false), (.pv (.int .i64 n))]]) (sc := [.res (kinfolkref05_within_out k n2), .br true]) (.k0 (an_ (kinfolkref05_within_runs k _ h1) (an_ (not_of h2) trivial)) (by kernel_rfl))
    have e_ := e_.shut (res' := ([(.one (.pv (.int .u64 0)))], [[(.pv (.bools (List.take (l).length l) false)), (.pv (.int .i64 n))]], [])) [0] (by kernel_rfl)
    exact e_.out ⟨.eq rfl, trivial⟩ ⟨⟨.pv (.bools (by first | rfl | (simp only [List.take_length]; done) | (simp only [List.take_length, List.length_append, List.drop_zero, List.map_append, List.map_take, List.map_drop, List.map_replicate, List.map_cons, List.map_nil, List.append_nil, List.nil_append, E_deed_Gift.pv, E_deed_Gift.upd]; done) | (simp; done) | (simp only [List.length_map, List.take_length, List.length_append, List.drop_zero, List.map_append, List.map_take, List.map_drop, List.map_replicate, List.map_cons, List.map_nil, List.append_nil, List.nil_append, E_deed_Gift.pv, E_deed_Gift.upd]; done))), .eq rfl, trivial⟩, trivial⟩ trivial rfl
/-! ### kinfolkref05_Get_2_out -/
def kinfolkref05_Get_2_out (k : Int) (l : List Bool) (n : Int) : Int × List Bool × Int → Res
  | (r1, r2, r3) => ([(.one (.pv (.int .u64 r1)))], [[(.pv (.bools r2 false)), (.pv (.int .i64 r3))]], [])
/-! ### kinfolkref05_Get_L0_2 -/
def kinfolkref05_Get_L0_2_st (k : Int) (l : List Bool) (n : Int) (l2 : List Bool) (n2 : Int) : Int × Int → St
  | (n3, n4) => ⟨[(0, (.av (.one (.ref 0 0)))), (1, (.av (.one (.pv (.int .i64 k))))), (5, (.av (.one (.pv (.int .u64 n3))))), (30, (.av (.one (.pv (.bools l false))))), (31, (.av (.one (.pv (.int .i64 n))))), (32, (.av (.one (.pv (.int .i64 n4)))))], [(0, [(.pv (.bools l2 false)), (.pv (.int .i64 n2))])], []⟩
def kinfolkref05_Get_L0_2_ex (k : Int) (l : List Bool) (n : Int) (l2 : List Bool) (n2 : Int) : Int → Ex × St
  | r1 => ((.exit 0), ⟨[(0, (.av (.one (.ref 0 0)))), (1, (.av (.one (.pv (.int .i64 k))))), (5, (.av (.one (.pv (.int .u64 r1)))))], [(0, [(.pv (.bools l2 false)), (.pv (.int .i64 n2))])], []⟩)
noncomputable def kinfolkref05_Get_L0_2_step (k : Int) (l : List Bool) (n : Int) (l2 : List Bool) (n2 : Int) : Int × Int → Option ((Int × Int) ⊕ (Int))
  | (n3, n4) =>
  bif (decide ((n4 : Int) < n)) then
    bif decide ((0 : Int) ≤ n4) && decide ((n4 : Int) < ((l).length : Int)) then
    bif (l.getD (n4).toNat false) then
      some (.inl ((iadd .u64 (imul .u64 n3 2) 1), (iadd .i64 n4 1)))
    else
      some (.inl ((imul .u64 n3 2), (iadd .i64 n4 1)))
    else none
  else
    some (.inr n3)
theorem kinfolkref05_Get_L0_2_ok (k : Int) (l : List Bool) (n : Int) (l2 : List Bool) (n2 : Int) (s_ : Int × Int) (z_ : (Int × Int) ⊕ (Int)) (h : kinfolkref05_Get_L0_2_step k l n l2 n2 s_ = some z_) : RoundOk Try.prog cfg 91 1 (loopAt Try.prog 91 0) (kinfolkref05_Get_L0_2_st k l n l2 n2) (kinfolkref05_Get_L0_2_ex k l n l2 n2) s_ z_ := by
  rcases s_ with ⟨n3, n4⟩
  rcases cond_of h with ⟨h1, h⟩ | ⟨h1, h⟩
  · obtain ⟨h2, h⟩ := need_of h
    rcases cond_of h with ⟨h3, h⟩ | ⟨h3, h⟩
    · have h := some_of h
      subst h
      exact ⟨[.br true, .br true], kinfolkref05_Get_L0_2_st k l n l2 n2 ((iadd .u64 (imul .u64 n3 2) 1), (iadd .i64 n4 1)), .k0 (an_ h1 (an_ h2 (an_ h3 trivial))) (by kernel_rfl), .same (by kernel_rfl)⟩
    · have h := some_of h
      subst h
      exact ⟨[.br true, .br false], kinfolkref05_Get_L0_2_st k l n l2 n2 ((imul .u64 n3 2), (iadd .i64 n4 1)), .k0 (an_ h1 (an_ h2 (an_ h3 trivial))) (by kernel_rfl), .same (by kernel_rfl)⟩
  · have h := some_of h
    subst h
    exact ⟨[.br false], ⟨[(33, (.av (.one (.pv (.bool false))))), (0, (.av (.one (.ref 0 0)))), (1, (.av (.one (.pv (.int .i64 k))))), (5, (.av (.one (.pv (.int .u64 n3))))), (30, (.av (.one (.pv (.bools l false))))), (31, (.av (.one (.pv (.int .i64 n))))), (32, (.av (.one (.pv (.int .i64 n4))))), (33, (.av (.one (.pv (.bool (decide ((n4 : Int) < n)))))))], [(0, [(.pv (.bools l2 false)), (.pv (.int .i64 n2))])], []⟩, .k0 (an_ h1 trivial) (by kernel_rfl), ⟨⟨⟨_, rfl, .eq rfl⟩, ⟨_, rfl, .eq rfl⟩, ⟨_, rfl, .eq rfl⟩, trivial⟩, ⟨⟨rfl, ⟨.eq rfl, .eq rfl, trivial⟩⟩, trivial⟩, trivial⟩⟩
theorem kinfolkref05_Get_L0_2_runs (k : Int) (l : List Bool) (n : Int) (l2 : List Bool) (n2 : Int) (s_ : Int × Int) (r_ : Int) (h : runL (kinfolkref05_Get_L0_2_step k l n l2 n2) s_ = some r_) : LRuns Try.prog (lEnv Try.prog cfg 91 1).nt 1 (.loop (loopAt Try.prog 91 0)) (kinfolkref05_Get_L0_2_st k l n l2 n2 s_) (kinfolkref05_Get_L0_2_ex k l n l2 n2 r_).1 (kinfolkref05_Get_L0_2_ex k l n l2 n2 r_).2 :=
  loop_run h (kinfolkref05_Get_L0_2_ok k l n l2 n2) (by intro r_; rcases r_ with r1 <;> simp [kinfolkref05_Get_L0_2_ex])
/-! ### kinfolkref05_Get_2 -/
noncomputable def kinfolkref05_Get_2 (k : Int) (l : List Bool) (n : Int) : Option (Int × List Bool × Int) :=
  (kinfolkref05_within k).bind fun n2 =>
  bif (decide ((n : Int) = 0)) then
    bif (decide ((((l).length : Int) : Int) < n2)) then
      some (0, l, 6)
    else
      bif decide ((0 : Int) ≤ 0) && decide ((0 : Int) ≤ n2) && decide ((n2 : Int) ≤ ((l).length : Int)) && decide ((n2 : Int) = n2) then
      (runL (kinfolkref05_Get_L0_2_step n2 (List.take (n2 - 0).toNat l) (((List.take (n2 - 0).toNat l)).length : Int) l n) (0, 0)).bind fun n3 =>
      bif decide ((0 : Int) ≤ n2) && decide ((n2 : Int) ≤ ((l).length : Int)) && decide ((((l).length : Int) : Int) ≤ ((l).length : Int)) && decide ((((l).length : Int) : Int) = ((l).length : Int)) then
      some (n3, (List.take (((l).length : Int) - n2).toNat (List.drop (n2).toNat l)), n)
      else none
      else none
  else
    some (0, l, n)
theorem kinfolkref05_Get_2_runs (k : Int) (l : List Bool) (n : Int) (r_ : Int × List Bool × Int) (h : kinfolkref05_Get_2 k l n = some r_) : Runs Try.prog 91 [(.one (.ref 0 0)), (.one (.pv (.int .i64 k)))] [[(.pv (.bools l false)), (.pv (.int .i64 n))]] [] (kinfolkref05_Get_2_out k l n r_) := by
  unfold kinfolkref05_Get_2 at h
  obtain ⟨n2, h1, h⟩ := bind_of h
  rcases cond_of h with ⟨h2, h⟩ | ⟨h2, h⟩
  · rcases cond_of h with ⟨h3, h⟩ | ⟨h3, h⟩
    · have h := some_of h
      subst h
      exact runs_of (C := cfg) (objs := [[(.pv (.bools l false)), (.pv (.int .i64 n))]]) (sc := [.res (kinfolkref05_within_out k n2), .br false, .br true]) (.k0 (an_ (kinfolkref05_within_runs k _ h1) (an_ (not_of2 h2) (an_ h3 trivial))) (by kernel_rfl))
    · obtain ⟨h4, h⟩ := need_of h
      obtain ⟨n3, h5, h⟩ := bind_of h
      obtain ⟨h6, h⟩ := need_of h
      have h := some_of h
      subst h
      exact runs_of (C := cfg) (objs := [[(.pv (.bools l false)), (.pv (.int .i64 n))]]) (sc := [.res (kinfolkref05_within_out k n2), .br false, .br false, .lp (kinfolkref05_Get_L0_2_ex n2 (List.take (n2 - 0).toNat l) (((List.take (n2 - 0).toNat l)).length : Int) l n n3).1 (kinfolkref05_Get_L0_2_ex n2 (List.take (n2 - 0).toNat l) (((List.take (n2 - 0).toNat l)).length : Int) l n n3).2]) (.k0 (an_ (kinfolkref05_within_runs k _ h1) (an_ (not_of2 h2) (an_ h3 (an_ h4 (an_ (kinfolkref05_Get_L0_2_runs n2 (List.take (n2 - 0).toNat l) (((List.take (n2 - 0).toNat l)).length : Int) l n _ _ h5) (an_ h6 trivial)))))) (by kernel_rfl))
  · have h := some_of h
    subst h
    exact runs_of (C := cfg) (objs := [[(.pv (.bools l false)), (.pv (.int .i64 n))]]) (sc := [.res (kinfolkref05_within_out k n2), .br true]) (.k0 (an_ (kinfolkref05_within_runs k _ h1) (an_ (not_of h2) trivial)) (by kernel_rfl))
/-! ### kinfolkref07_GetID_C21 -/
def kinfolkref07_GetID_C21_ex (depth : Int) (kind : Int) (b : Bool) (l : List Bool) (n : Int) : (T_kinfolkref01_ID × List Bool × Int) ⊕ (List Bool × Int) → Ex × St
  | .inl (r1, r2, r3) => (.ret, ⟨[(4, (.av (.one (.pv (T_kinfolkref01_ID.pv r1))))), (5, (.av (.one (.pv (.int .i64 0)))))], [(0, [(.pv (.bools r2 false)), (.pv (.int .i64 r3))])], []⟩)
  | .inr (r1, r2) => (.normal, ⟨[(0, (.av (.one (.ref 0 0)))), (1, (.av (.one (.pv (.int .i64 depth))))), (6, (.av (.one (.pv (.int .u64 kind)))))], [(0, [(.pv (.bools r1 false)), (.pv (.int .i64 r2))])], []⟩)
noncomputable def kinfolkref07_GetID_C21 (depth : Int) (kind : Int) (b : Bool) (l : List Bool) (n : Int) : Option ((T_kinfolkref01_ID × List Bool × Int) ⊕ (List Bool × Int)) :=
  bif b then
    (kinfolkref05_Get_2 1 l n).bind fun (n2, l_, n3) =>
    bif (decide ((n3 : Int) = 0)) then
      some (.inl ((T_kinfolkref01_ID.mk (IntKind.i64.wrap n2) T_kinfolkref01_ID.nil T_kinfolkref01_ID.nil), l_, n3))
    else
      some (.inr (l_, n3))
  else
    some (.inr (l, n))
theorem kinfolkref07_GetID_C21_runs (depth : Int) (kind : Int) (b : Bool) (l : List Bool) (n : Int) (r_ : (T_kinfolkref01_ID × List Bool × Int) ⊕ (List Bool × Int)) (h : kinfolkref07_GetID_C21 depth kind b l n = some r_) : LRuns Try.prog (lEnv Try.prog cfg 74 1).nt 1 (.cond (.tmp 21) (condAt Try.prog 74 21).1 (condAt Try.prog 74 21).2) ⟨[(0, (.av (.one (.ref 0 0)))), (1, (.av (.one (.pv (.int .i64 depth))))), (6, (.av (.one (.pv (.int .u64 kind))))), (21, (.av (.one (.pv (.bool b)))))], [(0, [(.pv (.bools l false)), (.pv (.int .i64 n))])], []⟩ (kinfolkref07_GetID_C21_ex depth kind b l n r_).1 (kinfolkref07_GetID_C21_ex depth kind b l n r_).2 := by
  unfold kinfolkref07_GetID_C21 at h
  rcases cond_of h with ⟨h1, h⟩ | ⟨h1, h⟩
  · obtain ⟨⟨n2, l_, n3⟩, h2, h⟩ := bind_of h
    rcases cond_of h with ⟨h3, h⟩ | ⟨h3, h⟩
    · have h := some_of h
      subst h
      exact piece_run (C := cfg) (s1 := ⟨[(4, (.av (.one (.pv (.imm [(.int .i64 (IntKind.i64.wrap n2)), .nilp, .nilp] 0))))), (5, (.av (.one (.pv (.int .i64 0)))))], [(0, [(.pv (.bools l_ false)), (.pv (.int .i64 n3))])], []⟩) (sc := [.br true, .res (kinfolkref05_Get_2_out 1 l n (n2, l_, n3)), .br true]) (.k0 (an_ h1 (an_ (kinfolkref05_Get_2_runs 1 l n _ h2) (an_ h3 trivial))) (by kernel_rfl)) ⟨⟨⟨_, rfl, .eq rfl⟩, ⟨_, rfl, .eq rfl⟩, trivial⟩, ⟨⟨rfl, ⟨.eq rfl, .eq rfl, trivial⟩⟩, trivial⟩, trivial⟩
    · have h := some_of h
      subst h
      exact piece_ok (C := cfg) (sc := [.br true, .res (kinfolkref05_Get_2_out 1 l n (n2, l_, n3)), .br false]) (.k0 (an_ h1 (an_ (kinfolkref05_Get_2_runs 1 l n _ h2) (an_ h3 trivial))) (by kernel_rfl))
  · have h := some_of h
    subst h
    exact piece_ok (C := cfg) (sc := [.br false]) (.k0 (an_ h1 trivial) (by kernel_rfl))
/-! ### kinfolkref07_GetID_4_out -/
def kinfolkref07_GetID_4_out (depth : Int) (l : List Bool) (n : Int) : T_kinfolkref01_ID × Int × List Bool × Int → Res
  | (r1, r2, r3, r4) => ([(.one (.pv (T_kinfolkref01_ID.pv r1))), (.one (.pv (.int .i64 r2)))], [[(.pv (.bools r3 false)), (.pv (.int .i64 r4))]], [])
/-! ### kinfolkref07_GetID_C45_2 -/
def kinfolkref07_GetID_C45_2_ex (depth : Int) (kind : Int) (x : T_kinfolkref01_ID) (y : T_kinfolkref01_ID) (b : Bool) (l : List Bool) (n : Int) : (T_kinfolkref01_ID × List Bool × Int) ⊕ (T_kinfolkref01_ID × Int × List Bool × Int) → Ex × St
  | .inl (r1, r2, r3) => (.normal, ⟨[(0, (.av (.one (.ref 0 0)))), (1, (.av (.one (.pv (.int .i64 depth))))), (6, (.av (.one (.pv (.int .u64 kind))))), (8, (.av (.one (.pv (T_kinfolkref01_ID.pv r1))))), (9, (.av (.one (.pv (T_kinfolkref01_ID.pv y)))))], [(0, [(.pv (.bools r2 false)), (.pv (.int .i64 r3))])], []⟩)
  | .inr (r1, r2, r3, r4) => (.ret, ⟨[(4, (.av (.one (.pv (T_kinfolkref01_ID.pv r1))))), (5, (.av (.one (.pv (.int .i64 r2)))))], [(0, [(.pv (.bools r3 false)), (.pv (.int .i64 r4))])], []⟩)
noncomputable def kinfolkref07_GetID_C45_2 (rec_kinfolkref07_GetID_4 : Int → List Bool → Int → Option (T_kinfolkref01_ID × Int × List Bool × Int)) (depth : Int) (kind : Int) (x : T_kinfolkref01_ID) (y : T_kinfolkref01_ID) (b : Bool) (l : List Bool) (n : Int) : Option ((T_kinfolkref01_ID × List Bool × Int) ⊕ (T_kinfolkref01_ID × Int × List Bool × Int)) :=
  bif b then
    (rec_kinfolkref07_GetID_4 (iadd .i64 depth 1) l n).bind fun (t, n2, l_, n3) =>
    bif (decide ((n2 : Int) = 0)) then
      some (.inl (t, l_, n3))
    else
      (kinfolkref01_Zero).bind fun t2 =>
      some (.inr (t2, n2, l_, n3))
  else
    some (.inl (x, l, n))
theorem kinfolkref07_GetID_C45_2_runs (rec_kinfolkref07_GetID_4 : Int → List Bool → Int → Option (T_kinfolkref01_ID × Int × List Bool × Int)) (hrec_kinfolkref07_GetID_4 : ∀ depth l n r_, rec_kinfolkref07_GetID_4 depth l n = some r_ → Runs Try.prog 74 [(.one (.ref 0 0)), (.one (.pv (.int .i64 depth)))] [[(.pv (.bools l false)), (.pv (.int .i64 n))]] [] (kinfolkref07_GetID_4_out depth l n r_)) (depth : Int) (kind : Int) (x : T_kinfolkref01_ID) (y : T_kinfolkref01_ID) (b : Bool) (l : List Bool) (n : Int) (r_ : (T_kinfolkref01_ID × List Bool × Int) ⊕ (T_kinfolkref01_ID × Int × List Bool × Int)) (h : kinfolkref07_GetID_C45_2 rec_kinfolkref07_GetID_4 depth kind x y b l n = some r_) : LRuns Try.prog (lEnv Try.prog cfg 74 1).nt 1 (.cond (.tmp 45) (condAt Try.prog 74 45).1 (condAt Try.prog 74 45).2) ⟨[(0, (.av (.one (.ref 0 0)))), (1, (.av (.one (.pv (.int .i64 depth))))), (6, (.av (.one (.pv (.int .u64 kind))))), (8, (.av (.one (.pv (T_kinfolkref01_ID.pv x))))), (9, (.av (.one (.pv (T_kinfolkref01_ID.pv y))))), (45, (.av (.one (.pv (.bool b)))))], [(0, [(.pv (.bools l false)), (.pv (.int .i64 n))])], []⟩ (kinfolkref07_GetID_C45_2_ex depth kind x y b l n r_).1 (kinfolkref07_GetID_C45_2_ex depth kind x y b l n r_).2 := by
  unfold kinfolkref07_GetID_C45_2 at h
  rcases cond_of h with ⟨h1, h⟩ | ⟨h1, h⟩
  · obtain ⟨⟨t, n2, l_, n3⟩, h2, h⟩ := bind_of h
    rcases cond_of h with ⟨h3, h⟩ | ⟨h3, h⟩
    · have h := some_of h
      subst h
      exact piece_ok (C := cfg) (sc := [.br true, .res (kinfolkref07_GetID_4_out (iadd .i64 depth 1) l n (t, n2, l_, n3)), .br false]) (.k0 (an_ h1 (an_ (hrec_kinfolkref07_GetID_4 (iadd .i64 depth 1) l n _ h2) (an_ (not_of2 h3) trivial))) (by kernel_rfl))
    · obtain ⟨t2, h4, h⟩ := bind_of h
      have h := some_of h
      subst h
      exact piece_ok (C := cfg) (sc := [.br true, .res (kinfolkref07_GetID_4_out (iadd .i64 depth 1) l n (t, n2, l_, n3)), .br true, .res (kinfolkref01_Zero_out t2)]) (.k0 (an_ h1 (an_ (hrec_kinfolkref07_GetID_4 (iadd .i64 depth 1) l n _ h2) (an_ (not_of h3) (an_ (kinfolkref01_Zero_runs _ h4) trivial)))) (by kernel_rfl))
  · have h := some_of h
    subst h
    exact piece_ok (C := cfg) (sc := [.br false]) (.k0 (an_ h1 trivial) (by kernel_rfl))

end Go.Proofs.Ytjjcmgdgifcmgaa
