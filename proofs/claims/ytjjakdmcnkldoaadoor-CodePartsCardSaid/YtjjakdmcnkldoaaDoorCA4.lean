/- What functions compute, and that they do. -/
import Derived.Test.YtjjakdmcnkldoaaDoorCA3
set_option linter.unusedVariables false
set_option linter.unusedSimpArgs false
set_option maxRecDepth 100000
namespace Go.Proofs.YtjjakdmcnkldoaaDoor
open Go.Ev

/-! ### code_source_event_2 -/
noncomputable def code_source_event_2_b (N : Nat) (rec_code_source_event_2 : Int → Int → List Int → Int → Int → Option (Int × T_event_halves × Int × Int × Int)) (depth : Int) (n : Int) (l : List Int) (n2 : Int) (n3 : Int) : Option (Int × T_event_halves × Int × Int × Int) :=
  (code_source_bit 1 n l n2 n3).bind fun (n4, n5, n6, n7) =>
  bif (decide ((n4 : Int) = 1)) then
    (code_source_number n5 l n6 n7).bind fun (n8, n9, n10, n11) =>
    (event_Leaf n8).bind fun (n12, n13) =>
    some (n12, T_event_halves.nil, n9, n10, n11)
  else
    (code_source_event_C24 depth (decide ((depth : Int) = 16)) n5 l n6 n7).bind fun n8 =>
    (code_source_bit 2 n8 l n6 n7).bind fun (n9, n10, n11, n12) =>
    (code_source_event_C34 depth (!(decide ((n9 : Int) = 0))) (!(decide ((n9 : Int) = 1))) (decide ((n9 : Int) = 3)) n10 l n11 n12).bind fun (n13, b, b2, n14, n15, n16) =>
    (code_source_ok n14 l n15 n16).bind fun (b3, n17) =>
    bif b3 then
      (code_source_event_C53 rec_code_source_event_2 depth n13 b b2 b n17 l n15 n16).bind fun (n18, n19, n20, n21, t) =>
      (code_source_ok n18 l n19 n20).bind fun (b4, n22) =>
      bif b4 then
        (code_source_event_C62 rec_code_source_event_2 depth n13 b b2 b2 n22 l n19 n20 n21 t).bind fun (n23, n24, n25, n26, t2) =>
        (code_zero n21 t).bind fun b5 =>
        bif (b5 == (!b)) then
          (code_zero n26 t2).bind fun b6 =>
          bif (b6 == (!b2)) then
            (event_Event_Base n21 t).bind fun _ =>
            (event_Event_Base n26 t2).bind fun _ =>
            bif (decide (((if (n26 : Int) < n21 then n26 else n21) : Int) = 0)) then
              (event_Event_IsLeaf n21 t).bind fun b7 =>
              bif b7 then
                (event_Event_IsLeaf n26 t2).bind fun b8 =>
                bif b8 then
                  (code_source_must (!(decide ((n21 : Int) = n26))) n23 l n24 n25).bind fun n27 =>
                  (code_source_ok n27 l n24 n25).bind fun (b9, n28) =>
                  bif b9 then
                    (code_source_node N n13 n21 t n26 t2 n28 l n24 n25).bind fun (n29, t3, n30) =>
                    some (n29, t3, n30, n24, n25)
                  else
                    some (0, T_event_halves.nil, n28, n24, n25)
                else
                  (code_source_must true n23 l n24 n25).bind fun n27 =>
                  (code_source_ok n27 l n24 n25).bind fun (b9, n28) =>
                  bif b9 then
                    (code_source_node N n13 n21 t n26 t2 n28 l n24 n25).bind fun (n29, t3, n30) =>
                    some (n29, t3, n30, n24, n25)
                  else
                    some (0, T_event_halves.nil, n28, n24, n25)
              else
                (code_source_must true n23 l n24 n25).bind fun n27 =>
                (code_source_ok n27 l n24 n25).bind fun (b8, n28) =>
                bif b8 then
                  (code_source_node N n13 n21 t n26 t2 n28 l n24 n25).bind fun (n29, t3, n30) =>
                  some (n29, t3, n30, n24, n25)
                else
                  some (0, T_event_halves.nil, n28, n24, n25)
            else
              (code_source_must false n23 l n24 n25).bind fun n27 =>
              (code_source_ok n27 l n24 n25).bind fun (b7, n28) =>
              bif b7 then
                (code_source_node N n13 n21 t n26 t2 n28 l n24 n25).bind fun (n29, t3, n30) =>
                some (n29, t3, n30, n24, n25)
              else
                some (0, T_event_halves.nil, n28, n24, n25)
          else
            (code_source_must false n23 l n24 n25).bind fun n27 =>
            (code_source_ok n27 l n24 n25).bind fun (b7, n28) =>
            bif b7 then
              (code_source_node N n13 n21 t n26 t2 n28 l n24 n25).bind fun (n29, t3, n30) =>
              some (n29, t3, n30, n24, n25)
            else
              some (0, T_event_halves.nil, n28, n24, n25)
        else
          (code_source_must false n23 l n24 n25).bind fun n27 =>
          (code_source_ok n27 l n24 n25).bind fun (b6, n28) =>
          bif b6 then
            (code_source_node N n13 n21 t n26 t2 n28 l n24 n25).bind fun (n29, t3, n30) =>
            some (n29, t3, n30, n24, n25)
          else
            some (0, T_event_halves.nil, n28, n24, n25)
      else
        (code_zero n21 t).bind fun b5 =>
        bif (b5 == (!b)) then
          (code_zero 0 T_event_halves.nil).bind fun b6 =>
          bif (b6 == (!b2)) then
            (event_Event_Base n21 t).bind fun _ =>
            (event_Event_Base 0 T_event_halves.nil).bind fun _ =>
            bif (decide (((if (0 : Int) < n21 then 0 else n21) : Int) = 0)) then
              (event_Event_IsLeaf n21 t).bind fun b7 =>
              bif b7 then
                (event_Event_IsLeaf 0 T_event_halves.nil).bind fun b8 =>
                bif b8 then
                  (code_source_must (!(decide ((n21 : Int) = 0))) n22 l n19 n20).bind fun n23 =>
                  (code_source_ok n23 l n19 n20).bind fun (b9, n24) =>
                  bif b9 then
                    (code_source_node N n13 n21 t 0 T_event_halves.nil n24 l n19 n20).bind fun (n25, t2, n26) =>
                    some (n25, t2, n26, n19, n20)
                  else
                    some (0, T_event_halves.nil, n24, n19, n20)
                else
                  (code_source_must true n22 l n19 n20).bind fun n23 =>
                  (code_source_ok n23 l n19 n20).bind fun (b9, n24) =>
                  bif b9 then
                    (code_source_node N n13 n21 t 0 T_event_halves.nil n24 l n19 n20).bind fun (n25, t2, n26) =>
                    some (n25, t2, n26, n19, n20)
                  else
                    some (0, T_event_halves.nil, n24, n19, n20)
              else
                (code_source_must true n22 l n19 n20).bind fun n23 =>
                (code_source_ok n23 l n19 n20).bind fun (b8, n24) =>
                bif b8 then
                  (code_source_node N n13 n21 t 0 T_event_halves.nil n24 l n19 n20).bind fun (n25, t2, n26) =>
                  some (n25, t2, n26, n19, n20)
                else
                  some (0, T_event_halves.nil, n24, n19, n20)
            else
              (code_source_must false n22 l n19 n20).bind fun n23 =>
              (code_source_ok n23 l n19 n20).bind fun (b7, n24) =>
              bif b7 then
                (code_source_node N n13 n21 t 0 T_event_halves.nil n24 l n19 n20).bind fun (n25, t2, n26) =>
                some (n25, t2, n26, n19, n20)
              else
                some (0, T_event_halves.nil, n24, n19, n20)
          else
            (code_source_must false n22 l n19 n20).bind fun n23 =>
            (code_source_ok n23 l n19 n20).bind fun (b7, n24) =>
            bif b7 then
              (code_source_node N n13 n21 t 0 T_event_halves.nil n24 l n19 n20).bind fun (n25, t2, n26) =>
              some (n25, t2, n26, n19, n20)
            else
              some (0, T_event_halves.nil, n24, n19, n20)
        else
          (code_source_must false n22 l n19 n20).bind fun n23 =>
          (code_source_ok n23 l n19 n20).bind fun (b6, n24) =>
          bif b6 then
            (code_source_node N n13 n21 t 0 T_event_halves.nil n24 l n19 n20).bind fun (n25, t2, n26) =>
            some (n25, t2, n26, n19, n20)
          else
            some (0, T_event_halves.nil, n24, n19, n20)
    else
      (code_source_ok n17 l n15 n16).bind fun (b4, n18) =>
      bif b4 then
        (code_source_event_C62_2 rec_code_source_event_2 depth n13 b b2 b2 n18 l n15 n16).bind fun (n19, n20, n21, n22, t) =>
        (code_zero 0 T_event_halves.nil).bind fun b5 =>
        bif (b5 == (!b)) then
          (code_zero n22 t).bind fun b6 =>
          bif (b6 == (!b2)) then
            (event_Event_Base 0 T_event_halves.nil).bind fun _ =>
            (event_Event_Base n22 t).bind fun _ =>
            bif (decide (((if (n22 : Int) < 0 then n22 else 0) : Int) = 0)) then
              (event_Event_IsLeaf 0 T_event_halves.nil).bind fun b7 =>
              bif b7 then
                (event_Event_IsLeaf n22 t).bind fun b8 =>
                bif b8 then
                  (code_source_must (!(decide ((0 : Int) = n22))) n19 l n20 n21).bind fun n23 =>
                  (code_source_ok n23 l n20 n21).bind fun (b9, n24) =>
                  bif b9 then
                    (code_source_node N n13 0 T_event_halves.nil n22 t n24 l n20 n21).bind fun (n25, t2, n26) =>
                    some (n25, t2, n26, n20, n21)
                  else
                    some (0, T_event_halves.nil, n24, n20, n21)
                else
                  (code_source_must true n19 l n20 n21).bind fun n23 =>
                  (code_source_ok n23 l n20 n21).bind fun (b9, n24) =>
                  bif b9 then
                    (code_source_node N n13 0 T_event_halves.nil n22 t n24 l n20 n21).bind fun (n25, t2, n26) =>
                    some (n25, t2, n26, n20, n21)
                  else
                    some (0, T_event_halves.nil, n24, n20, n21)
              else
                (code_source_must true n19 l n20 n21).bind fun n23 =>
                (code_source_ok n23 l n20 n21).bind fun (b8, n24) =>
                bif b8 then
                  (code_source_node N n13 0 T_event_halves.nil n22 t n24 l n20 n21).bind fun (n25, t2, n26) =>
                  some (n25, t2, n26, n20, n21)
                else
                  some (0, T_event_halves.nil, n24, n20, n21)
            else
              (code_source_must false n19 l n20 n21).bind fun n23 =>
              (code_source_ok n23 l n20 n21).bind fun (b7, n24) =>
              bif b7 then
                (code_source_node N n13 0 T_event_halves.nil n22 t n24 l n20 n21).bind fun (n25, t2, n26) =>
                some (n25, t2, n26, n20, n21)
              else
                some (0, T_event_halves.nil, n24, n20, n21)
          else
            (code_source_must false n19 l n20 n21).bind fun n23 =>
            (code_source_ok n23 l n20 n21).bind fun (b7, n24) =>
            bif b7 then
              (code_source_node N n13 0 T_event_halves.nil n22 t n24 l n20 n21).bind fun (n25, t2, n26) =>
              some (n25, t2, n26, n20, n21)
            else
              some (0, T_event_halves.nil, n24, n20, n21)
        else
          (code_source_must false n19 l n20 n21).bind fun n23 =>
          (code_source_ok n23 l n20 n21).bind fun (b6, n24) =>
          bif b6 then
            (code_source_node N n13 0 T_event_halves.nil n22 t n24 l n20 n21).bind fun (n25, t2, n26) =>
            some (n25, t2, n26, n20, n21)
          else
            some (0, T_event_halves.nil, n24, n20, n21)
      else
        (code_zero 0 T_event_halves.nil).bind fun b5 =>
        bif (b5 == (!b)) then
          bif (b5 == (!b2)) then
            (event_Event_Base 0 T_event_halves.nil).bind fun _ =>
            (event_Event_IsLeaf 0 T_event_halves.nil).bind fun b6 =>
            bif b6 then
              (code_source_must false n18 l n15 n16).bind fun n19 =>
              (code_source_ok n19 l n15 n16).bind fun (b7, n20) =>
              bif b7 then
                (code_source_node N n13 0 T_event_halves.nil 0 T_event_halves.nil n20 l n15 n16).bind fun (n21, t, n22) =>
                some (n21, t, n22, n15, n16)
              else
                some (0, T_event_halves.nil, n20, n15, n16)
            else
              (code_source_must true n18 l n15 n16).bind fun n19 =>
              (code_source_ok n19 l n15 n16).bind fun (b7, n20) =>
              bif b7 then
                (code_source_node N n13 0 T_event_halves.nil 0 T_event_halves.nil n20 l n15 n16).bind fun (n21, t, n22) =>
                some (n21, t, n22, n15, n16)
              else
                some (0, T_event_halves.nil, n20, n15, n16)
          else
            (code_source_must false n18 l n15 n16).bind fun n19 =>
            (code_source_ok n19 l n15 n16).bind fun (b6, n20) =>
            bif b6 then
              (code_source_node N n13 0 T_event_halves.nil 0 T_event_halves.nil n20 l n15 n16).bind fun (n21, t, n22) =>
              some (n21, t, n22, n15, n16)
            else
              some (0, T_event_halves.nil, n20, n15, n16)
        else
          (code_source_must false n18 l n15 n16).bind fun n19 =>
          (code_source_ok n19 l n15 n16).bind fun (b6, n20) =>
          bif b6 then
            (code_source_node N n13 0 T_event_halves.nil 0 T_event_halves.nil n20 l n15 n16).bind fun (n21, t, n22) =>
            some (n21, t, n22, n15, n16)
          else
            some (0, T_event_halves.nil, n20, n15, n16)
theorem code_source_event_2_b_runs (N : Nat) (rec_code_source_event_2 : Int → Int → List Int → Int → Int → Option (Int × T_event_halves × Int × Int × Int)) (hrec_code_source_event_2 : ∀ depth n l n2 n3 r_, rec_code_source_event_2 depth n l n2 n3 = some r_ → Runs Tryd.prog 124 [(.one (.ref 0 0)), (.one (.pv (.int .i64 depth)))] [[(.ref 1 0), (.pv (.int .i64 n))], [(.pv (.ints .u8 l false)), (.pv (.int .i64 n2)), (.pv (.int .i64 n3))]] [] (code_source_event_2_out depth n l n2 n3 r_)) (depth : Int) (n : Int) (l : List Int) (n2 : Int) (n3 : Int) (r_ : Int × T_event_halves × Int × Int × Int) (h : code_source_event_2_b N rec_code_source_event_2 depth n l n2 n3 = some r_) : Runs Tryd.prog 124 [(.one (.ref 0 0)), (.one (.pv (.int .i64 depth)))] [[(.ref 1 0), (.pv (.int .i64 n))], [(.pv (.ints .u8 l false)), (.pv (.int .i64 n2)), (.pv (.int .i64 n3))]] [] (code_source_event_2_out depth n l n2 n3 r_) := by
  unfold code_source_event_2_b at h
  obtain ⟨⟨n4, n5, n6, n7⟩, h1, h⟩ := bind_of h
  rcases cond_of h with ⟨h2, h⟩ | ⟨h2, h⟩
  · obtain ⟨⟨n8, n9, n10, n11⟩, h3, h⟩ := bind_of h
    obtain ⟨⟨n12, n13⟩, h4, h⟩ := bind_of h
    have h := some_of h
    subst h
    have t_ := tR (code_source_bit_runs 1 n l n2 n3 _ h1) <| tT h2 <| tR (code_source_number_runs n5 l n6 n7 _ h3) <| tR (event_Leaf_runs n8 _ h4) <| tN
    exact runs_of (C := cfg) (objs := [[(.ref 1 0), (.pv (.int .i64 n))], [(.pv (.ints .u8 l false)), (.pv (.int .i64 n2)), (.pv (.int .i64 n3))]]) (sc := t_.ev) (.k0 t_.pf (by kernel_rfl))
  · obtain ⟨n8, h3, h⟩ := bind_of h
    have q_3 := (LRuns.coe (s0 := ⟨[(0, (.av (.one (.ref 0 0)))), (1, (.av (.one (.pv (.int .i64 depth))))), (4, (.av (.one (.ref 2 0)))), (24, (.av (.one (.pv (.bool (decide ((depth : Int) = 16)))))))], [(0, [(.ref 1 0), (.pv (.int .i64 n5))]), (1, [(.pv (.ints .u8 l false)), (.pv (.int .i64 n6)), (.pv (.int .i64 n7))]), (2, [(.pv (.int .u64 0)), (.pv .nilp)])], []⟩) (code_source_event_C24_runs depth (decide ((depth : Int) = 16)) n5 l n6 n7 _ h3) ⟨⟨⟨_, rfl, .eq rfl⟩, ⟨_, rfl, .eq rfl⟩, ⟨_, rfl, .eq rfl⟩, ⟨_, rfl, .eq rfl⟩, trivial⟩, ⟨⟨rfl, ⟨.eq rfl, .eq rfl, trivial⟩⟩, ⟨rfl, ⟨.eq rfl, .eq rfl, .eq rfl, trivial⟩⟩, ⟨rfl, ⟨.eq rfl, .eq rfl, trivial⟩⟩, trivial⟩, trivial⟩)
    obtain ⟨⟨n9, n10, n11, n12⟩, h4, h⟩ := bind_of h
    obtain ⟨⟨n13, b, b2, n14, n15, n16⟩, h5, h⟩ := bind_of h
    have q_5 := (LRuns.coe (s0 := ⟨[(0, (.av (.one (.ref 0 0)))), (1, (.av (.one (.pv (.int .i64 depth))))), (4, (.av (.one (.ref 2 0)))), (7, (.av (.one (.ref 3 0)))), (8, (.av (.one (.ref 4 0)))), (9, (.av (.one (.pv (.int .u64 0))))), (11, (.av (.one (.pv (.bool (!(decide ((n9 : Int) = 0)))))))), (12, (.av (.one (.pv (.bool (!(decide ((n9 : Int) = 1)))))))), (34, (.av (.one (.pv (.bool (decide ((n9 : Int) = 3)))))))], [(0, [(.ref 1 0), (.pv (.int .i64 n10))]), (1, [(.pv (.ints .u8 l false)), (.pv (.int .i64 n11)), (.pv (.int .i64 n12))]), (2, [(.pv (.int .u64 0)), (.pv (T_event_halves.pv T_event_halves.nil))]), (3, [(.pv (.int .u64 0)), (.pv .nilp)]), (4, [(.pv (.int .u64 0)), (.pv .nilp)])], []⟩) (code_source_event_C34_runs depth (!(decide ((n9 : Int) = 0))) (!(decide ((n9 : Int) = 1))) (decide ((n9 : Int) = 3)) n10 l n11 n12 _ h5) ⟨⟨⟨_, rfl, .eq rfl⟩, ⟨_, rfl, .eq rfl⟩, ⟨_, rfl, .eq rfl⟩, ⟨_, rfl, .eq rfl⟩, ⟨_, rfl, .eq rfl⟩, ⟨_, rfl, .eq rfl⟩, ⟨_, rfl, .eq rfl⟩, ⟨_, rfl, .eq rfl⟩, ⟨_, rfl, .eq rfl⟩, trivial⟩, ⟨⟨rfl, ⟨.eq rfl, .eq rfl, trivial⟩⟩, ⟨rfl, ⟨.eq rfl, .eq rfl, .eq rfl, trivial⟩⟩, ⟨rfl, ⟨.eq rfl, .eq rfl, trivial⟩⟩, ⟨rfl, ⟨.eq rfl, .eq rfl, trivial⟩⟩, ⟨rfl, ⟨.eq rfl, .eq rfl, trivial⟩⟩, trivial⟩, trivial⟩)
    obtain ⟨⟨b3, n17⟩, h6, h⟩ := bind_of h
    rcases cond_of h with ⟨h7, h⟩ | ⟨h7, h⟩
    · obtain ⟨⟨n18, n19, n20, n21, t⟩, h8, h⟩ := bind_of h
      have q_8 := (code_source_event_C53_runs rec_code_source_event_2 hrec_code_source_event_2 depth n13 b b2 b n17 l n15 n16 _ h8)
      obtain ⟨⟨b4, n22⟩, h9, h⟩ := bind_of h
      rcases cond_of h with ⟨h10, h⟩ | ⟨h10, h⟩
      · obtain ⟨⟨n23, n24, n25, n26, t2⟩, h11, h⟩ := bind_of h
        have q_11 := (code_source_event_C62_runs rec_code_source_event_2 hrec_code_source_event_2 depth n13 b b2 b2 n22 l n19 n20 n21 t _ h11)
        obtain ⟨b5, h12, h⟩ := bind_of h
        rcases cond_of h with ⟨h13, h⟩ | ⟨h13, h⟩
        · obtain ⟨b6, h14, h⟩ := bind_of h
          rcases cond_of h with ⟨h15, h⟩ | ⟨h15, h⟩
          · obtain ⟨_, h16, h⟩ := bind_of h
            obtain ⟨_, h17, h⟩ := bind_of h
            rcases cond_of h with ⟨h18, h⟩ | ⟨h18, h⟩
            · obtain ⟨b7, h19, h⟩ := bind_of h
              rcases cond_of h with ⟨h20, h⟩ | ⟨h20, h⟩
              · obtain ⟨b8, h21, h⟩ := bind_of h
                rcases cond_of h with ⟨h22, h⟩ | ⟨h22, h⟩
                · obtain ⟨n27, h23, h⟩ := bind_of h
                  have q_23 := (code_source_must_runs (!(decide ((n21 : Int) = n26))) n23 l n24 n25 _ h23)
                  obtain ⟨⟨b9, n28⟩, h24, h⟩ := bind_of h
                  rcases cond_of h with ⟨h25, h⟩ | ⟨h25, h⟩
                  · obtain ⟨⟨n29, t3, n30⟩, h26, h⟩ := bind_of h
                    have h := some_of h
                    subst h
                    have t_ := tR (code_source_bit_runs 1 n l n2 n3 _ h1) <| tF h2 <| tL q_3 <| tR (code_source_bit_runs 2 n8 l n6 n7 _ h4) <| tL q_5 <| tR (code_source_ok_runs n14 l n15 n16 _ h6) <| tT h7 <| tL q_8 <| tR (code_source_ok_runs n18 l n19 n20 _ h9) <| tT h10 <| tL q_11 <| tR (code_zero_runs n21 t _ h12) <| tT h13 <| tR (code_zero_runs n26 t2 _ h14) <| tT h15 <| tR (event_Event_Base_runs n21 t _ h16) <| tR (event_Event_Base_runs n21 t _ h16) <| tR (event_Event_Base_runs n26 t2 _ h17) <| tT h18 <| tR (event_Event_IsLeaf_runs n21 t _ h19) <| tT h20 <| tR (event_Event_IsLeaf_runs n26 t2 _ h21) <| tT h22 <| tR (event_Event_Base_runs n21 t _ h16) <| tR (event_Event_Base_runs n21 t _ h16) <| tR (event_Event_Base_runs n26 t2 _ h17) <| tR q_23 <| tR (code_source_ok_runs n27 l n24 n25 _ h24) <| tF (not_of2 h25) <| tR (code_source_node_runs N n13 n21 t n26 t2 n28 l n24 n25 _ h26) <| tN
                    exact runs_of (C := cfg) (objs := [[(.ref 1 0), (.pv (.int .i64 n))], [(.pv (.ints .u8 l false)), (.pv (.int .i64 n2)), (.pv (.int .i64 n3))]]) (sc := t_.ev) (.k1 t_.pf (by kernel_rfl) (by kernel_rfl))
                  · have h := some_of h
                    subst h
                    have t_ := tR (code_source_bit_runs 1 n l n2 n3 _ h1) <| tF h2 <| tL q_3 <| tR (code_source_bit_runs 2 n8 l n6 n7 _ h4) <| tL q_5 <| tR (code_source_ok_runs n14 l n15 n16 _ h6) <| tT h7 <| tL q_8 <| tR (code_source_ok_runs n18 l n19 n20 _ h9) <| tT h10 <| tL q_11 <| tR (code_zero_runs n21 t _ h12) <| tT h13 <| tR (code_zero_runs n26 t2 _ h14) <| tT h15 <| tR (event_Event_Base_runs n21 t _ h16) <| tR (event_Event_Base_runs n21 t _ h16) <| tR (event_Event_Base_runs n26 t2 _ h17) <| tT h18 <| tR (event_Event_IsLeaf_runs n21 t _ h19) <| tT h20 <| tR (event_Event_IsLeaf_runs n26 t2 _ h21) <| tT h22 <| tR (event_Event_Base_runs n21 t _ h16) <| tR (event_Event_Base_runs n21 t _ h16) <| tR (event_Event_Base_runs n26 t2 _ h17) <| tR q_23 <| tR (code_source_ok_runs n27 l n24 n25 _ h24) <| tT (not_of h25) <| tN
                    have e_ : Runs Tryd.prog 124 [(.one (.ref 0 0)), (.one (.pv (.int .i64 depth)))] [[(.ref 1 0), (.pv (.int .i64 n))], [(.pv (.ints .u8 l false)), (.pv (.int .i64 n2)), (.pv (.int .i64 n3))]] [] ([(.agg [(.pv (.int .u64 0)), (.pv .nilp)])], [[(.ref 1 0), (.pv (.int .i64 n28))], [(.pv (.ints .u8 l false)), (.pv (.int .i64 n24)), (.pv (.int .i64 n25))]], []) := runs_of (C := cfg) (objs := [[(.ref 1 0), (.pv (.int .i64 n))], [(.pv (.ints .u8 l false)), (.pv (.int .i64 n2)), (.pv (.int .i64 n3))]]) (sc := t_.ev) (.k1 t_.pf (by kernel_rfl) (by kernel_rfl))
                    exact e_.out ⟨⟨.eq rfl, .eq rfl, trivial⟩, trivial⟩ ⟨⟨.eq rfl, .eq rfl, trivial⟩, ⟨.eq rfl, .eq rfl, .eq rfl, trivial⟩, trivial⟩ trivial rfl
                · obtain ⟨n27, h23, h⟩ := bind_of h
                  have q_23 := (code_source_must_runs true n23 l n24 n25 _ h23)
                  obtain ⟨⟨b9, n28⟩, h24, h⟩ := bind_of h
                  rcases cond_of h with ⟨h25, h⟩ | ⟨h25, h⟩
                  · obtain ⟨⟨n29, t3, n30⟩, h26, h⟩ := bind_of h
                    have h := some_of h
                    subst h
                    have t_ := tR (code_source_bit_runs 1 n l n2 n3 _ h1) <| tF h2 <| tL q_3 <| tR (code_source_bit_runs 2 n8 l n6 n7 _ h4) <| tL q_5 <| tR (code_source_ok_runs n14 l n15 n16 _ h6) <| tT h7 <| tL q_8 <| tR (code_source_ok_runs n18 l n19 n20 _ h9) <| tT h10 <| tL q_11 <| tR (code_zero_runs n21 t _ h12) <| tT h13 <| tR (code_zero_runs n26 t2 _ h14) <| tT h15 <| tR (event_Event_Base_runs n21 t _ h16) <| tR (event_Event_Base_runs n21 t _ h16) <| tR (event_Event_Base_runs n26 t2 _ h17) <| tT h18 <| tR (event_Event_IsLeaf_runs n21 t _ h19) <| tT h20 <| tR (event_Event_IsLeaf_runs n26 t2 _ h21) <| tF h22 <| tR q_23 <| tR (code_source_ok_runs n27 l n24 n25 _ h24) <| tF (not_of2 h25) <| tR (code_source_node_runs N n13 n21 t n26 t2 n28 l n24 n25 _ h26) <| tN
                    exact runs_of (C := cfg) (objs := [[(.ref 1 0), (.pv (.int .i64 n))], [(.pv (.ints .u8 l false)), (.pv (.int .i64 n2)), (.pv (.int .i64 n3))]]) (sc := t_.ev) (.k1 t_.pf (by kernel_rfl) (by kernel_rfl))
                  · have h := some_of h
                    subst h
                    have t_ := tR (code_source_bit_runs 1 n l n2 n3 _ h1) <| tF h2 <| tL q_3 <| tR (code_source_bit_runs 2 n8 l n6 n7 _ h4) <| tL q_5 <| tR (code_source_ok_runs n14 l n15 n16 _ h6) <| tT h7 <| tL q_8 <| tR (code_source_ok_runs n18 l n19 n20 _ h9) <| tT h10 <| tL q_11 <| tR (code_zero_runs n21 t _ h12) <| tT h13 <| tR (code_zero_runs n26 t2 _ h14) <| tT h15 <| tR (event_Event_Base_runs n21 t _ h16) <| tR (event_Event_Base_runs n21 t _ h16) <| tR (event_Event_Base_runs n26 t2 _ h17) <| tT h18 <| tR (event_Event_IsLeaf_runs n21 t _ h19) <| tT h20 <| tR (event_Event_IsLeaf_runs n26 t2 _ h21) <| tF h22 <| tR q_23 <| tR (code_source_ok_runs n27 l n24 n25 _ h24) <| tT (not_of h25) <| tN
                    have e_ : Runs Tryd.prog 124 [(.one (.ref 0 0)), (.one (.pv (.int .i64 depth)))] [[(.ref 1 0), (.pv (.int .i64 n))], [(.pv (.ints .u8 l false)), (.pv (.int .i64 n2)), (.pv (.int .i64 n3))]] [] ([(.agg [(.pv (.int .u64 0)), (.pv .nilp)])], [[(.ref 1 0), (.pv (.int .i64 n28))], [(.pv (.ints .u8 l false)), (.pv (.int .i64 n24)), (.pv (.int .i64 n25))]], []) := runs_of (C := cfg) (objs := [[(.ref 1 0), (.pv (.int .i64 n))], [(.pv (.ints .u8 l false)), (.pv (.int .i64 n2)), (.pv (.int .i64 n3))]]) (sc := t_.ev) (.k1 t_.pf (by kernel_rfl) (by kernel_rfl))
                    exact e_.out ⟨⟨.eq rfl, .eq rfl, trivial⟩, trivial⟩ ⟨⟨.eq rfl, .eq rfl, trivial⟩, ⟨.eq rfl, .eq rfl, .eq rfl, trivial⟩, trivial⟩ trivial rfl
              · obtain ⟨n27, h21, h⟩ := bind_of h
                have q_21 := (code_source_must_runs true n23 l n24 n25 _ h21)
                obtain ⟨⟨b8, n28⟩, h22, h⟩ := bind_of h
                rcases cond_of h with ⟨h23, h⟩ | ⟨h23, h⟩
                · obtain ⟨⟨n29, t3, n30⟩, h24, h⟩ := bind_of h
                  have h := some_of h
                  subst h
                  have t_ := tR (code_source_bit_runs 1 n l n2 n3 _ h1) <| tF h2 <| tL q_3 <| tR (code_source_bit_runs 2 n8 l n6 n7 _ h4) <| tL q_5 <| tR (code_source_ok_runs n14 l n15 n16 _ h6) <| tT h7 <| tL q_8 <| tR (code_source_ok_runs n18 l n19 n20 _ h9) <| tT h10 <| tL q_11 <| tR (code_zero_runs n21 t _ h12) <| tT h13 <| tR (code_zero_runs n26 t2 _ h14) <| tT h15 <| tR (event_Event_Base_runs n21 t _ h16) <| tR (event_Event_Base_runs n21 t _ h16) <| tR (event_Event_Base_runs n26 t2 _ h17) <| tT h18 <| tR (event_Event_IsLeaf_runs n21 t _ h19) <| tF h20 <| tF (rfl : false = false) <| tR q_21 <| tR (code_source_ok_runs n27 l n24 n25 _ h22) <| tF (not_of2 h23) <| tR (code_source_node_runs N n13 n21 t n26 t2 n28 l n24 n25 _ h24) <| tN
                  exact runs_of (C := cfg) (objs := [[(.ref 1 0), (.pv (.int .i64 n))], [(.pv (.ints .u8 l false)), (.pv (.int .i64 n2)), (.pv (.int .i64 n3))]]) (sc := t_.ev) (.k1 t_.pf (by kernel_rfl) (by kernel_rfl))
                · have h := some_of h
                  subst h
                  have t_ := tR (code_source_bit_runs 1 n l n2 n3 _ h1) <| tF h2 <| tL q_3 <| tR (code_source_bit_runs 2 n8 l n6 n7 _ h4) <| tL q_5 <| tR (code_source_ok_runs n14 l n15 n16 _ h6) <| tT h7 <| tL q_8 <| tR (code_source_ok_runs n18 l n19 n20 _ h9) <| tT h10 <| tL q_11 <| tR (code_zero_runs n21 t _ h12) <| tT h13 <| tR (code_zero_runs n26 t2 _ h14) <| tT h15 <| tR (event_Event_Base_runs n21 t _ h16) <| tR (event_Event_Base_runs n21 t _ h16) <| tR (event_Event_Base_runs n26 t2 _ h17) <| tT h18 <| tR (event_Event_IsLeaf_runs n21 t _ h19) <| tF h20 <| tF (rfl : false = false) <| tR q_21 <| tR (code_source_ok_runs n27 l n24 n25 _ h22) <| tT (not_of h23) <| tN
                  have e_ : Runs Tryd.prog 124 [(.one (.ref 0 0)), (.one (.pv (.int .i64 depth)))] [[(.ref 1 0), (.pv (.int .i64 n))], [(.pv (.ints .u8 l false)), (.pv (.int .i64 n2)), (.pv (.int .i64 n3))]] [] ([(.agg [(.pv (.int .u64 0)), (.pv .nilp)])], [[(.ref 1 0), (.pv (.int .i64 n28))], [(.pv (.ints .u8 l false)), (.pv (.int .i64 n24)), (.pv (.int .i64 n25))]], []) := runs_of (C := cfg) (objs := [[(.ref 1 0), (.pv (.int .i64 n))], [(.pv (.ints .u8 l false)), (.pv (.int .i64 n2)), (.pv (.int .i64 n3))]]) (sc := t_.ev) (.k1 t_.pf (by kernel_rfl) (by kernel_rfl))
                  exact e_.out ⟨⟨.eq rfl, .eq rfl, trivial⟩, trivial⟩ ⟨⟨.eq rfl, .eq rfl, trivial⟩, ⟨.eq rfl, .eq rfl, .eq rfl, trivial⟩, trivial⟩ trivial rfl
            · obtain ⟨n27, h19, h⟩ := bind_of h
              have q_19 := (code_source_must_runs false n23 l n24 n25 _ h19)
              obtain ⟨⟨b7, n28⟩, h20, h⟩ := bind_of h
              rcases cond_of h with ⟨h21, h⟩ | ⟨h21, h⟩
              · obtain ⟨⟨n29, t3, n30⟩, h22, h⟩ := bind_of h
                have h := some_of h
                subst h
                have t_ := tR (code_source_bit_runs 1 n l n2 n3 _ h1) <| tF h2 <| tL q_3 <| tR (code_source_bit_runs 2 n8 l n6 n7 _ h4) <| tL q_5 <| tR (code_source_ok_runs n14 l n15 n16 _ h6) <| tT h7 <| tL q_8 <| tR (code_source_ok_runs n18 l n19 n20 _ h9) <| tT h10 <| tL q_11 <| tR (code_zero_runs n21 t _ h12) <| tT h13 <| tR (code_zero_runs n26 t2 _ h14) <| tT h15 <| tR (event_Event_Base_runs n21 t _ h16) <| tR (event_Event_Base_runs n21 t _ h16) <| tR (event_Event_Base_runs n26 t2 _ h17) <| tF h18 <| tR q_19 <| tR (code_source_ok_runs n27 l n24 n25 _ h20) <| tF (not_of2 h21) <| tR (code_source_node_runs N n13 n21 t n26 t2 n28 l n24 n25 _ h22) <| tN
                exact runs_of (C := cfg) (objs := [[(.ref 1 0), (.pv (.int .i64 n))], [(.pv (.ints .u8 l false)), (.pv (.int .i64 n2)), (.pv (.int .i64 n3))]]) (sc := t_.ev) (.k1 t_.pf (by kernel_rfl) (by kernel_rfl))
              · have h := some_of h
                subst h
                have t_ := tR (code_source_bit_runs 1 n l n2 n3 _ h1) <| tF h2 <| tL q_3 <| tR (code_source_bit_runs 2 n8 l n6 n7 _ h4) <| tL q_5 <| tR (code_source_ok_runs n14 l n15 n16 _ h6) <| tT h7 <| tL q_8 <| tR (code_source_ok_runs n18 l n19 n20 _ h9) <| tT h10 <| tL q_11 <| tR (code_zero_runs n21 t _ h12) <| tT h13 <| tR (code_zero_runs n26 t2 _ h14) <| tT h15 <| tR (event_Event_Base_runs n21 t _ h16) <| tR (event_Event_Base_runs n21 t _ h16) <| tR (event_Event_Base_runs n26 t2 _ h17) <| tF h18 <| tR q_19 <| tR (code_source_ok_runs n27 l n24 n25 _ h20) <| tT (not_of h21) <| tN
                have e_ : Runs Tryd.prog 124 [(.one (.ref 0 0)), (.one (.pv (.int .i64 depth)))] [[(.ref 1 0), (.pv (.int .i64 n))], [(.pv (.ints .u8 l false)), (.pv (.int .i64 n2)), (.pv (.int .i64 n3))]] [] ([(.agg [(.pv (.int .u64 0)), (.pv .nilp)])], [[(.ref 1 0), (.pv (.int .i64 n28))], [(.pv (.ints .u8 l false)), (.pv (.int .i64 n24)), (.pv (.int .i64 n25))]], []) := runs_of (C := cfg) (objs := [[(.ref 1 0), (.pv (.int .i64 n))], [(.pv (.ints .u8 l false)), (.pv (.int .i64 n2)), (.pv (.int .i64 n3))]]) (sc := t_.ev) (.k1 t_.pf (by kernel_rfl) (by kernel_rfl))
                exact e_.out ⟨⟨.eq rfl, .eq rfl, trivial⟩, trivial⟩ ⟨⟨.eq rfl, .eq rfl, trivial⟩, ⟨.eq rfl, .eq rfl, .eq rfl, trivial⟩, trivial⟩ trivial rfl
          · obtain ⟨n27, h16, h⟩ := bind_of h
            have q_16 := (code_source_must_runs false n23 l n24 n25 _ h16)
            obtain ⟨⟨b7, n28⟩, h17, h⟩ := bind_of h
            rcases cond_of h with ⟨h18, h⟩ | ⟨h18, h⟩
            · obtain ⟨⟨n29, t3, n30⟩, h19, h⟩ := bind_of h
              have h := some_of h
              subst h
              have t_ := tR (code_source_bit_runs 1 n l n2 n3 _ h1) <| tF h2 <| tL q_3 <| tR (code_source_bit_runs 2 n8 l n6 n7 _ h4) <| tL q_5 <| tR (code_source_ok_runs n14 l n15 n16 _ h6) <| tT h7 <| tL q_8 <| tR (code_source_ok_runs n18 l n19 n20 _ h9) <| tT h10 <| tL q_11 <| tR (code_zero_runs n21 t _ h12) <| tT h13 <| tR (code_zero_runs n26 t2 _ h14) <| tF h15 <| tF (rfl : false = false) <| tR q_16 <| tR (code_source_ok_runs n27 l n24 n25 _ h17) <| tF (not_of2 h18) <| tR (code_source_node_runs N n13 n21 t n26 t2 n28 l n24 n25 _ h19) <| tN
              exact runs_of (C := cfg) (objs := [[(.ref 1 0), (.pv (.int .i64 n))], [(.pv (.ints .u8 l false)), (.pv (.int .i64 n2)), (.pv (.int .i64 n3))]]) (sc := t_.ev) (.k1 t_.pf (by kernel_rfl) (by kernel_rfl))
            · have h := some_of h
              subst h
              have t_ := tR (code_source_bit_runs 1 n l n2 n3 _ h1) <| tF h2 <| tL q_3 <| tR (code_source_bit_runs 2 n8 l n6 n7 _ h4) <| tL q_5 <| tR (code_source_ok_runs n14 l n15 n16 _ h6) <| tT h7 <| tL q_8 <| tR (code_source_ok_runs n18 l n19 n20 _ h9) <| tT h10 <| tL q_11 <| tR (code_zero_runs n21 t _ h12) <| tT h13 <| tR (code_zero_runs n26 t2 _ h14) <| tF h15 <| tF (rfl : false = false) <| tR q_16 <| tR (code_source_ok_runs n27 l n24 n25 _ h17) <| tT (not_of h18) <| tN
              have e_ : Runs Tryd.prog 124 [(.one (.ref 0 0)), (.one (.pv (.int .i64 depth)))] [[(.ref 1 0), (.pv (.int .i64 n))], [(.pv (.ints .u8 l false)), (.pv (.int .i64 n2)), (.pv (.int .i64 n3))]] [] ([(.agg [(.pv (.int .u64 0)), (.pv .nilp)])], [[(.ref 1 0), (.pv (.int .i64 n28))], [(.pv (.ints .u8 l false)), (.pv (.int .i64 n24)), (.pv (.int .i64 n25))]], []) := runs_of (C := cfg) (objs := [[(.ref 1 0), (.pv (.int .i64 n))], [(.pv (.ints .u8 l false)), (.pv (.int .i64 n2)), (.pv (.int .i64 n3))]]) (sc := t_.ev) (.k1 t_.pf (by kernel_rfl) (by kernel_rfl))
              exact e_.out ⟨⟨.eq rfl, .eq rfl, trivial⟩, trivial⟩ ⟨⟨.eq rfl, .eq rfl, trivial⟩, ⟨.eq rfl, .eq rfl, .eq rfl, trivial⟩, trivial⟩ trivial rfl
        · obtain ⟨n27, h14, h⟩ := bind_of h
          have q_14 := (code_source_must_runs false n23 l n24 n25 _ h14)
          obtain ⟨⟨b6, n28⟩, h15, h⟩ := bind_of h
          rcases cond_of h with ⟨h16, h⟩ | ⟨h16, h⟩
          · obtain ⟨⟨n29, t3, n30⟩, h17, h⟩ := bind_of h
            have h := some_of h
            subst h
            have t_ := tR (code_source_bit_runs 1 n l n2 n3 _ h1) <| tF h2 <| tL q_3 <| tR (code_source_bit_runs 2 n8 l n6 n7 _ h4) <| tL q_5 <| tR (code_source_ok_runs n14 l n15 n16 _ h6) <| tT h7 <| tL q_8 <| tR (code_source_ok_runs n18 l n19 n20 _ h9) <| tT h10 <| tL q_11 <| tR (code_zero_runs n21 t _ h12) <| tF h13 <| tF (rfl : false = false) <| tF (rfl : false = false) <| tR q_14 <| tR (code_source_ok_runs n27 l n24 n25 _ h15) <| tF (not_of2 h16) <| tR (code_source_node_runs N n13 n21 t n26 t2 n28 l n24 n25 _ h17) <| tN
            exact runs_of (C := cfg) (objs := [[(.ref 1 0), (.pv (.int .i64 n))], [(.pv (.ints .u8 l false)), (.pv (.int .i64 n2)), (.pv (.int .i64 n3))]]) (sc := t_.ev) (.k1 t_.pf (by kernel_rfl) (by kernel_rfl))
          · have h := some_of h
            subst h
            have t_ := tR (code_source_bit_runs 1 n l n2 n3 _ h1) <| tF h2 <| tL q_3 <| tR (code_source_bit_runs 2 n8 l n6 n7 _ h4) <| tL q_5 <| tR (code_source_ok_runs n14 l n15 n16 _ h6) <| tT h7 <| tL q_8 <| tR (code_source_ok_runs n18 l n19 n20 _ h9) <| tT h10 <| tL q_11 <| tR (code_zero_runs n21 t _ h12) <| tF h13 <| tF (rfl : false = false) <| tF (rfl : false = false) <| tR q_14 <| tR (code_source_ok_runs n27 l n24 n25 _ h15) <| tT (not_of h16) <| tN
            have e_ : Runs Tryd.prog 124 [(.one (.ref 0 0)), (.one (.pv (.int .i64 depth)))] [[(.ref 1 0), (.pv (.int .i64 n))], [(.pv (.ints .u8 l false)), (.pv (.int .i64 n2)), (.pv (.int .i64 n3))]] [] ([(.agg [(.pv (.int .u64 0)), (.pv .nilp)])], [[(.ref 1 0), (.pv (.int .i64 n28))], [(.pv (.ints .u8 l false)), (.pv (.int .i64 n24)), (.pv (.int .i64 n25))]], []) := runs_of (C := cfg) (objs := [[(.ref 1 0), (.pv (.int .i64 n))], [(.pv (.ints .u8 l false)), (.pv (.int .i64 n2)), (.pv (.int .i64 n3))]]) (sc := t_.ev) (.k1 t_.pf (by kernel_rfl) (by kernel_rfl))
            exact e_.out ⟨⟨.eq rfl, .eq rfl, trivial⟩, trivial⟩ ⟨⟨.eq rfl, .eq rfl, trivial⟩, ⟨.eq rfl, .eq rfl, .eq rfl, trivial⟩, trivial⟩ trivial rfl
      · obtain ⟨b5, h11, h⟩ := bind_of h
        rcases cond_of h with ⟨h12, h⟩ | ⟨h12, h⟩
        · obtain ⟨b6, h13, h⟩ := bind_of h
          rcases cond_of h with ⟨h14, h⟩ | ⟨h14, h⟩
          · obtain ⟨_, h15, h⟩ := bind_of h
            obtain ⟨_, h16, h⟩ := bind_of h
            have q_16 := (event_Event_Base_runs 0 T_event_halves.nil _ h16)
            rcases cond_of h with ⟨h17, h⟩ | ⟨h17, h⟩
            · obtain ⟨b7, h18, h⟩ := bind_of h
              rcases cond_of h with ⟨h19, h⟩ | ⟨h19, h⟩
              · obtain ⟨b8, h20, h⟩ := bind_of h
                have q_20 := (event_Event_IsLeaf_runs 0 T_event_halves.nil _ h20)
                rcases cond_of h with ⟨h21, h⟩ | ⟨h21, h⟩
                · obtain ⟨n23, h22, h⟩ := bind_of h
                  have q_22 := (code_source_must_runs (!(decide ((n21 : Int) = 0))) n22 l n19 n20 _ h22)
                  obtain ⟨⟨b9, n24⟩, h23, h⟩ := bind_of h
                  rcases cond_of h with ⟨h24, h⟩ | ⟨h24, h⟩
                  · obtain ⟨⟨n25, t2, n26⟩, h25, h⟩ := bind_of h
                    have h := some_of h
                    subst h
                    have t_ := tR (code_source_bit_runs 1 n l n2 n3 _ h1) <| tF h2 <| tL q_3 <| tR (code_source_bit_runs 2 n8 l n6 n7 _ h4) <| tL q_5 <| tR (code_source_ok_runs n14 l n15 n16 _ h6) <| tT h7 <| tL q_8 <| tR (code_source_ok_runs n18 l n19 n20 _ h9) <| tF h10 <| tF (rfl : false = false) <| tR (code_zero_runs n21 t _ h11) <| tT h12 <| tR (code_zero_runs 0 T_event_halves.nil _ h13) <| tT h14 <| tR (event_Event_Base_runs n21 t _ h15) <| tR (event_Event_Base_runs n21 t _ h15) <| tR q_16 <| tT h17 <| tR (event_Event_IsLeaf_runs n21 t _ h18) <| tT h19 <| tR q_20 <| tT h21 <| tR (event_Event_Base_runs n21 t _ h15) <| tR (event_Event_Base_runs n21 t _ h15) <| tR q_16 <| tR q_22 <| tR (code_source_ok_runs n23 l n19 n20 _ h23) <| tF (not_of2 h24) <| tR (code_source_node_runs N n13 n21 t 0 T_event_halves.nil n24 l n19 n20 _ h25) <| tN
                    exact runs_of (C := cfg) (objs := [[(.ref 1 0), (.pv (.int .i64 n))], [(.pv (.ints .u8 l false)), (.pv (.int .i64 n2)), (.pv (.int .i64 n3))]]) (sc := t_.ev) (.k1 t_.pf (by kernel_rfl) (by kernel_rfl))
                  · have h := some_of h
                    subst h
                    have t_ := tR (code_source_bit_runs 1 n l n2 n3 _ h1) <| tF h2 <| tL q_3 <| tR (code_source_bit_runs 2 n8 l n6 n7 _ h4) <| tL q_5 <| tR (code_source_ok_runs n14 l n15 n16 _ h6) <| tT h7 <| tL q_8 <| tR (code_source_ok_runs n18 l n19 n20 _ h9) <| tF h10 <| tF (rfl : false = false) <| tR (code_zero_runs n21 t _ h11) <| tT h12 <| tR (code_zero_runs 0 T_event_halves.nil _ h13) <| tT h14 <| tR (event_Event_Base_runs n21 t _ h15) <| tR (event_Event_Base_runs n21 t _ h15) <| tR q_16 <| tT h17 <| tR (event_Event_IsLeaf_runs n21 t _ h18) <| tT h19 <| tR q_20 <| tT h21 <| tR (event_Event_Base_runs n21 t _ h15) <| tR (event_Event_Base_runs n21 t _ h15) <| tR q_16 <| tR q_22 <| tR (code_source_ok_runs n23 l n19 n20 _ h23) <| tT (not_of h24) <| tN
                    have e_ : Runs Tryd.prog 124 [(.one (.ref 0 0)), (.one (.pv (.int .i64 depth)))] [[(.ref 1 0), (.pv (.int .i64 n))], [(.pv (.ints .u8 l false)), (.pv (.int .i64 n2)), (.pv (.int .i64 n3))]] [] ([(.agg [(.pv (.int .u64 0)), (.pv .nilp)])], [[(.ref 1 0), (.pv (.int .i64 n24))], [(.pv (.ints .u8 l false)), (.pv (.int .i64 n19)), (.pv (.int .i64 n20))]], []) := runs_of (C := cfg) (objs := [[(.ref 1 0), (.pv (.int .i64 n))], [(.pv (.ints .u8 l false)), (.pv (.int .i64 n2)), (.pv (.int .i64 n3))]]) (sc := t_.ev) (.k1 t_.pf (by kernel_rfl) (by kernel_rfl))
                    exact e_.out ⟨⟨.eq rfl, .eq rfl, trivial⟩, trivial⟩ ⟨⟨.eq rfl, .eq rfl, trivial⟩, ⟨.eq rfl, .eq rfl, .eq rfl, trivial⟩, trivial⟩ trivial rfl
                · obtain ⟨n23, h22, h⟩ := bind_of h
                  have q_22 := (code_source_must_runs true n22 l n19 n20 _ h22)
                  obtain ⟨⟨b9, n24⟩, h23, h⟩ := bind_of h
                  rcases cond_of h with ⟨h24, h⟩ | ⟨h24, h⟩
                  · obtain ⟨⟨n25, t2, n26⟩, h25, h⟩ := bind_of h
                    have h := some_of h
                    subst h
                    have t_ := tR (code_source_bit_runs 1 n l n2 n3 _ h1) <| tF h2 <| tL q_3 <| tR (code_source_bit_runs 2 n8 l n6 n7 _ h4) <| tL q_5 <| tR (code_source_ok_runs n14 l n15 n16 _ h6) <| tT h7 <| tL q_8 <| tR (code_source_ok_runs n18 l n19 n20 _ h9) <| tF h10 <| tF (rfl : false = false) <| tR (code_zero_runs n21 t _ h11) <| tT h12 <| tR (code_zero_runs 0 T_event_halves.nil _ h13) <| tT h14 <| tR (event_Event_Base_runs n21 t _ h15) <| tR (event_Event_Base_runs n21 t _ h15) <| tR q_16 <| tT h17 <| tR (event_Event_IsLeaf_runs n21 t _ h18) <| tT h19 <| tR q_20 <| tF h21 <| tR q_22 <| tR (code_source_ok_runs n23 l n19 n20 _ h23) <| tF (not_of2 h24) <| tR (code_source_node_runs N n13 n21 t 0 T_event_halves.nil n24 l n19 n20 _ h25) <| tN
                    exact runs_of (C := cfg) (objs := [[(.ref 1 0), (.pv (.int .i64 n))], [(.pv (.ints .u8 l false)), (.pv (.int .i64 n2)), (.pv (.int .i64 n3))]]) (sc := t_.ev) (.k1 t_.pf (by kernel_rfl) (by kernel_rfl))
                  · have h := some_of h
                    subst h
                    have t_ := tR (code_source_bit_runs 1 n l n2 n3 _ h1) <| tF h2 <| tL q_3 <| tR (code_source_bit_runs 2 n8 l n6 n7 _ h4) <| tL q_5 <| tR (code_source_ok_runs n14 l n15 n16 _ h6) <| tT h7 <| tL q_8 <| tR (code_source_ok_runs n18 l n19 n20 _ h9) <| tF h10 <| tF (rfl : false = false) <| tR (code_zero_runs n21 t _ h11) <| tT h12 <| tR (code_zero_runs 0 T_event_halves.nil _ h13) <| tT h14 <| tR (event_Event_Base_runs n21 t _ h15) <| tR (event_Event_Base_runs n21 t _ h15) <| tR q_16 <| tT h17 <| tR (event_Event_IsLeaf_runs n21 t _ h18) <| tT h19 <| tR q_20 <| tF h21 <| tR q_22 <| tR (code_source_ok_runs n23 l n19 n20 _ h23) <| tT (not_of h24) <| tN
                    have e_ : Runs Tryd.prog 124 [(.one (.ref 0 0)), (.one (.pv (.int .i64 depth)))] [[(.ref 1 0), (.pv (.int .i64 n))], [(.pv (.ints .u8 l false)), (.pv (.int .i64 n2)), (.pv (.int .i64 n3))]] [] ([(.agg [(.pv (.int .u64 0)), (.pv .nilp)])], [[(.ref 1 0), (.pv (.int .i64 n24))], [(.pv (.ints .u8 l false)), (.pv (.int .i64 n19)), (.pv (.int .i64 n20))]], []) := runs_of (C := cfg) (objs := [[(.ref 1 0), (.pv (.int .i64 n))], [(.pv (.ints .u8 l false)), (.pv (.int .i64 n2)), (.pv (.int .i64 n3))]]) (sc := t_.ev) (.k1 t_.pf (by kernel_rfl) (by kernel_rfl))
                    exact e_.out ⟨⟨.eq rfl, .eq rfl, trivial⟩, trivial⟩ ⟨⟨.eq rfl, .eq rfl, trivial⟩, ⟨.eq rfl, .eq rfl, .eq rfl, trivial⟩, trivial⟩ trivial rfl
              · obtain ⟨n23, h20, h⟩ := bind_of h
                have q_20 := (code_source_must_runs true n22 l n19 n20 _ h20)
                obtain ⟨⟨b8, n24⟩, h21, h⟩ := bind_of h
                rcases cond_of h with ⟨h22, h⟩ | ⟨h22, h⟩
                · obtain ⟨⟨n25, t2, n26⟩, h23, h⟩ := bind_of h
                  have h := some_of h
                  subst h
                  have t_ := tR (code_source_bit_runs 1 n l n2 n3 _ h1) <| tF h2 <| tL q_3 <| tR (code_source_bit_runs 2 n8 l n6 n7 _ h4) <| tL q_5 <| tR (code_source_ok_runs n14 l n15 n16 _ h6) <| tT h7 <| tL q_8 <| tR (code_source_ok_runs n18 l n19 n20 _ h9) <| tF h10 <| tF (rfl : false = false) <| tR (code_zero_runs n21 t _ h11) <| tT h12 <| tR (code_zero_runs 0 T_event_halves.nil _ h13) <| tT h14 <| tR (event_Event_Base_runs n21 t _ h15) <| tR (event_Event_Base_runs n21 t _ h15) <| tR q_16 <| tT h17 <| tR (event_Event_IsLeaf_runs n21 t _ h18) <| tF h19 <| tF (rfl : false = false) <| tR q_20 <| tR (code_source_ok_runs n23 l n19 n20 _ h21) <| tF (not_of2 h22) <| tR (code_source_node_runs N n13 n21 t 0 T_event_halves.nil n24 l n19 n20 _ h23) <| tN
                  exact runs_of (C := cfg) (objs := [[(.ref 1 0), (.pv (.int .i64 n))], [(.pv (.ints .u8 l false)), (.pv (.int .i64 n2)), (.pv (.int .i64 n3))]]) (sc := t_.ev) (.k1 t_.pf (by kernel_rfl) (by kernel_rfl))
                · have h := some_of h
                  subst h
                  have t_ := tR (code_source_bit_runs 1 n l n2 n3 _ h1) <| tF h2 <| tL q_3 <| tR (code_source_bit_runs 2 n8 l n6 n7 _ h4) <| tL q_5 <| tR (code_source_ok_runs n14 l n15 n16 _ h6) <| tT h7 <| tL q_8 <| tR (code_source_ok_runs n18 l n19 n20 _ h9) <| tF h10 <| tF (rfl : false = false) <| tR (code_zero_runs n21 t _ h11) <| tT h12 <| tR (code_zero_runs 0 T_event_halves.nil _ h13) <| tT h14 <| tR (event_Event_Base_runs n21 t _ h15) <| tR (event_Event_Base_runs n21 t _ h15) <| tR q_16 <| tT h17 <| tR (event_Event_IsLeaf_runs n21 t _ h18) <| tF h19 <| tF (rfl : false = false) <| tR q_20 <| tR (code_source_ok_runs n23 l n19 n20 _ h21) <| tT (not_of h22) <| tN
                  have e_ : Runs Tryd.prog 124 [(.one (.ref 0 0)), (.one (.pv (.int .i64 depth)))] [[(.ref 1 0), (.pv (.int .i64 n))], [(.pv (.ints .u8 l false)), (.pv (.int .i64 n2)), (.pv (.int .i64 n3))]] [] ([(.agg [(.pv (.int .u64 0)), (.pv .nilp)])], [[(.ref 1 0), (.pv (.int .i64 n24))], [(.pv (.ints .u8 l false)), (.pv (.int .i64 n19)), (.pv (.int .i64 n20))]], []) := runs_of (C := cfg) (objs := [[(.ref 1 0), (.pv (.int .i64 n))], [(.pv (.ints .u8 l false)), (.pv (.int .i64 n2)), (.pv (.int .i64 n3))]]) (sc := t_.ev) (.k1 t_.pf (by kernel_rfl) (by kernel_rfl))
                  exact e_.out ⟨⟨.eq rfl, .eq rfl, trivial⟩, trivial⟩ ⟨⟨.eq rfl, .eq rfl, trivial⟩, ⟨.eq rfl, .eq rfl, .eq rfl, trivial⟩, trivial⟩ trivial rfl
            · obtain ⟨n23, h18, h⟩ := bind_of h
              have q_18 := (code_source_must_runs false n22 l n19 n20 _ h18)
              obtain ⟨⟨b7, n24⟩, h19, h⟩ := bind_of h
              rcases cond_of h with ⟨h20, h⟩ | ⟨h20, h⟩
              · obtain ⟨⟨n25, t2, n26⟩, h21, h⟩ := bind_of h
                have h := some_of h
                subst h
                have t_ := tR (code_source_bit_runs 1 n l n2 n3 _ h1) <| tF h2 <| tL q_3 <| tR (code_source_bit_runs 2 n8 l n6 n7 _ h4) <| tL q_5 <| tR (code_source_ok_runs n14 l n15 n16 _ h6) <| tT h7 <| tL q_8 <| tR (code_source_ok_runs n18 l n19 n20 _ h9) <| tF h10 <| tF (rfl : false = false) <| tR (code_zero_runs n21 t _ h11) <| tT h12 <| tR (code_zero_runs 0 T_event_halves.nil _ h13) <| tT h14 <| tR (event_Event_Base_runs n21 t _ h15) <| tR (event_Event_Base_runs n21 t _ h15) <| tR q_16 <| tF h17 <| tR q_18 <| tR (code_source_ok_runs n23 l n19 n20 _ h19) <| tF (not_of2 h20) <| tR (code_source_node_runs N n13 n21 t 0 T_event_halves.nil n24 l n19 n20 _ h21) <| tN
                exact runs_of (C := cfg) (objs := [[(.ref 1 0), (.pv (.int .i64 n))], [(.pv (.ints .u8 l false)), (.pv (.int .i64 n2)), (.pv (.int .i64 n3))]]) (sc := t_.ev) (.k1 t_.pf (by kernel_rfl) (by kernel_rfl))
              · have h := some_of h
                subst h
                have t_ := tR (code_source_bit_runs 1 n l n2 n3 _ h1) <| tF h2 <| tL q_3 <| tR (code_source_bit_runs 2 n8 l n6 n7 _ h4) <| tL q_5 <| tR (code_source_ok_runs n14 l n15 n16 _ h6) <| tT h7 <| tL q_8 <| tR (code_source_ok_runs n18 l n19 n20 _ h9) <| tF h10 <| tF (rfl : false = false) <| tR (code_zero_runs n21 t _ h11) <| tT h12 <| tR (code_zero_runs 0 T_event_halves.nil _ h13) <| tT h14 <| tR (event_Event_Base_runs n21 t _ h15) <| tR (event_Event_Base_runs n21 t _ h15) <| tR q_16 <| tF h17 <| tR q_18 <| tR (code_source_ok_runs n23 l n19 n20 _ h19) <| tT (not_of h20) <| tN
                have e_ : Runs Tryd.prog 124 [(.one (.ref 0 0)), (.one (.pv (.int .i64 depth)))] [[(.ref 1 0), (.pv (.int .i64 n))], [(.pv (.ints .u8 l false)), (.pv (.int .i64 n2)), (.pv (.int .i64 n3))]] [] ([(.agg [(.pv (.int .u64 0)), (.pv .nilp)])], [[(.ref 1 0), (.pv (.int .i64 n24))], [(.pv (.ints .u8 l false)), (.pv (.int .i64 n19)), (.pv (.int .i64 n20))]], []) := runs_of (C := cfg) (objs := [[(.ref 1 0), (.pv (.int .i64 n))], [(.pv (.ints .u8 l false)), (.pv (.int .i64 n2)), (.pv (.int .i64 n3))]]) (sc := t_.ev) (.k1 t_.pf (by kernel_rfl) (by kernel_rfl))
                exact e_.out ⟨⟨.eq rfl, .eq rfl, trivial⟩, trivial⟩ ⟨⟨.eq rfl, .eq rfl, trivial⟩, ⟨.eq rfl, .eq rfl, .eq rfl, trivial⟩, trivial⟩ trivial rfl
          · obtain ⟨n23, h15, h⟩ := bind_of h
            have q_15 := (code_source_must_runs false n22 l n19 n20 _ h15)
            obtain ⟨⟨b7, n24⟩, h16, h⟩ := bind_of h
            rcases cond_of h with ⟨h17, h⟩ | ⟨h17, h⟩
            · obtain ⟨⟨n25, t2, n26⟩, h18, h⟩ := bind_of h
              have h := some_of h
              subst h
              have t_ := tR (code_source_bit_runs 1 n l n2 n3 _ h1) <| tF h2 <| tL q_3 <| tR (code_source_bit_runs 2 n8 l n6 n7 _ h4) <| tL q_5 <| tR (code_source_ok_runs n14 l n15 n16 _ h6) <| tT h7 <| tL q_8 <| tR (code_source_ok_runs n18 l n19 n20 _ h9) <| tF h10 <| tF (rfl : false = false) <| tR (code_zero_runs n21 t _ h11) <| tT h12 <| tR (code_zero_runs 0 T_event_halves.nil _ h13) <| tF h14 <| tF (rfl : false = false) <| tR q_15 <| tR (code_source_ok_runs n23 l n19 n20 _ h16) <| tF (not_of2 h17) <| tR (code_source_node_runs N n13 n21 t 0 T_event_halves.nil n24 l n19 n20 _ h18) <| tN
              exact runs_of (C := cfg) (objs := [[(.ref 1 0), (.pv (.int .i64 n))], [(.pv (.ints .u8 l false)), (.pv (.int .i64 n2)), (.pv (.int .i64 n3))]]) (sc := t_.ev) (.k1 t_.pf (by kernel_rfl) (by kernel_rfl))
            · have h := some_of h
              subst h
              have t_ := tR (code_source_bit_runs 1 n l n2 n3 _ h1) <| tF h2 <| tL q_3 <| tR (code_source_bit_runs 2 n8 l n6 n7 _ h4) <| tL q_5 <| tR (code_source_ok_runs n14 l n15 n16 _ h6) <| tT h7 <| tL q_8 <| tR (code_source_ok_runs n18 l n19 n20 _ h9) <| tF h10 <| tF (rfl : false = false) <| tR (code_zero_runs n21 t _ h11) <| tT h12 <| tR (code_zero_runs 0 T_event_halves.nil _ h13) <| tF h14 <| tF (rfl : false = false) <| tR q_15 <| tR (code_source_ok_runs n23 l n19 n20 _ h16) <| tT (not_of h17) <| tN
              have e_ : Runs Tryd.prog 124 [(.one (.ref 0 0)), (.one (.pv (.int .i64 depth)))] [[(.ref 1 0), (.pv (.int .i64 n))], [(.pv (.ints .u8 l false)), (.pv (.int .i64 n2)), (.pv (.int .i64 n3))]] [] ([(.agg [(.pv (.int .u64 0)), (.pv .nilp)])], [[(.ref 1 0), (.pv (.int .i64 n24))], [(.pv (.ints .u8 l false)), (.pv (.int .i64 n19)), (.pv (.int .i64 n20))]], []) := runs_of (C := cfg) (objs := [[(.ref 1 0), (.pv (.int .i64 n))], [(.pv (.ints .u8 l false)), (.pv (.int .i64 n2)), (.pv (.int .i64 n3))]]) (sc := t_.ev) (.k1 t_.pf (by kernel_rfl) (by kernel_rfl))
              exact e_.out ⟨⟨.eq rfl, .eq rfl, trivial⟩, trivial⟩ ⟨⟨.eq rfl, .eq rfl, trivial⟩, ⟨.eq rfl, .eq rfl, .eq rfl, trivial⟩, trivial⟩ trivial rfl
        · obtain ⟨n23, h13, h⟩ := bind_of h
          have q_13 := (code_source_must_runs false n22 l n19 n20 _ h13)
          obtain ⟨⟨b6, n24⟩, h14, h⟩ := bind_of h
          rcases cond_of h with ⟨h15, h⟩ | ⟨h15, h⟩
          · obtain ⟨⟨n25, t2, n26⟩, h16, h⟩ := bind_of h
            have h := some_of h
            subst h
            have t_ := tR (code_source_bit_runs 1 n l n2 n3 _ h1) <| tF h2 <| tL q_3 <| tR (code_source_bit_runs 2 n8 l n6 n7 _ h4) <| tL q_5 <| tR (code_source_ok_runs n14 l n15 n16 _ h6) <| tT h7 <| tL q_8 <| tR (code_source_ok_runs n18 l n19 n20 _ h9) <| tF h10 <| tF (rfl : false = false) <| tR (code_zero_runs n21 t _ h11) <| tF h12 <| tF (rfl : false = false) <| tF (rfl : false = false) <| tR q_13 <| tR (code_source_ok_runs n23 l n19 n20 _ h14) <| tF (not_of2 h15) <| tR (code_source_node_runs N n13 n21 t 0 T_event_halves.nil n24 l n19 n20 _ h16) <| tN
            exact runs_of (C := cfg) (objs := [[(.ref 1 0), (.pv (.int .i64 n))], [(.pv (.ints .u8 l false)), (.pv (.int .i64 n2)), (.pv (.int .i64 n3))]]) (sc := t_.ev) (.k1 t_.pf (by kernel_rfl) (by kernel_rfl))
          · have h := some_of h
            subst h
            have t_ := tR (code_source_bit_runs 1 n l n2 n3 _ h1) <| tF h2 <| tL q_3 <| tR (code_source_bit_runs 2 n8 l n6 n7 _ h4) <| tL q_5 <| tR (code_source_ok_runs n14 l n15 n16 _ h6) <| tT h7 <| tL q_8 <| tR (code_source_ok_runs n18 l n19 n20 _ h9) <| tF h10 <| tF (rfl : false = false) <| tR (code_zero_runs n21 t _ h11) <| tF h12 <| tF (rfl : false = false) <| tF (rfl : false = false) <| tR q_13 <| tR (code_source_ok_runs n23 l n19 n20 _ h14) <| tT (not_of h15) <| tN
            have e_ : Runs Tryd.prog 124 [(.one (.ref 0 0)), (.one (.pv (.int .i64 depth)))] [[(.ref 1 0), (.pv (.int .i64 n))], [(.pv (.ints .u8 l false)), (.pv (.int .i64 n2)), (.pv (.int .i64 n3))]] [] ([(.agg [(.pv (.int .u64 0)), (.pv .nilp)])], [[(.ref 1 0), (.pv (.int .i64 n24))], [(.pv (.ints .u8 l false)), (.pv (.int .i64 n19)), (.pv (.int .i64 n20))]], []) := runs_of (C := cfg) (objs := [[(.ref 1 0), (.pv (.int .i64 n))], [(.pv (.ints .u8 l false)), (.pv (.int .i64 n2)), (.pv (.int .i64 n3))]]) (sc := t_.ev) (.k1 t_.pf (by kernel_rfl) (by kernel_rfl))
            exact e_.out ⟨⟨.eq rfl, .eq rfl, trivial⟩, trivial⟩ ⟨⟨.eq rfl, .eq rfl, trivial⟩, ⟨.eq rfl, .eq rfl, .eq rfl, trivial⟩, trivial⟩ trivial rfl
    · obtain ⟨⟨b4, n18⟩, h8, h⟩ := bind_of h
      rcases cond_of h with ⟨h9, h⟩ | ⟨h9, h⟩
      · obtain ⟨⟨n19, n20, n21, n22, t⟩, h10, h⟩ := bind_of h
        have q_10 := (code_source_event_C62_2_runs rec_code_source_event_2 hrec_code_source_event_2 depth n13 b b2 b2 n18 l n15 n16 _ h10)
        obtain ⟨b5, h11, h⟩ := bind_of h
        rcases cond_of h with ⟨h12, h⟩ | ⟨h12, h⟩
        · obtain ⟨b6, h13, h⟩ := bind_of h
          rcases cond_of h with ⟨h14, h⟩ | ⟨h14, h⟩
          · obtain ⟨_, h15, h⟩ := bind_of h
            have q_15 := (event_Event_Base_runs 0 T_event_halves.nil _ h15)
            obtain ⟨_, h16, h⟩ := bind_of h
            rcases cond_of h with ⟨h17, h⟩ | ⟨h17, h⟩
            · obtain ⟨b7, h18, h⟩ := bind_of h
              have q_18 := (event_Event_IsLeaf_runs 0 T_event_halves.nil _ h18)
              rcases cond_of h with ⟨h19, h⟩ | ⟨h19, h⟩
              · obtain ⟨b8, h20, h⟩ := bind_of h
                rcases cond_of h with ⟨h21, h⟩ | ⟨h21, h⟩
                · obtain ⟨n23, h22, h⟩ := bind_of h
                  have q_22 := (code_source_must_runs (!(decide ((0 : Int) = n22))) n19 l n20 n21 _ h22)
                  obtain ⟨⟨b9, n24⟩, h23, h⟩ := bind_of h
                  rcases cond_of h with ⟨h24, h⟩ | ⟨h24, h⟩
                  · obtain ⟨⟨n25, t2, n26⟩, h25, h⟩ := bind_of h
                    have h := some_of h
                    subst h
                    have t_ := tR (code_source_bit_runs 1 n l n2 n3 _ h1) <| tF h2 <| tL q_3 <| tR (code_source_bit_runs 2 n8 l n6 n7 _ h4) <| tL q_5 <| tR (code_source_ok_runs n14 l n15 n16 _ h6) <| tF h7 <| tF (rfl : false = false) <| tR (code_source_ok_runs n17 l n15 n16 _ h8) <| tT h9 <| tL q_10 <| tR (code_zero_runs 0 T_event_halves.nil _ h11) <| tT h12 <| tR (code_zero_runs n22 t _ h13) <| tT h14 <| tR q_15 <| tR q_15 <| tR (event_Event_Base_runs n22 t _ h16) <| tT h17 <| tR q_18 <| tT h19 <| tR (event_Event_IsLeaf_runs n22 t _ h20) <| tT h21 <| tR q_15 <| tR q_15 <| tR (event_Event_Base_runs n22 t _ h16) <| tR q_22 <| tR (code_source_ok_runs n23 l n20 n21 _ h23) <| tF (not_of2 h24) <| tR (code_source_node_runs N n13 0 T_event_halves.nil n22 t n24 l n20 n21 _ h25) <| tN
                    exact runs_of (C := cfg) (objs := [[(.ref 1 0), (.pv (.int .i64 n))], [(.pv (.ints .u8 l false)), (.pv (.int .i64 n2)), (.pv (.int .i64 n3))]]) (sc := t_.ev) (.k1 t_.pf (by kernel_rfl) (by kernel_rfl))
                  · have h := some_of h
                    subst h
                    have t_ := tR (code_source_bit_runs 1 n l n2 n3 _ h1) <| tF h2 <| tL q_3 <| tR (code_source_bit_runs 2 n8 l n6 n7 _ h4) <| tL q_5 <| tR (code_source_ok_runs n14 l n15 n16 _ h6) <| tF h7 <| tF (rfl : false = false) <| tR (code_source_ok_runs n17 l n15 n16 _ h8) <| tT h9 <| tL q_10 <| tR (code_zero_runs 0 T_event_halves.nil _ h11) <| tT h12 <| tR (code_zero_runs n22 t _ h13) <| tT h14 <| tR q_15 <| tR q_15 <| tR (event_Event_Base_runs n22 t _ h16) <| tT h17 <| tR q_18 <| tT h19 <| tR (event_Event_IsLeaf_runs n22 t _ h20) <| tT h21 <| tR q_15 <| tR q_15 <| tR (event_Event_Base_runs n22 t _ h16) <| tR q_22 <| tR (code_source_ok_runs n23 l n20 n21 _ h23) <| tT (not_of h24) <| tN
                    have e_ : Runs Tryd.prog 124 [(.one (.ref 0 0)), (.one (.pv (.int .i64 depth)))] [[(.ref 1 0), (.pv (.int .i64 n))], [(.pv (.ints .u8 l false)), (.pv (.int .i64 n2)), (.pv (.int .i64 n3))]] [] ([(.agg [(.pv (.int .u64 0)), (.pv .nilp)])], [[(.ref 1 0), (.pv (.int .i64 n24))], [(.pv (.ints .u8 l false)), (.pv (.int .i64 n20)), (.pv (.int .i64 n21))]], []) := runs_of (C := cfg) (objs := [[(.ref 1 0), (.pv (.int .i64 n))], [(.pv (.ints .u8 l false)), (.pv (.int .i64 n2)), (.pv (.int .i64 n3))]]) (sc := t_.ev) (.k1 t_.pf (by kernel_rfl) (by kernel_rfl))
                    exact e_.out ⟨⟨.eq rfl, .eq rfl, trivial⟩, trivial⟩ ⟨⟨.eq rfl, .eq rfl, trivial⟩, ⟨.eq rfl, .eq rfl, .eq rfl, trivial⟩, trivial⟩ trivial rfl
                · obtain ⟨n23, h22, h⟩ := bind_of h
                  have q_22 := (code_source_must_runs true n19 l n20 n21 _ h22)
                  obtain ⟨⟨b9, n24⟩, h23, h⟩ := bind_of h
                  rcases cond_of h with ⟨h24, h⟩ | ⟨h24, h⟩
                  · obtain ⟨⟨n25, t2, n26⟩, h25, h⟩ := bind_of h
                    have h := some_of h
                    subst h
                    have t_ := tR (code_source_bit_runs 1 n l n2 n3 _ h1) <| tF h2 <| tL q_3 <| tR (code_source_bit_runs 2 n8 l n6 n7 _ h4) <| tL q_5 <| tR (code_source_ok_runs n14 l n15 n16 _ h6) <| tF h7 <| tF (rfl : false = false) <| tR (code_source_ok_runs n17 l n15 n16 _ h8) <| tT h9 <| tL q_10 <| tR (code_zero_runs 0 T_event_halves.nil _ h11) <| tT h12 <| tR (code_zero_runs n22 t _ h13) <| tT h14 <| tR q_15 <| tR q_15 <| tR (event_Event_Base_runs n22 t _ h16) <| tT h17 <| tR q_18 <| tT h19 <| tR (event_Event_IsLeaf_runs n22 t _ h20) <| tF h21 <| tR q_22 <| tR (code_source_ok_runs n23 l n20 n21 _ h23) <| tF (not_of2 h24) <| tR (code_source_node_runs N n13 0 T_event_halves.nil n22 t n24 l n20 n21 _ h25) <| tN
                    exact runs_of (C := cfg) (objs := [[(.ref 1 0), (.pv (.int .i64 n))], [(.pv (.ints .u8 l false)), (.pv (.int .i64 n2)), (.pv (.int .i64 n3))]]) (sc := t_.ev) (.k1 t_.pf (by kernel_rfl) (by kernel_rfl))
                  · have h := some_of h
                    subst h
                    have t_ := tR (code_source_bit_runs 1 n l n2 n3 _ h1) <| tF h2 <| tL q_3 <| tR (code_source_bit_runs 2 n8 l n6 n7 _ h4) <| tL q_5 <| tR (code_source_ok_runs n14 l n15 n16 _ h6) <| tF h7 <| tF (rfl : false = false) <| tR (code_source_ok_runs n17 l n15 n16 _ h8) <| tT h9 <| tL q_10 <| tR (code_zero_runs 0 T_event_halves.nil _ h11) <| tT h12 <| tR (code_zero_runs n22 t _ h13) <| tT h14 <| tR q_15 <| tR q_15 <| tR (event_Event_Base_runs n22 t _ h16) <| tT h17 <| tR q_18 <| tT h19 <| tR (event_Event_IsLeaf_runs n22 t _ h20) <| tF h21 <| tR q_22 <| tR (code_source_ok_runs n23 l n20 n21 _ h23) <| tT (not_of h24) <| tN
                    have e_ : Runs Tryd.prog 124 [(.one (.ref 0 0)), (.one (.pv (.int .i64 depth)))] [[(.ref 1 0), (.pv (.int .i64 n))], [(.pv (.ints .u8 l false)), (.pv (.int .i64 n2)), (.pv (.int .i64 n3))]] [] ([(.agg [(.pv (.int .u64 0)), (.pv .nilp)])], [[(.ref 1 0), (.pv (.int .i64 n24))], [(.pv (.ints .u8 l false)), (.pv (.int .i64 n20)), (.pv (.int .i64 n21))]], []) := runs_of (C := cfg) (objs := [[(.ref 1 0), (.pv (.int .i64 n))], [(.pv (.ints .u8 l false)), (.pv (.int .i64 n2)), (.pv (.int .i64 n3))]]) (sc := t_.ev) (.k1 t_.pf (by kernel_rfl) (by kernel_rfl))
                    exact e_.out ⟨⟨.eq rfl, .eq rfl, trivial⟩, trivial⟩ ⟨⟨.eq rfl, .eq rfl, trivial⟩, ⟨.eq rfl, .eq rfl, .eq rfl, trivial⟩, trivial⟩ trivial rfl
              · obtain ⟨n23, h20, h⟩ := bind_of h
                have q_20 := (code_source_must_runs true n19 l n20 n21 _ h20)
                obtain ⟨⟨b8, n24⟩, h21, h⟩ := bind_of h
                rcases cond_of h with ⟨h22, h⟩ | ⟨h22, h⟩
                · obtain ⟨⟨n25, t2, n26⟩, h23, h⟩ := bind_of h
                  have h := some_of h
                  subst h
                  have t_ := tR (code_source_bit_runs 1 n l n2 n3 _ h1) <| tF h2 <| tL q_3 <| tR (code_source_bit_runs 2 n8 l n6 n7 _ h4) <| tL q_5 <| tR (code_source_ok_runs n14 l n15 n16 _ h6) <| tF h7 <| tF (rfl : false = false) <| tR (code_source_ok_runs n17 l n15 n16 _ h8) <| tT h9 <| tL q_10 <| tR (code_zero_runs 0 T_event_halves.nil _ h11) <| tT h12 <| tR (code_zero_runs n22 t _ h13) <| tT h14 <| tR q_15 <| tR q_15 <| tR (event_Event_Base_runs n22 t _ h16) <| tT h17 <| tR q_18 <| tF h19 <| tF (rfl : false = false) <| tR q_20 <| tR (code_source_ok_runs n23 l n20 n21 _ h21) <| tF (not_of2 h22) <| tR (code_source_node_runs N n13 0 T_event_halves.nil n22 t n24 l n20 n21 _ h23) <| tN
                  exact runs_of (C := cfg) (objs := [[(.ref 1 0), (.pv (.int .i64 n))], [(.pv (.ints .u8 l false)), (.pv (.int .i64 n2)), (.pv (.int .i64 n3))]]) (sc := t_.ev) (.k1 t_.pf (by kernel_rfl) (by kernel_rfl))
                · have h := some_of h
                  subst h
                  have t_ := tR (code_source_bit_runs 1 n l n2 n3 _ h1) <| tF h2 <| tL q_3 <| tR (code_source_bit_runs 2 n8 l n6 n7 _ h4) <| tL q_5 <| tR (code_source_ok_runs n14 l n15 n16 _ h6) <| tF h7 <| tF (rfl : false = false) <| tR (code_source_ok_runs n17 l n15 n16 _ h8) <| tT h9 <| tL q_10 <| tR (code_zero_runs 0 T_event_halves.nil _ h11) <| tT h12 <| tR (code_zero_runs n22 t _ h13) <| tT h14 <| tR q_15 <| tR q_15 <| tR (event_Event_Base_runs n22 t _ h16) <| tT h17 <| tR q_18 <| tF h19 <| tF (rfl : false = false) <| tR q_20 <| tR (code_source_ok_runs n23 l n20 n21 _ h21) <| tT (not_of h22) <| tN
                  have e_ : Runs Tryd.prog 124 [(.one (.ref 0 0)), (.one (.pv (.int .i64 depth)))] [[(.ref 1 0), (.pv (.int .i64 n))], [(.pv (.ints .u8 l false)), (.pv (.int .i64 n2)), (.pv (.int .i64 n3))]] [] ([(.agg [(.pv (.int .u64 0)), (.pv .nilp)])], [[(.ref 1 0), (.pv (.int .i64 n24))], [(.pv (.ints .u8 l false)), (.pv (.int .i64 n20)), (.pv (.int .i64 n21))]], []) := runs_of (C := cfg) (objs := [[(.ref 1 0), (.pv (.int .i64 n))], [(.pv (.ints .u8 l false)), (.pv (.int .i64 n2)), (.pv (.int .i64 n3))]]) (sc := t_.ev) (.k1 t_.pf (by kernel_rfl) (by kernel_rfl))
                  exact e_.out ⟨⟨.eq rfl, .eq rfl, trivial⟩, trivial⟩ ⟨⟨.eq rfl, .eq rfl, trivial⟩, ⟨.eq rfl, .eq rfl, .eq rfl, trivial⟩, trivial⟩ trivial rfl
            · obtain ⟨n23, h18, h⟩ := bind_of h
              have q_18 := (code_source_must_runs false n19 l n20 n21 _ h18)
              obtain ⟨⟨b7, n24⟩, h19, h⟩ := bind_of h
              rcases cond_of h with ⟨h20, h⟩ | ⟨h20, h⟩
              · obtain ⟨⟨n25, t2, n26⟩, h21, h⟩ := bind_of h
                have h := some_of h
                subst h
                have t_ := tR (code_source_bit_runs 1 n l n2 n3 _ h1) <| tF h2 <| tL q_3 <| tR (code_source_bit_runs 2 n8 l n6 n7 _ h4) <| tL q_5 <| tR (code_source_ok_runs n14 l n15 n16 _ h6) <| tF h7 <| tF (rfl : false = false) <| tR (code_source_ok_runs n17 l n15 n16 _ h8) <| tT h9 <| tL q_10 <| tR (code_zero_runs 0 T_event_halves.nil _ h11) <| tT h12 <| tR (code_zero_runs n22 t _ h13) <| tT h14 <| tR q_15 <| tR q_15 <| tR (event_Event_Base_runs n22 t _ h16) <| tF h17 <| tR q_18 <| tR (code_source_ok_runs n23 l n20 n21 _ h19) <| tF (not_of2 h20) <| tR (code_source_node_runs N n13 0 T_event_halves.nil n22 t n24 l n20 n21 _ h21) <| tN
                exact runs_of (C := cfg) (objs := [[(.ref 1 0), (.pv (.int .i64 n))], [(.pv (.ints .u8 l false)), (.pv (.int .i64 n2)), (.pv (.int .i64 n3))]]) (sc := t_.ev) (.k1 t_.pf (by kernel_rfl) (by kernel_rfl))
              · have h := some_of h
                subst h
                have t_ := tR (code_source_bit_runs 1 n l n2 n3 _ h1) <| tF h2 <| tL q_3 <| tR (code_source_bit_runs 2 n8 l n6 n7 _ h4) <| tL q_5 <| tR (code_source_ok_runs n14 l n15 n16 _ h6) <| tF h7 <| tF (rfl : false = false) <| tR (code_source_ok_runs n17 l n15 n16 _ h8) <| tT h9 <| tL q_10 <| tR (code_zero_runs 0 T_event_halves.nil _ h11) <| tT h12 <| tR (code_zero_runs n22 t _ h13) <| tT h14 <| tR q_15 <| tR q_15 <| tR (event_Event_Base_runs n22 t _ h16) <| tF h17 <| tR q_18 <| tR (code_source_ok_runs n23 l n20 n21 _ h19) <| tT (not_of h20) <| tN
                have e_ : Runs Tryd.prog 124 [(.one (.ref 0 0)), (.one (.pv (.int .i64 depth)))] [[(.ref 1 0), (.pv (.int .i64 n))], [(.pv (.ints .u8 l false)), (.pv (.int .i64 n2)), (.pv (.int .i64 n3))]] [] ([(.agg [(.pv (.int .u64 0)), (.pv .nilp)])], [[(.ref 1 0), (.pv (.int .i64 n24))], [(.pv (.ints .u8 l false)), (.pv (.int .i64 n20)), (.pv (.int .i64 n21))]], []) := runs_of (C := cfg) (objs := [[(.ref 1 0), (.pv (.int .i64 n))], [(.pv (.ints .u8 l false)), (.pv (.int .i64 n2)), (.pv (.int .i64 n3))]]) (sc := t_.ev) (.k1 t_.pf (by kernel_rfl) (by kernel_rfl))
                exact e_.out ⟨⟨.eq rfl, .eq rfl, trivial⟩, trivial⟩ ⟨⟨.eq rfl, .eq rfl, trivial⟩, ⟨.eq rfl, .eq rfl, .eq rfl, trivial⟩, trivial⟩ trivial rfl
          · obtain ⟨n23, h15, h⟩ := bind_of h
            have q_15 := (code_source_must_runs false n19 l n20 n21 _ h15)
            obtain ⟨⟨b7, n24⟩, h16, h⟩ := bind_of h
            rcases cond_of h with ⟨h17, h⟩ | ⟨h17, h⟩
            · obtain ⟨⟨n25, t2, n26⟩, h18, h⟩ := bind_of h
              have h := some_of h
              subst h
              have t_ := tR (code_source_bit_runs 1 n l n2 n3 _ h1) <| tF h2 <| tL q_3 <| tR (code_source_bit_runs 2 n8 l n6 n7 _ h4) <| tL q_5 <| tR (code_source_ok_runs n14 l n15 n16 _ h6) <| tF h7 <| tF (rfl : false = false) <| tR (code_source_ok_runs n17 l n15 n16 _ h8) <| tT h9 <| tL q_10 <| tR (code_zero_runs 0 T_event_halves.nil _ h11) <| tT h12 <| tR (code_zero_runs n22 t _ h13) <| tF h14 <| tF (rfl : false = false) <| tR q_15 <| tR (code_source_ok_runs n23 l n20 n21 _ h16) <| tF (not_of2 h17) <| tR (code_source_node_runs N n13 0 T_event_halves.nil n22 t n24 l n20 n21 _ h18) <| tN
              exact runs_of (C := cfg) (objs := [[(.ref 1 0), (.pv (.int .i64 n))], [(.pv (.ints .u8 l false)), (.pv (.int .i64 n2)), (.pv (.int .i64 n3))]]) (sc := t_.ev) (.k1 t_.pf (by kernel_rfl) (by kernel_rfl))
            · have h := some_of h
              subst h
              have t_ := tR (code_source_bit_runs 1 n l n2 n3 _ h1) <| tF h2 <| tL q_3 <| tR (code_source_bit_runs 2 n8 l n6 n7 _ h4) <| tL q_5 <| tR (code_source_ok_runs n14 l n15 n16 _ h6) <| tF h7 <| tF (rfl : false = false) <| tR (code_source_ok_runs n17 l n15 n16 _ h8) <| tT h9 <| tL q_10 <| tR (code_zero_runs 0 T_event_halves.nil _ h11) <| tT h12 <| tR (code_zero_runs n22 t _ h13) <| tF h14 <| tF (rfl : false = false) <| tR q_15 <| tR (code_source_ok_runs n23 l n20 n21 _ h16) <| tT (not_of h17) <| tN
              have e_ : Runs Tryd.prog 124 [(.one (.ref 0 0)), (.one (.pv (.int .i64 depth)))] [[(.ref 1 0), (.pv (.int .i64 n))], [(.pv (.ints .u8 l false)), (.pv (.int .i64 n2)), (.pv (.int .i64 n3))]] [] ([(.agg [(.pv (.int .u64 0)), (.pv .nilp)])], [[(.ref 1 0), (.pv (.int .i64 n24))], [(.pv (.ints .u8 l false)), (.pv (.int .i64 n20)), (.pv (.int .i64 n21))]], []) := runs_of (C := cfg) (objs := [[(.ref 1 0), (.pv (.int .i64 n))], [(.pv (.ints .u8 l false)), (.pv (.int .i64 n2)), (.pv (.int .i64 n3))]]) (sc := t_.ev) (.k1 t_.pf (by kernel_rfl) (by kernel_rfl))
              exact e_.out ⟨⟨.eq rfl, .eq rfl, trivial⟩, trivial⟩ ⟨⟨.eq rfl, .eq rfl, trivial⟩, ⟨.eq rfl, .eq rfl, .eq rfl, trivial⟩, trivial⟩ trivial rfl
        · obtain ⟨n23, h13, h⟩ := bind_of h
          have q_13 := (code_source_must_runs false n19 l n20 n21 _ h13)
          obtain ⟨⟨b6, n24⟩, h14, h⟩ := bind_of h
          rcases cond_of h with ⟨h15, h⟩ | ⟨h15, h⟩
          · obtain ⟨⟨n25, t2, n26⟩, h16, h⟩ := bind_of h
            have h := some_of h
            subst h
            have t_ := tR (code_source_bit_runs 1 n l n2 n3 _ h1) <| tF h2 <| tL q_3 <| tR (code_source_bit_runs 2 n8 l n6 n7 _ h4) <| tL q_5 <| tR (code_source_ok_runs n14 l n15 n16 _ h6) <| tF h7 <| tF (rfl : false = false) <| tR (code_source_ok_runs n17 l n15 n16 _ h8) <| tT h9 <| tL q_10 <| tR (code_zero_runs 0 T_event_halves.nil _ h11) <| tF h12 <| tF (rfl : false = false) <| tF (rfl : false = false) <| tR q_13 <| tR (code_source_ok_runs n23 l n20 n21 _ h14) <| tF (not_of2 h15) <| tR (code_source_node_runs N n13 0 T_event_halves.nil n22 t n24 l n20 n21 _ h16) <| tN
            exact runs_of (C := cfg) (objs := [[(.ref 1 0), (.pv (.int .i64 n))], [(.pv (.ints .u8 l false)), (.pv (.int .i64 n2)), (.pv (.int .i64 n3))]]) (sc := t_.ev) (.k1 t_.pf (by kernel_rfl) (by kernel_rfl))
          · have h := some_of h
            subst h
            have t_ := tR (code_source_bit_runs 1 n l n2 n3 _ h1) <| tF h2 <| tL q_3 <| tR (code_source_bit_runs 2 n8 l n6 n7 _ h4) <| tL q_5 <| tR (code_source_ok_runs n14 l n15 n16 _ h6) <| tF h7 <| tF (rfl : false = false) <| tR (code_source_ok_runs n17 l n15 n16 _ h8) <| tT h9 <| tL q_10 <| tR (code_zero_runs 0 T_event_halves.nil _ h11) <| tF h12 <| tF (rfl : false = false) <| tF (rfl : false = false) <| tR q_13 <| tR (code_source_ok_runs n23 l n20 n21 _ h14) <| tT (not_of h15) <| tN
            have e_ : Runs Tryd.prog 124 [(.one (.ref 0 0)), (.one (.pv (.int .i64 depth)))] [[(.ref 1 0), (.pv (.int .i64 n))], [(.pv (.ints .u8 l false)), (.pv (.int .i64 n2)), (.pv (.int .i64 n3))]] [] ([(.agg [(.pv (.int .u64 0)), (.pv .nilp)])], [[(.ref 1 0), (.pv (.int .i64 n24))], [(.pv (.ints .u8 l false)), (.pv (.int .i64 n20)), (.pv (.int .i64 n21))]], []) := runs_of (C := cfg) (objs := [[(.ref 1 0), (.pv (.int .i64 n))], [(.pv (.ints .u8 l false)), (.pv (.int .i64 n2)), (.pv (.int .i64 n3))]]) (sc := t_.ev) (.k1 t_.pf (by kernel_rfl) (by kernel_rfl))
            exact e_.out ⟨⟨.eq rfl, .eq rfl, trivial⟩, trivial⟩ ⟨⟨.eq rfl, .eq rfl, trivial⟩, ⟨.eq rfl, .eq rfl, .eq rfl, trivial⟩, trivial⟩ trivial rfl
      · obtain ⟨b5, h10, h⟩ := bind_of h
        rcases cond_of h with ⟨h11, h⟩ | ⟨h11, h⟩
        · rcases cond_of h with ⟨h12, h⟩ | ⟨h12, h⟩
          · obtain ⟨_, h13, h⟩ := bind_of h
            have q_13 := (event_Event_Base_runs 0 T_event_halves.nil _ h13)
            obtain ⟨b6, h14, h⟩ := bind_of h
            have q_14 := (event_Event_IsLeaf_runs 0 T_event_halves.nil _ h14)
            rcases cond_of h with ⟨h15, h⟩ | ⟨h15, h⟩
            · obtain ⟨n19, h16, h⟩ := bind_of h
              have q_16 := (code_source_must_runs false n18 l n15 n16 _ h16)
              obtain ⟨⟨b7, n20⟩, h17, h⟩ := bind_of h
              rcases cond_of h with ⟨h18, h⟩ | ⟨h18, h⟩
              · obtain ⟨⟨n21, t, n22⟩, h19, h⟩ := bind_of h
                have h := some_of h
                subst h
                have t_ := tR (code_source_bit_runs 1 n l n2 n3 _ h1) <| tF h2 <| tL q_3 <| tR (code_source_bit_runs 2 n8 l n6 n7 _ h4) <| tL q_5 <| tR (code_source_ok_runs n14 l n15 n16 _ h6) <| tF h7 <| tF (rfl : false = false) <| tR (code_source_ok_runs n17 l n15 n16 _ h8) <| tF h9 <| tF (rfl : false = false) <| tR (code_zero_runs 0 T_event_halves.nil _ h10) <| tT h11 <| tR (code_zero_runs 0 T_event_halves.nil _ h10) <| tT h12 <| tR q_13 <| tR q_13 <| tR q_13 <| tT (rfl : true = true) <| tR q_14 <| tT h15 <| tR q_14 <| tT h15 <| tR q_13 <| tR q_13 <| tR q_13 <| tR q_16 <| tR (code_source_ok_runs n19 l n15 n16 _ h17) <| tF (not_of2 h18) <| tR (code_source_node_runs N n13 0 T_event_halves.nil 0 T_event_halves.nil n20 l n15 n16 _ h19) <| tN
                exact runs_of (C := cfg) (objs := [[(.ref 1 0), (.pv (.int .i64 n))], [(.pv (.ints .u8 l false)), (.pv (.int .i64 n2)), (.pv (.int .i64 n3))]]) (sc := t_.ev) (.k1 t_.pf (by kernel_rfl) (by kernel_rfl))
              · have h := some_of h
                subst h
                have t_ := tR (code_source_bit_runs 1 n l n2 n3 _ h1) <| tF h2 <| tL q_3 <| tR (code_source_bit_runs 2 n8 l n6 n7 _ h4) <| tL q_5 <| tR (code_source_ok_runs n14 l n15 n16 _ h6) <| tF h7 <| tF (rfl : false = false) <| tR (code_source_ok_runs n17 l n15 n16 _ h8) <| tF h9 <| tF (rfl : false = false) <| tR (code_zero_runs 0 T_event_halves.nil _ h10) <| tT h11 <| tR (code_zero_runs 0 T_event_halves.nil _ h10) <| tT h12 <| tR q_13 <| tR q_13 <| tR q_13 <| tT (rfl : true = true) <| tR q_14 <| tT h15 <| tR q_14 <| tT h15 <| tR q_13 <| tR q_13 <| tR q_13 <| tR q_16 <| tR (code_source_ok_runs n19 l n15 n16 _ h17) <| tT (not_of h18) <| tN
                have e_ : Runs Tryd.prog 124 [(.one (.ref 0 0)), (.one (.pv (.int .i64 depth)))] [[(.ref 1 0), (.pv (.int .i64 n))], [(.pv (.ints .u8 l false)), (.pv (.int .i64 n2)), (.pv (.int .i64 n3))]] [] ([(.agg [(.pv (.int .u64 0)), (.pv .nilp)])], [[(.ref 1 0), (.pv (.int .i64 n20))], [(.pv (.ints .u8 l false)), (.pv (.int .i64 n15)), (.pv (.int .i64 n16))]], []) := runs_of (C := cfg) (objs := [[(.ref 1 0), (.pv (.int .i64 n))], [(.pv (.ints .u8 l false)), (.pv (.int .i64 n2)), (.pv (.int .i64 n3))]]) (sc := t_.ev) (.k1 t_.pf (by kernel_rfl) (by kernel_rfl))
                exact e_.out ⟨⟨.eq rfl, .eq rfl, trivial⟩, trivial⟩ ⟨⟨.eq rfl, .eq rfl, trivial⟩, ⟨.eq rfl, .eq rfl, .eq rfl, trivial⟩, trivial⟩ trivial rfl
            · obtain ⟨n19, h16, h⟩ := bind_of h
              have q_16 := (code_source_must_runs true n18 l n15 n16 _ h16)
              obtain ⟨⟨b7, n20⟩, h17, h⟩ := bind_of h
              rcases cond_of h with ⟨h18, h⟩ | ⟨h18, h⟩
              · obtain ⟨⟨n21, t, n22⟩, h19, h⟩ := bind_of h
                have h := some_of h
                subst h
                have t_ := tR (code_source_bit_runs 1 n l n2 n3 _ h1) <| tF h2 <| tL q_3 <| tR (code_source_bit_runs 2 n8 l n6 n7 _ h4) <| tL q_5 <| tR (code_source_ok_runs n14 l n15 n16 _ h6) <| tF h7 <| tF (rfl : false = false) <| tR (code_source_ok_runs n17 l n15 n16 _ h8) <| tF h9 <| tF (rfl : false = false) <| tR (code_zero_runs 0 T_event_halves.nil _ h10) <| tT h11 <| tR (code_zero_runs 0 T_event_halves.nil _ h10) <| tT h12 <| tR q_13 <| tR q_13 <| tR q_13 <| tT (rfl : true = true) <| tR q_14 <| tF h15 <| tF (rfl : false = false) <| tR q_16 <| tR (code_source_ok_runs n19 l n15 n16 _ h17) <| tF (not_of2 h18) <| tR (code_source_node_runs N n13 0 T_event_halves.nil 0 T_event_halves.nil n20 l n15 n16 _ h19) <| tN
                exact runs_of (C := cfg) (objs := [[(.ref 1 0), (.pv (.int .i64 n))], [(.pv (.ints .u8 l false)), (.pv (.int .i64 n2)), (.pv (.int .i64 n3))]]) (sc := t_.ev) (.k1 t_.pf (by kernel_rfl) (by kernel_rfl))
              · have h := some_of h
                subst h
                have t_ := tR (code_source_bit_runs 1 n l n2 n3 _ h1) <| tF h2 <| tL q_3 <| tR (code_source_bit_runs 2 n8 l n6 n7 _ h4) <| tL q_5 <| tR (code_source_ok_runs n14 l n15 n16 _ h6) <| tF h7 <| tF (rfl : false = false) <| tR (code_source_ok_runs n17 l n15 n16 _ h8) <| tF h9 <| tF (rfl : false = false) <| tR (code_zero_runs 0 T_event_halves.nil _ h10) <| tT h11 <| tR (code_zero_runs 0 T_event_halves.nil _ h10) <| tT h12 <| tR q_13 <| tR q_13 <| tR q_13 <| tT (rfl : true = true) <| tR q_14 <| tF h15 <| tF (rfl : false = false) <| tR q_16 <| tR (code_source_ok_runs n19 l n15 n16 _ h17) <| tT (not_of h18) <| tN
                have e_ : Runs Tryd.prog 124 [(.one (.ref 0 0)), (.one (.pv (.int .i64 depth)))] [[(.ref 1 0), (.pv (.int .i64 n))], [(.pv (.ints .u8 l false)), (.pv (.int .i64 n2)), (.pv (.int .i64 n3))]] [] ([(.agg [(.pv (.int .u64 0)), (.pv .nilp)])], [[(.ref 1 0), (.pv (.int .i64 n20))], [(.pv (.ints .u8 l false)), (.pv (.int .i64 n15)), (.pv (.int .i64 n16))]], []) := runs_of (C := cfg) (objs := [[(.ref 1 0), (.pv (.int .i64 n))], [(.pv (.ints .u8 l false)), (.pv (.int .i64 n2)), (.pv (.int .i64 n3))]]) (sc := t_.ev) (.k1 t_.pf (by kernel_rfl) (by kernel_rfl))
                exact e_.out ⟨⟨.eq rfl, .eq rfl, trivial⟩, trivial⟩ ⟨⟨.eq rfl, .eq rfl, trivial⟩, ⟨.eq rfl, .eq rfl, .eq rfl, trivial⟩, trivial⟩ trivial rfl
          · obtain ⟨n19, h13, h⟩ := bind_of h
            have q_13 := (code_source_must_runs false n18 l n15 n16 _ h13)
            obtain ⟨⟨b6, n20⟩, h14, h⟩ := bind_of h
            rcases cond_of h with ⟨h15, h⟩ | ⟨h15, h⟩
            · obtain ⟨⟨n21, t, n22⟩, h16, h⟩ := bind_of h
              have h := some_of h
              subst h
              have t_ := tR (code_source_bit_runs 1 n l n2 n3 _ h1) <| tF h2 <| tL q_3 <| tR (code_source_bit_runs 2 n8 l n6 n7 _ h4) <| tL q_5 <| tR (code_source_ok_runs n14 l n15 n16 _ h6) <| tF h7 <| tF (rfl : false = false) <| tR (code_source_ok_runs n17 l n15 n16 _ h8) <| tF h9 <| tF (rfl : false = false) <| tR (code_zero_runs 0 T_event_halves.nil _ h10) <| tT h11 <| tR (code_zero_runs 0 T_event_halves.nil _ h10) <| tF h12 <| tF (rfl : false = false) <| tR q_13 <| tR (code_source_ok_runs n19 l n15 n16 _ h14) <| tF (not_of2 h15) <| tR (code_source_node_runs N n13 0 T_event_halves.nil 0 T_event_halves.nil n20 l n15 n16 _ h16) <| tN
              exact runs_of (C := cfg) (objs := [[(.ref 1 0), (.pv (.int .i64 n))], [(.pv (.ints .u8 l false)), (.pv (.int .i64 n2)), (.pv (.int .i64 n3))]]) (sc := t_.ev) (.k1 t_.pf (by kernel_rfl) (by kernel_rfl))
            · have h := some_of h
              subst h
              have t_ := tR (code_source_bit_runs 1 n l n2 n3 _ h1) <| tF h2 <| tL q_3 <| tR (code_source_bit_runs 2 n8 l n6 n7 _ h4) <| tL q_5 <| tR (code_source_ok_runs n14 l n15 n16 _ h6) <| tF h7 <| tF (rfl : false = false) <| tR (code_source_ok_runs n17 l n15 n16 _ h8) <| tF h9 <| tF (rfl : false = false) <| tR (code_zero_runs 0 T_event_halves.nil _ h10) <| tT h11 <| tR (code_zero_runs 0 T_event_halves.nil _ h10) <| tF h12 <| tF (rfl : false = false) <| tR q_13 <| tR (code_source_ok_runs n19 l n15 n16 _ h14) <| tT (not_of h15) <| tN
              have e_ : Runs Tryd.prog 124 [(.one (.ref 0 0)), (.one (.pv (.int .i64 depth)))] [[(.ref 1 0), (.pv (.int .i64 n))], [(.pv (.ints .u8 l false)), (.pv (.int .i64 n2)), (.pv (.int .i64 n3))]] [] ([(.agg [(.pv (.int .u64 0)), (.pv .nilp)])], [[(.ref 1 0), (.pv (.int .i64 n20))], [(.pv (.ints .u8 l false)), (.pv (.int .i64 n15)), (.pv (.int .i64 n16))]], []) := runs_of (C := cfg) (objs := [[(.ref 1 0), (.pv (.int .i64 n))], [(.pv (.ints .u8 l false)), (.pv (.int .i64 n2)), (.pv (.int .i64 n3))]]) (sc := t_.ev) (.k1 t_.pf (by kernel_rfl) (by kernel_rfl))
              exact e_.out ⟨⟨.eq rfl, .eq rfl, trivial⟩, trivial⟩ ⟨⟨.eq rfl, .eq rfl, trivial⟩, ⟨.eq rfl, .eq rfl, .eq rfl, trivial⟩, trivial⟩ trivial rfl
        · obtain ⟨n19, h12, h⟩ := bind_of h
          have q_12 := (code_source_must_runs false n18 l n15 n16 _ h12)
          obtain ⟨⟨b6, n20⟩, h13, h⟩ := bind_of h
          rcases cond_of h with ⟨h14, h⟩ | ⟨h14, h⟩
          · obtain ⟨⟨n21, t, n22⟩, h15, h⟩ := bind_of h
            have h := some_of h
            subst h
            have t_ := tR (code_source_bit_runs 1 n l n2 n3 _ h1) <| tF h2 <| tL q_3 <| tR (code_source_bit_runs 2 n8 l n6 n7 _ h4) <| tL q_5 <| tR (code_source_ok_runs n14 l n15 n16 _ h6) <| tF h7 <| tF (rfl : false = false) <| tR (code_source_ok_runs n17 l n15 n16 _ h8) <| tF h9 <| tF (rfl : false = false) <| tR (code_zero_runs 0 T_event_halves.nil _ h10) <| tF h11 <| tF (rfl : false = false) <| tF (rfl : false = false) <| tR q_12 <| tR (code_source_ok_runs n19 l n15 n16 _ h13) <| tF (not_of2 h14) <| tR (code_source_node_runs N n13 0 T_event_halves.nil 0 T_event_halves.nil n20 l n15 n16 _ h15) <| tN
            exact runs_of (C := cfg) (objs := [[(.ref 1 0), (.pv (.int .i64 n))], [(.pv (.ints .u8 l false)), (.pv (.int .i64 n2)), (.pv (.int .i64 n3))]]) (sc := t_.ev) (.k1 t_.pf (by kernel_rfl) (by kernel_rfl))
          · have h := some_of h
            subst h
            have t_ := tR (code_source_bit_runs 1 n l n2 n3 _ h1) <| tF h2 <| tL q_3 <| tR (code_source_bit_runs 2 n8 l n6 n7 _ h4) <| tL q_5 <| tR (code_source_ok_runs n14 l n15 n16 _ h6) <| tF h7 <| tF (rfl : false = false) <| tR (code_source_ok_runs n17 l n15 n16 _ h8) <| tF h9 <| tF (rfl : false = false) <| tR (code_zero_runs 0 T_event_halves.nil _ h10) <| tF h11 <| tF (rfl : false = false) <| tF (rfl : false = false) <| tR q_12 <| tR (code_source_ok_runs n19 l n15 n16 _ h13) <| tT (not_of h14) <| tN
            have e_ : Runs Tryd.prog 124 [(.one (.ref 0 0)), (.one (.pv (.int .i64 depth)))] [[(.ref 1 0), (.pv (.int .i64 n))], [(.pv (.ints .u8 l false)), (.pv (.int .i64 n2)), (.pv (.int .i64 n3))]] [] ([(.agg [(.pv (.int .u64 0)), (.pv .nilp)])], [[(.ref 1 0), (.pv (.int .i64 n20))], [(.pv (.ints .u8 l false)), (.pv (.int .i64 n15)), (.pv (.int .i64 n16))]], []) := runs_of (C := cfg) (objs := [[(.ref 1 0), (.pv (.int .i64 n))], [(.pv (.ints .u8 l false)), (.pv (.int .i64 n2)), (.pv (.int .i64 n3))]]) (sc := t_.ev) (.k1 t_.pf (by kernel_rfl) (by kernel_rfl))
            exact e_.out ⟨⟨.eq rfl, .eq rfl, trivial⟩, trivial⟩ ⟨⟨.eq rfl, .eq rfl, trivial⟩, ⟨.eq rfl, .eq rfl, .eq rfl, trivial⟩, trivial⟩ trivial rfl
noncomputable def code_source_event_2 : Nat → Int → Int → List Int → Int → Int → Option (Int × T_event_halves × Int × Int × Int)
  | 0, _, _, _, _, _ => none
  | N + 1, depth, n, l, n2, n3 => code_source_event_2_b N (code_source_event_2 N) depth n l n2 n3
theorem code_source_event_2_runs : ∀ (N : Nat) (depth : Int) (n : Int) (l : List Int) (n2 : Int) (n3 : Int) (r_ : Int × T_event_halves × Int × Int × Int), code_source_event_2 N depth n l n2 n3 = some r_ → Runs Tryd.prog 124 [(.one (.ref 0 0)), (.one (.pv (.int .i64 depth)))] [[(.ref 1 0), (.pv (.int .i64 n))], [(.pv (.ints .u8 l false)), (.pv (.int .i64 n2)), (.pv (.int .i64 n3))]] [] (code_source_event_2_out depth n l n2 n3 r_)
  | 0, _, _, _, _, _, _, h => by cases h
  | N + 1, depth, n, l, n2, n3, r_, h => code_source_event_2_b_runs N (code_source_event_2 N) (code_source_event_2_runs N) depth n l n2 n3 r_ h
/-! ### code_GetEvent -/
noncomputable def code_GetEvent (N : Nat) (l : List Int) (n : Int) (n2 : Int) : Option (Int × T_event_halves × Int × Int × Int) :=
  (code_source_event_2 N 0 0 l n n2).bind fun (n3, t, n4, n5, n6) =>
  bif (decide ((n4 : Int) = 0)) then
    some (n3, t, 0, n5, n6)
  else
    some (0, T_event_halves.nil, n4, n5, n6)
theorem code_GetEvent_runs (N : Nat) (l : List Int) (n : Int) (n2 : Int) (r_ : Int × T_event_halves × Int × Int × Int) (h : code_GetEvent N l n n2 = some r_) : Runs Tryd.prog 76 [(.one (.ref 0 0))] [[(.pv (.ints .u8 l false)), (.pv (.int .i64 n)), (.pv (.int .i64 n2))]] [] (code_GetEvent_out l n n2 r_) := by
  unfold code_GetEvent at h
  obtain ⟨⟨n3, t, n4, n5, n6⟩, h1, h⟩ := bind_of h
  rcases cond_of h with ⟨h2, h⟩ | ⟨h2, h⟩
  · have h := some_of h
    subst h
    have t_ := tR (code_source_event_2_runs N 0 0 l n n2 _ h1) <| tF (not_of2 h2) <| tN
    exact runs_of (C := cfg) (objs := [[(.pv (.ints .u8 l false)), (.pv (.int .i64 n)), (.pv (.int .i64 n2))]]) (sc := t_.ev) (.k0 t_.pf (by kernel_rfl))
  · have h := some_of h
    subst h
    have t_ := tR (code_source_event_2_runs N 0 0 l n n2 _ h1) <| tT (not_of h2) <| tN
    have e_ : Runs Tryd.prog 76 [(.one (.ref 0 0))] [[(.pv (.ints .u8 l false)), (.pv (.int .i64 n)), (.pv (.int .i64 n2))]] [] ([(.agg [(.pv (.int .u64 0)), (.pv .nilp)]), (.one (.pv (.int .i64 n4)))], [[(.pv (.ints .u8 l false)), (.pv (.int .i64 n5)), (.pv (.int .i64 n6))]], []) := runs_of (C := cfg) (objs := [[(.pv (.ints .u8 l false)), (.pv (.int .i64 n)), (.pv (.int .i64 n2))]]) (sc := t_.ev) (.k1 t_.pf (by kernel_rfl) (by kernel_rfl))
    exact e_.out ⟨⟨.eq rfl, .eq rfl, trivial⟩, .eq rfl, trivial⟩ ⟨⟨.eq rfl, .eq rfl, .eq rfl, trivial⟩, trivial⟩ trivial rfl
/-! ### kinfolkref07_GetEvent_3_out -/
def kinfolkref07_GetEvent_3_out (depth : Int) (n : Int) (l : List Bool) : T_kinfolkref02_Event × Int × List Bool × Int → Res
  | (r1, r2, r3, r4) => ([(.one (.pv (T_kinfolkref02_Event.pv r1))), (.one (.pv (.int .i64 r2)))], [[(.pv (.bools r3 false)), (.pv (.int .i64 r4))]], [])
/-! ### kinfolkref02_Leaf_out -/
def kinfolkref02_Leaf_out (n : Int) : T_kinfolkref02_Event → Res
  | r1 => ([(.one (.pv (T_kinfolkref02_Event.pv r1)))], [], [])
/-! ### kinfolkref02_Leaf -/
noncomputable def kinfolkref02_Leaf (n : Int) : Option (T_kinfolkref02_Event) :=
  some (T_kinfolkref02_Event.mk n T_kinfolkref02_Event.nil T_kinfolkref02_Event.nil)
theorem kinfolkref02_Leaf_runs (n : Int) (r_ : T_kinfolkref02_Event) (h : kinfolkref02_Leaf n = some r_) : Runs Tryd.prog 59 [(.one (.pv (.int .u64 n)))] [] [] (kinfolkref02_Leaf_out n r_) := by
  unfold kinfolkref02_Leaf at h
  have h := some_of h
  subst h
  have t_ := tN
  have e_ : Runs Tryd.prog 59 [(.one (.pv (.int .u64 n)))] [] [] ([(.one (.pv (.imm [(.int .u64 n), .nilp, .nilp] 0)))], [], []) := runs_of (C := cfg) (objs := []) (sc := t_.ev) (.k0 t_.pf (by kernel_rfl))
  exact e_.out ⟨.eq rfl, trivial⟩ trivial trivial rfl
/-! ### kinfolkref07_number_out -/
def kinfolkref07_number_out (l : List Bool) (n : Int) : Int × Int × List Bool × Int → Res
  | (r1, r2, r3, r4) => ([(.one (.pv (.int .u64 r1))), (.one (.pv (.int .i64 r2)))], [[(.pv (.bools r3 false)), (.pv (.int .i64 r4))]], [])
/-! ### kinfolkref05_GetNum_out -/
def kinfolkref05_GetNum_out (l : List Bool) (n : Int) : Int × List Bool × Int → Res
  | (r1, r2, r3) => ([(.one (.pv (.int .u64 r1)))], [[(.pv (.bools r2 false)), (.pv (.int .i64 r3))]], [])
/-! ### kinfolkref05_power_out -/
def kinfolkref05_power_out (b : Int) : Int → Res
  | r1 => ([(.one (.pv (.int .u64 r1)))], [], [])
/-! ### kinfolkref05_power_L0 -/
def kinfolkref05_power_L0_st (b : Int) : Int × Int → St
  | (n, i) => ⟨[(0, (.av (.one (.pv (.int .i64 b))))), (3, (.av (.one (.pv (.int .u64 n))))), (4, (.av (.one (.pv (.int .i64 i)))))], [], []⟩
def kinfolkref05_power_L0_ex (b : Int) : Int → Ex × St
  | r1 => ((.exit 0), ⟨[(3, (.av (.one (.pv (.int .u64 r1)))))], [], []⟩)
noncomputable def kinfolkref05_power_L0_step (b : Int) : Int × Int → Option ((Int × Int) ⊕ (Int))
  | (n, i) =>
  bif (decide ((i : Int) < b)) then
    some (.inl ((imul .u64 n 2), (iadd .i64 i 1)))
  else
    some (.inr n)
theorem kinfolkref05_power_L0_ok (b : Int) (s_ : Int × Int) (z_ : (Int × Int) ⊕ (Int)) (h : kinfolkref05_power_L0_step b s_ = some z_) : RoundOk Tryd.prog cfg 166 0 (loopAt Tryd.prog 166 0) (kinfolkref05_power_L0_st b) (kinfolkref05_power_L0_ex b) s_ z_ := by
  rcases s_ with ⟨n, i⟩
  rcases cond_of h with ⟨h1, h⟩ | ⟨h1, h⟩
  · have h := some_of h
    subst h
    have t_ := tT h1 <| tN
    exact ⟨t_.ev, kinfolkref05_power_L0_st b ((imul .u64 n 2), (iadd .i64 i 1)), .k0 t_.pf (by kernel_rfl), .same (by kernel_rfl)⟩
  · have h := some_of h
    subst h
    have t_ := tF h1 <| tN
    exact ⟨t_.ev, ⟨[(7, (.av (.one (.pv (.bool false))))), (0, (.av (.one (.pv (.int .i64 b))))), (3, (.av (.one (.pv (.int .u64 n))))), (4, (.av (.one (.pv (.int .i64 i))))), (7, (.av (.one (.pv (.bool (decide ((i : Int) < b)))))))], [], []⟩, .k0 t_.pf (by kernel_rfl), ⟨⟨⟨_, rfl, .eq rfl⟩, trivial⟩, trivial, trivial⟩⟩
theorem kinfolkref05_power_L0_runs (b : Int) (s_ : Int × Int) (r_ : Int) (h : runL (kinfolkref05_power_L0_step b) s_ = some r_) : LRuns Tryd.prog (lEnv Tryd.prog cfg 166 0).nt 0 (.loop (loopAt Tryd.prog 166 0)) (kinfolkref05_power_L0_st b s_) (kinfolkref05_power_L0_ex b r_).1 (kinfolkref05_power_L0_ex b r_).2 :=
  loop_run h (kinfolkref05_power_L0_ok b) (by intro r_; rcases r_ with r1 <;> simp [kinfolkref05_power_L0_ex])
/-! ### kinfolkref05_power -/
noncomputable def kinfolkref05_power (b : Int) : Option (Int) :=
  (runL (kinfolkref05_power_L0_step b) (1, 0)).bind fun n =>
  some n
theorem kinfolkref05_power_runs (b : Int) (r_ : Int) (h : kinfolkref05_power b = some r_) : Runs Tryd.prog 166 [(.one (.pv (.int .i64 b)))] [] [] (kinfolkref05_power_out b r_) := by
  unfold kinfolkref05_power at h
  obtain ⟨n, h1, h⟩ := bind_of h
  have h := some_of h
  subst h
  have t_ := tL (kinfolkref05_power_L0_runs b _ _ h1) <| tN
  exact runs_of (C := cfg) (objs := []) (sc := t_.ev) (.k0 t_.pf (by kernel_rfl))
/-! ### kinfolkref05_GetNum_L0 -/
def kinfolkref05_GetNum_L0_st (l2 : List Bool) (n : Int) : List Bool × Int × Int → St
  | (l, b, base) => ⟨[(0, (.av (.one (.ref 0 0)))), (3, (.av (.one (.pv (.bools l false))))), (4, (.av (.one (.pv (.int .i64 b))))), (5, (.av (.one (.pv (.int .u64 base)))))], [(0, [(.pv (.bools l2 false)), (.pv (.int .i64 n))])], []⟩
def kinfolkref05_GetNum_L0_ex (l2 : List Bool) (n : Int) : List Bool × Int × Int → Ex × St
  | (r1, r2, r3) => ((.exit 0), ⟨[(0, (.av (.one (.ref 0 0)))), (3, (.av (.one (.pv (.bools r1 false))))), (4, (.av (.one (.pv (.int .i64 r2))))), (5, (.av (.one (.pv (.int .u64 r3)))))], [(0, [(.pv (.bools l2 false)), (.pv (.int .i64 n))])], []⟩)
noncomputable def kinfolkref05_GetNum_L0_step (l2 : List Bool) (n : Int) : List Bool × Int × Int → Option ((List Bool × Int × Int) ⊕ (List Bool × Int × Int))
  | (l, b, base) =>
  bif (decide ((0 : Int) < ((l).length : Int))) then
    bif decide ((0 : Int) ≤ 0) && decide ((0 : Int) < ((l).length : Int)) then
    bif (l.getD 0 false) then
      bif (decide ((b : Int) < 64)) then
        (kinfolkref05_power b).bind fun n2 =>
        bif decide ((0 : Int) ≤ 1) && decide ((1 : Int) ≤ ((l).length : Int)) && decide ((((l).length : Int) : Int) ≤ ((l).length : Int)) && decide ((((l).length : Int) : Int) = ((l).length : Int)) then
        some (.inl ((List.take (((l).length : Int) - 1).toNat (List.drop 1 l)), (iadd .i64 b 1), (iadd .u64 base n2)))
        else none
      else
        some (.inr (l, b, base))
    else
      some (.inr (l, b, base))
    else none
  else
    some (.inr (l, b, base))
theorem kinfolkref05_GetNum_L0_ok (l2 : List Bool) (n : Int) (s_ : List Bool × Int × Int) (z_ : (List Bool × Int × Int) ⊕ (List Bool × Int × Int)) (h : kinfolkref05_GetNum_L0_step l2 n s_ = some z_) : RoundOk Tryd.prog cfg 155 1 (loopAt Tryd.prog 155 0) (kinfolkref05_GetNum_L0_st l2 n) (kinfolkref05_GetNum_L0_ex l2 n) s_ z_ := by
  rcases s_ with ⟨l, b, base⟩
  rcases cond_of h with ⟨h1, h⟩ | ⟨h1, h⟩
  · obtain ⟨h2, h⟩ := need_of h
    rcases cond_of h with ⟨h3, h⟩ | ⟨h3, h⟩
    · rcases cond_of h with ⟨h4, h⟩ | ⟨h4, h⟩
      · obtain ⟨n2, h5, h⟩ := bind_of h
        obtain ⟨h6, h⟩ := need_of h
        have h := some_of h
        subst h
        have t_ := tT h1 <| tO h2 <| tT h3 <| tT h4 <| tR (kinfolkref05_power_runs b _ h5) <| tO h6 <| tN
        exact ⟨t_.ev, kinfolkref05_GetNum_L0_st l2 n ((List.take (((l).length : Int) - 1).toNat (List.drop 1 l)), (iadd .i64 b 1), (iadd .u64 base n2)), .k0 t_.pf (by kernel_rfl), .same (by kernel_rfl)⟩
      · have h := some_of h
        subst h
        have t_ := tT h1 <| tO h2 <| tT h3 <| tF h4 <| tN
        exact ⟨t_.ev, ⟨[(29, (.av (.one (.pv (.bool false))))), (0, (.av (.one (.ref 0 0)))), (3, (.av (.one (.pv (.bools l false))))), (4, (.av (.one (.pv (.int .i64 b))))), (5, (.av (.one (.pv (.int .u64 base))))), (29, (.av (.one (.pv (.bool (decide ((b : Int) < 64)))))))], [(0, [(.pv (.bools l2 false)), (.pv (.int .i64 n))])], []⟩, .k0 t_.pf (by kernel_rfl), ⟨⟨⟨_, rfl, .eq rfl⟩, ⟨_, rfl, .eq rfl⟩, ⟨_, rfl, .eq rfl⟩, ⟨_, rfl, .eq rfl⟩, trivial⟩, ⟨⟨rfl, ⟨.eq rfl, .eq rfl, trivial⟩⟩, trivial⟩, trivial⟩⟩
    · have h := some_of h
      subst h
      have t_ := tT h1 <| tO h2 <| tF h3 <| tF (rfl : false = false) <| tN
      exact ⟨t_.ev, ⟨[(29, (.av (.one (.pv (.bool false))))), (0, (.av (.one (.ref 0 0)))), (3, (.av (.one (.pv (.bools l false))))), (4, (.av (.one (.pv (.int .i64 b))))), (5, (.av (.one (.pv (.int .u64 base))))), (29, (.av (.one (.pv (.bool false)))))], [(0, [(.pv (.bools l2 false)), (.pv (.int .i64 n))])], []⟩, .k0 t_.pf (by kernel_rfl), ⟨⟨⟨_, rfl, .eq rfl⟩, ⟨_, rfl, .eq rfl⟩, ⟨_, rfl, .eq rfl⟩, ⟨_, rfl, .eq rfl⟩, trivial⟩, ⟨⟨rfl, ⟨.eq rfl, .eq rfl, trivial⟩⟩, trivial⟩, trivial⟩⟩
  · have h := some_of h
    subst h
    have t_ := tF h1 <| tF (rfl : false = false) <| tF (rfl : false = false) <| tN
    exact ⟨t_.ev, ⟨[(29, (.av (.one (.pv (.bool false))))), (0, (.av (.one (.ref 0 0)))), (3, (.av (.one (.pv (.bools l false))))), (4, (.av (.one (.pv (.int .i64 b))))), (5, (.av (.one (.pv (.int .u64 base))))), (29, (.av (.one (.pv (.bool false)))))], [(0, [(.pv (.bools l2 false)), (.pv (.int .i64 n))])], []⟩, .k0 t_.pf (by kernel_rfl), ⟨⟨⟨_, rfl, .eq rfl⟩, ⟨_, rfl, .eq rfl⟩, ⟨_, rfl, .eq rfl⟩, ⟨_, rfl, .eq rfl⟩, trivial⟩, ⟨⟨rfl, ⟨.eq rfl, .eq rfl, trivial⟩⟩, trivial⟩, trivial⟩⟩
theorem kinfolkref05_GetNum_L0_runs (l2 : List Bool) (n : Int) (s_ : List Bool × Int × Int) (r_ : List Bool × Int × Int) (h : runL (kinfolkref05_GetNum_L0_step l2 n) s_ = some r_) : LRuns Tryd.prog (lEnv Tryd.prog cfg 155 1).nt 1 (.loop (loopAt Tryd.prog 155 0)) (kinfolkref05_GetNum_L0_st l2 n s_) (kinfolkref05_GetNum_L0_ex l2 n r_).1 (kinfolkref05_GetNum_L0_ex l2 n r_).2 :=
  loop_run h (kinfolkref05_GetNum_L0_ok l2 n) (by intro r_; rcases r_ with ⟨r1, r2, r3⟩ <;> simp [kinfolkref05_GetNum_L0_ex])
/-! ### kinfolkref05_GetNum_L1 -/
def kinfolkref05_GetNum_L1_st (l : List Bool) (b : Int) (base : Int) (l2 : List Bool) (n : Int) (l3 : List Bool) (n2 : Int) : Int × Int → St
  | (n3, n4) => ⟨[(0, (.av (.one (.ref 0 0)))), (3, (.av (.one (.pv (.bools l false))))), (4, (.av (.one (.pv (.int .i64 b))))), (5, (.av (.one (.pv (.int .u64 base))))), (6, (.av (.one (.pv (.int .u64 n3))))), (59, (.av (.one (.pv (.bools l2 false))))), (60, (.av (.one (.pv (.int .i64 n))))), (61, (.av (.one (.pv (.int .i64 n4)))))], [(0, [(.pv (.bools l3 false)), (.pv (.int .i64 n2))])], []⟩
def kinfolkref05_GetNum_L1_ex (l : List Bool) (b : Int) (base : Int) (l2 : List Bool) (n : Int) (l3 : List Bool) (n2 : Int) : Int → Ex × St
  | r1 => ((.exit 2), ⟨[(0, (.av (.one (.ref 0 0)))), (3, (.av (.one (.pv (.bools l false))))), (4, (.av (.one (.pv (.int .i64 b))))), (5, (.av (.one (.pv (.int .u64 base))))), (6, (.av (.one (.pv (.int .u64 r1)))))], [(0, [(.pv (.bools l3 false)), (.pv (.int .i64 n2))])], []⟩)
noncomputable def kinfolkref05_GetNum_L1_step (l : List Bool) (b : Int) (base : Int) (l2 : List Bool) (n : Int) (l3 : List Bool) (n2 : Int) : Int × Int → Option ((Int × Int) ⊕ (Int))
  | (n3, n4) =>
  bif (decide ((n4 : Int) < n)) then
    bif decide ((0 : Int) ≤ n4) && decide ((n4 : Int) < ((l2).length : Int)) then
    bif (l2.getD (n4).toNat false) then
      some (.inl ((iadd .u64 (imul .u64 n3 2) 1), (iadd .i64 n4 1)))
    else
      some (.inl ((imul .u64 n3 2), (iadd .i64 n4 1)))
    else none
  else
    some (.inr n3)
theorem kinfolkref05_GetNum_L1_ok (l : List Bool) (b : Int) (base : Int) (l2 : List Bool) (n : Int) (l3 : List Bool) (n2 : Int) (s_ : Int × Int) (z_ : (Int × Int) ⊕ (Int)) (h : kinfolkref05_GetNum_L1_step l b base l2 n l3 n2 s_ = some z_) : RoundOk Tryd.prog cfg 155 1 (loopAt Tryd.prog 155 1) (kinfolkref05_GetNum_L1_st l b base l2 n l3 n2) (kinfolkref05_GetNum_L1_ex l b base l2 n l3 n2) s_ z_ := by
  rcases s_ with ⟨n3, n4⟩
  rcases cond_of h with ⟨h1, h⟩ | ⟨h1, h⟩
  · obtain ⟨h2, h⟩ := need_of h
    rcases cond_of h with ⟨h3, h⟩ | ⟨h3, h⟩
    · have h := some_of h
      subst h
      have t_ := tT h1 <| tO h2 <| tT h3 <| tN
      exact ⟨t_.ev, kinfolkref05_GetNum_L1_st l b base l2 n l3 n2 ((iadd .u64 (imul .u64 n3 2) 1), (iadd .i64 n4 1)), .k0 t_.pf (by kernel_rfl), .same (by kernel_rfl)⟩
    · have h := some_of h
      subst h
      have t_ := tT h1 <| tO h2 <| tF h3 <| tN
      exact ⟨t_.ev, kinfolkref05_GetNum_L1_st l b base l2 n l3 n2 ((imul .u64 n3 2), (iadd .i64 n4 1)), .k0 t_.pf (by kernel_rfl), .same (by kernel_rfl)⟩
  · have h := some_of h
    subst h
    have t_ := tF h1 <| tN
    exact ⟨t_.ev, ⟨[(62, (.av (.one (.pv (.bool false))))), (0, (.av (.one (.ref 0 0)))), (3, (.av (.one (.pv (.bools l false))))), (4, (.av (.one (.pv (.int .i64 b))))), (5, (.av (.one (.pv (.int .u64 base))))), (6, (.av (.one (.pv (.int .u64 n3))))), (59, (.av (.one (.pv (.bools l2 false))))), (60, (.av (.one (.pv (.int .i64 n))))), (61, (.av (.one (.pv (.int .i64 n4))))), (62, (.av (.one (.pv (.bool (decide ((n4 : Int) < n)))))))], [(0, [(.pv (.bools l3 false)), (.pv (.int .i64 n2))])], []⟩, .k0 t_.pf (by kernel_rfl), ⟨⟨⟨_, rfl, .eq rfl⟩, ⟨_, rfl, .eq rfl⟩, ⟨_, rfl, .eq rfl⟩, ⟨_, rfl, .eq rfl⟩, ⟨_, rfl, .eq rfl⟩, trivial⟩, ⟨⟨rfl, ⟨.eq rfl, .eq rfl, trivial⟩⟩, trivial⟩, trivial⟩⟩
theorem kinfolkref05_GetNum_L1_runs (l : List Bool) (b : Int) (base : Int) (l2 : List Bool) (n : Int) (l3 : List Bool) (n2 : Int) (s_ : Int × Int) (r_ : Int) (h : runL (kinfolkref05_GetNum_L1_step l b base l2 n l3 n2) s_ = some r_) : LRuns Tryd.prog (lEnv Tryd.prog cfg 155 1).nt 1 (.loop (loopAt Tryd.prog 155 1)) (kinfolkref05_GetNum_L1_st l b base l2 n l3 n2 s_) (kinfolkref05_GetNum_L1_ex l b base l2 n l3 n2 r_).1 (kinfolkref05_GetNum_L1_ex l b base l2 n l3 n2 r_).2 :=
  loop_run h (kinfolkref05_GetNum_L1_ok l b base l2 n l3 n2) (by intro r_; rcases r_ with r1 <;> simp [kinfolkref05_GetNum_L1_ex])
/-! ### kinfolkref05_GetNum -/
noncomputable def kinfolkref05_GetNum (l : List Bool) (n : Int) : Option (Int × List Bool × Int) :=
  bif (decide ((n : Int) = 0)) then
    (runL (kinfolkref05_GetNum_L0_step l n) (l, 2, 0)).bind fun (l_, n2, n3) =>
    bif (decide ((((l_).length : Int) : Int) = 0)) then
      some (0, l, 6)
    else
      bif decide ((0 : Int) ≤ 0) && decide ((0 : Int) < ((l_).length : Int)) then
      bif (l_.getD 0 false) then
        some (0, l, 6)
      else
        bif (decide ((((l_).length : Int) : Int) < (iadd .i64 1 n2))) then
          some (0, l, 6)
        else
          bif decide ((0 : Int) ≤ 1) && decide ((1 : Int) ≤ (iadd .i64 1 n2)) && decide (((iadd .i64 1 n2) : Int) ≤ ((l_).length : Int)) && decide (((iadd .i64 1 n2) : Int) = (iadd .i64 1 n2)) then
          (runL (kinfolkref05_GetNum_L1_step l_ n2 n3 (List.take ((iadd .i64 1 n2) - 1).toNat (List.drop 1 l_)) (((List.take ((iadd .i64 1 n2) - 1).toNat (List.drop 1 l_))).length : Int) l n) (0, 0)).bind fun n4 =>
          bif (decide (((iadd .u64 n3 n4) : Int) < n3)) then
            some (0, l, 6)
          else
            bif decide ((0 : Int) ≤ (iadd .i64 1 n2)) && decide (((iadd .i64 1 n2) : Int) ≤ ((l_).length : Int)) && decide ((((l_).length : Int) : Int) ≤ ((l_).length : Int)) && decide ((((l_).length : Int) : Int) = ((l_).length : Int)) then
            some ((iadd .u64 n3 n4), (List.take (((l_).length : Int) - (iadd .i64 1 n2)).toNat (List.drop ((iadd .i64 1 n2)).toNat l_)), n)
            else none
          else none
      else none
  else
    some (0, l, n)
theorem kinfolkref05_GetNum_runs (l : List Bool) (n : Int) (r_ : Int × List Bool × Int) (h : kinfolkref05_GetNum l n = some r_) : Runs Tryd.prog 155 [(.one (.ref 0 0))] [[(.pv (.bools l false)), (.pv (.int .i64 n))]] [] (kinfolkref05_GetNum_out l n r_) := by
  unfold kinfolkref05_GetNum at h
  rcases cond_of h with ⟨h1, h⟩ | ⟨h1, h⟩
  · obtain ⟨⟨l_, n2, n3⟩, h2, h⟩ := bind_of h
    rcases cond_of h with ⟨h3, h⟩ | ⟨h3, h⟩
    · have h := some_of h
      subst h
      have t_ := tF (not_of2 h1) <| tL (kinfolkref05_GetNum_L0_runs l n _ _ h2) <| tT h3 <| tT (rfl : true = true) <| tT (rfl : true = true) <| tN
      exact runs_of (C := cfg) (objs := [[(.pv (.bools l false)), (.pv (.int .i64 n))]]) (sc := t_.ev) (.k0 t_.pf (by kernel_rfl))
    · obtain ⟨h4, h⟩ := need_of h
      rcases cond_of h with ⟨h5, h⟩ | ⟨h5, h⟩
      · have h := some_of h
        subst h
        have t_ := tF (not_of2 h1) <| tL (kinfolkref05_GetNum_L0_runs l n _ _ h2) <| tF h3 <| tO h4 <| tT h5 <| tT (rfl : true = true) <| tN
        exact runs_of (C := cfg) (objs := [[(.pv (.bools l false)), (.pv (.int .i64 n))]]) (sc := t_.ev) (.k0 t_.pf (by kernel_rfl))
      · rcases cond_of h with ⟨h6, h⟩ | ⟨h6, h⟩
        · have h := some_of h
          subst h
          have t_ := tF (not_of2 h1) <| tL (kinfolkref05_GetNum_L0_runs l n _ _ h2) <| tF h3 <| tO h4 <| tF h5 <| tT h6 <| tN
          exact runs_of (C := cfg) (objs := [[(.pv (.bools l false)), (.pv (.int .i64 n))]]) (sc := t_.ev) (.k0 t_.pf (by kernel_rfl))
        · obtain ⟨h7, h⟩ := need_of h
          obtain ⟨n4, h8, h⟩ := bind_of h
          have q_8 := (kinfolkref05_GetNum_L1_runs l_ n2 n3 (List.take ((iadd .i64 1 n2) - 1).toNat (List.drop 1 l_)) (((List.take ((iadd .i64 1 n2) - 1).toNat (List.drop 1 l_))).length : Int) l n _ _ h8)
          rcases cond_of h with ⟨h9, h⟩ | ⟨h9, h⟩
          · have h := some_of h
            subst h
            have t_ := tF (not_of2 h1) <| tL (kinfolkref05_GetNum_L0_runs l n _ _ h2) <| tF h3 <| tO h4 <| tF h5 <| tF h6 <| tO h7 <| tL q_8 <| tT h9 <| tN
            exact runs_of (C := cfg) (objs := [[(.pv (.bools l false)), (.pv (.int .i64 n))]]) (sc := t_.ev) (.k0 t_.pf (by kernel_rfl))
          · obtain ⟨h10, h⟩ := need_of h
            have h := some_of h
            subst h
            have t_ := tF (not_of2 h1) <| tL (kinfolkref05_GetNum_L0_runs l n _ _ h2) <| tF h3 <| tO h4 <| tF h5 <| tF h6 <| tO h7 <| tL q_8 <| tF h9 <| tO h10 <| tN
            exact runs_of (C := cfg) (objs := [[(.pv (.bools l false)), (.pv (.int .i64 n))]]) (sc := t_.ev) (.k0 t_.pf (by kernel_rfl))
  · have h := some_of h
    subst h
    have t_ := tT (not_of h1) <| tN
    exact runs_of (C := cfg) (objs := [[(.pv (.bools l false)), (.pv (.int .i64 n))]]) (sc := t_.ev) (.k0 t_.pf (by kernel_rfl))
/-! ### kinfolkref07_number -/
noncomputable def kinfolkref07_number (l : List Bool) (n : Int) : Option (Int × Int × List Bool × Int) :=
  (kinfolkref05_GetNum l n).bind fun (n2, l_, n3) =>
  bif (decide ((n3 : Int) = 0)) then
    bif (decide ((1048576 : Int) < n2)) then
      some (0, 4, l_, n3)
    else
      some (n2, 0, l_, n3)
  else
    some (0, 6, l_, n3)
theorem kinfolkref07_number_runs (l : List Bool) (n : Int) (r_ : Int × Int × List Bool × Int) (h : kinfolkref07_number l n = some r_) : Runs Tryd.prog 125 [(.one (.ref 0 0))] [[(.pv (.bools l false)), (.pv (.int .i64 n))]] [] (kinfolkref07_number_out l n r_) := by
  unfold kinfolkref07_number at h
  obtain ⟨⟨n2, l_, n3⟩, h1, h⟩ := bind_of h
  rcases cond_of h with ⟨h2, h⟩ | ⟨h2, h⟩
  · rcases cond_of h with ⟨h3, h⟩ | ⟨h3, h⟩
    · have h := some_of h
      subst h
      have t_ := tR (kinfolkref05_GetNum_runs l n _ h1) <| tF (not_of2 h2) <| tT h3 <| tN
      exact runs_of (C := cfg) (objs := [[(.pv (.bools l false)), (.pv (.int .i64 n))]]) (sc := t_.ev) (.k0 t_.pf (by kernel_rfl))
    · have h := some_of h
      subst h
      have t_ := tR (kinfolkref05_GetNum_runs l n _ h1) <| tF (not_of2 h2) <| tF h3 <| tN
      exact runs_of (C := cfg) (objs := [[(.pv (.bools l false)), (.pv (.int .i64 n))]]) (sc := t_.ev) (.k0 t_.pf (by kernel_rfl))
  · have h := some_of h
    subst h
    have t_ := tR (kinfolkref05_GetNum_runs l n _ h1) <| tT (not_of h2) <| tN
    exact runs_of (C := cfg) (objs := [[(.pv (.bools l false)), (.pv (.int .i64 n))]]) (sc := t_.ev) (.k0 t_.pf (by kernel_rfl))
/-! ### kinfolkref07_GetEvent_C56 -/
def kinfolkref07_GetEvent_C56_ex (depth : Int) (none_ : T_kinfolkref02_Event) (left : Bool) (right : Bool) (b : Bool) (l : List Bool) (n : Int) : Bool × Bool × List Bool × Int → Ex × St
  | (r1, r2, r3, r4) => (.normal, ⟨[(0, (.av (.one (.ref 0 0)))), (1, (.av (.one (.pv (.int .i64 depth))))), (6, (.av (.one (.pv (T_kinfolkref02_Event.pv none_))))), (11, (.av (.one (.pv (.bool r1))))), (12, (.av (.one (.pv (.bool r2)))))], [(0, [(.pv (.bools r3 false)), (.pv (.int .i64 r4))])], []⟩)
noncomputable def kinfolkref07_GetEvent_C56 (depth : Int) (none_ : T_kinfolkref02_Event) (left : Bool) (right : Bool) (b : Bool) (l : List Bool) (n : Int) : Option (Bool × Bool × List Bool × Int) :=
  bif b then
    (kinfolkref05_Get_2 1 l n).bind fun (n2, l_, n3) =>
    some ((decide ((n2 : Int) = 1)), (decide ((n2 : Int) = 0)), l_, n3)
  else
    some (left, right, l, n)
theorem kinfolkref07_GetEvent_C56_runs (depth : Int) (none_ : T_kinfolkref02_Event) (left : Bool) (right : Bool) (b : Bool) (l : List Bool) (n : Int) (r_ : Bool × Bool × List Bool × Int) (h : kinfolkref07_GetEvent_C56 depth none_ left right b l n = some r_) : LRuns Tryd.prog (lEnv Tryd.prog cfg 77 1).nt 1 (.cond (.tmp 56) (condAt Tryd.prog 77 56).1 (condAt Tryd.prog 77 56).2) ⟨[(0, (.av (.one (.ref 0 0)))), (1, (.av (.one (.pv (.int .i64 depth))))), (6, (.av (.one (.pv (T_kinfolkref02_Event.pv none_))))), (11, (.av (.one (.pv (.bool left))))), (12, (.av (.one (.pv (.bool right))))), (56, (.av (.one (.pv (.bool b)))))], [(0, [(.pv (.bools l false)), (.pv (.int .i64 n))])], []⟩ (kinfolkref07_GetEvent_C56_ex depth none_ left right b l n r_).1 (kinfolkref07_GetEvent_C56_ex depth none_ left right b l n r_).2 := by
  unfold kinfolkref07_GetEvent_C56 at h
  rcases cond_of h with ⟨h1, h⟩ | ⟨h1, h⟩
  · obtain ⟨⟨n2, l_, n3⟩, h2, h⟩ := bind_of h
    have h := some_of h
    subst h
    have t_ := tT h1 <| tR (kinfolkref05_Get_2_runs 1 l n _ h2) <| tN
    exact piece_ok (C := cfg) (sc := t_.ev) (.k0 t_.pf (by kernel_rfl))
  · have h := some_of h
    subst h
    have t_ := tF h1 <| tN
    exact piece_ok (C := cfg) (sc := t_.ev) (.k0 t_.pf (by kernel_rfl))
/-! ### kinfolkref07_GetEvent_C53 -/
def kinfolkref07_GetEvent_C53_ex (depth : Int) (none_ : T_kinfolkref02_Event) (left : Bool) (right : Bool) (b : Bool) (l : List Bool) (n : Int) : (Int × List Bool × Int) ⊕ (Bool × Bool × Int × List Bool × Int) → Ex × St
  | .inl (r1, r2, r3) => (.ret, ⟨[(4, (.av (.one (.pv (T_kinfolkref02_Event.pv none_))))), (5, (.av (.one (.pv (.int .i64 r1)))))], [(0, [(.pv (.bools r2 false)), (.pv (.int .i64 r3))])], []⟩)
  | .inr (r1, r2, r3, r4, r5) => (.normal, ⟨[(0, (.av (.one (.ref 0 0)))), (1, (.av (.one (.pv (.int .i64 depth))))), (6, (.av (.one (.pv (T_kinfolkref02_Event.pv none_))))), (11, (.av (.one (.pv (.bool r1))))), (12, (.av (.one (.pv (.bool r2))))), (13, (.av (.one (.pv (.int .u64 r3)))))], [(0, [(.pv (.bools r4 false)), (.pv (.int .i64 r5))])], []⟩)
noncomputable def kinfolkref07_GetEvent_C53 (depth : Int) (none_ : T_kinfolkref02_Event) (left : Bool) (right : Bool) (b : Bool) (l : List Bool) (n : Int) : Option ((Int × List Bool × Int) ⊕ (Bool × Bool × Int × List Bool × Int)) :=
  bif b then
    (kinfolkref05_Get_2 1 l n).bind fun (n2, l_, n3) =>
    (kinfolkref07_GetEvent_C56 depth none_ left right (decide ((n2 : Int) = 0)) l_ n3).bind fun (b2, b3, l_2, n4) =>
    (kinfolkref07_number l_2 n4).bind fun (n5, n6, l_3, n7) =>
    bif (decide ((n6 : Int) = 0)) then
      bif (decide ((n5 : Int) = 0)) then
        some (.inl (6, l_3, n7))
      else
        some (.inr (b2, b3, n5, l_3, n7))
    else
      some (.inl (n6, l_3, n7))
  else
    some (.inr (left, right, 0, l, n))
theorem kinfolkref07_GetEvent_C53_runs (depth : Int) (none_ : T_kinfolkref02_Event) (left : Bool) (right : Bool) (b : Bool) (l : List Bool) (n : Int) (r_ : (Int × List Bool × Int) ⊕ (Bool × Bool × Int × List Bool × Int)) (h : kinfolkref07_GetEvent_C53 depth none_ left right b l n = some r_) : LRuns Tryd.prog (lEnv Tryd.prog cfg 77 1).nt 1 (.cond (.tmp 53) (condAt Tryd.prog 77 53).1 (condAt Tryd.prog 77 53).2) ⟨[(0, (.av (.one (.ref 0 0)))), (1, (.av (.one (.pv (.int .i64 depth))))), (6, (.av (.one (.pv (T_kinfolkref02_Event.pv none_))))), (11, (.av (.one (.pv (.bool left))))), (12, (.av (.one (.pv (.bool right))))), (13, (.av (.one (.pv (.int .u64 0))))), (53, (.av (.one (.pv (.bool b)))))], [(0, [(.pv (.bools l false)), (.pv (.int .i64 n))])], []⟩ (kinfolkref07_GetEvent_C53_ex depth none_ left right b l n r_).1 (kinfolkref07_GetEvent_C53_ex depth none_ left right b l n r_).2 := by
  unfold kinfolkref07_GetEvent_C53 at h
  rcases cond_of h with ⟨h1, h⟩ | ⟨h1, h⟩
  · obtain ⟨⟨n2, l_, n3⟩, h2, h⟩ := bind_of h
    obtain ⟨⟨b2, b3, l_2, n4⟩, h3, h⟩ := bind_of h
    have q_3 := (kinfolkref07_GetEvent_C56_runs depth none_ left right (decide ((n2 : Int) = 0)) l_ n3 _ h3)
    obtain ⟨⟨n5, n6, l_3, n7⟩, h4, h⟩ := bind_of h
    rcases cond_of h with ⟨h5, h⟩ | ⟨h5, h⟩
    · rcases cond_of h with ⟨h6, h⟩ | ⟨h6, h⟩
      · have h := some_of h
        subst h
        have t_ := tT h1 <| tR (kinfolkref05_Get_2_runs 1 l n _ h2) <| tL q_3 <| tR (kinfolkref07_number_runs l_2 n4 _ h4) <| tF (not_of2 h5) <| tT h6 <| tN
        exact piece_ok (C := cfg) (sc := t_.ev) (.k0 t_.pf (by kernel_rfl))
      · have h := some_of h
        subst h
        have t_ := tT h1 <| tR (kinfolkref05_Get_2_runs 1 l n _ h2) <| tL q_3 <| tR (kinfolkref07_number_runs l_2 n4 _ h4) <| tF (not_of2 h5) <| tF h6 <| tN
        exact piece_ok (C := cfg) (sc := t_.ev) (.k0 t_.pf (by kernel_rfl))
    · have h := some_of h
      subst h
      have t_ := tT h1 <| tR (kinfolkref05_Get_2_runs 1 l n _ h2) <| tL q_3 <| tR (kinfolkref07_number_runs l_2 n4 _ h4) <| tT (not_of h5) <| tN
      exact piece_ok (C := cfg) (sc := t_.ev) (.k0 t_.pf (by kernel_rfl))
  · have h := some_of h
    subst h
    have t_ := tF h1 <| tN
    exact piece_ok (C := cfg) (sc := t_.ev) (.k0 t_.pf (by kernel_rfl))
/-! ### kinfolkref07_GetEvent_4_out -/
def kinfolkref07_GetEvent_4_out (depth : Int) (l : List Bool) (n : Int) : T_kinfolkref02_Event × Int × List Bool × Int → Res
  | (r1, r2, r3, r4) => ([(.one (.pv (T_kinfolkref02_Event.pv r1))), (.one (.pv (.int .i64 r2)))], [[(.pv (.bools r3 false)), (.pv (.int .i64 r4))]], [])
/-! ### kinfolkref07_zero_out -/
def kinfolkref07_zero_out (e : T_kinfolkref02_Event) : Bool → Res
  | r1 => ([(.one (.pv (.bool r1)))], [], [])
/-! ### kinfolkref07_zero -/
noncomputable def kinfolkref07_zero (e : T_kinfolkref02_Event) : Option (Bool) :=
  match e with
  | .nil =>
    none
  | .mk n t t2 =>
    match t with
    | .nil =>
      some (decide ((n : Int) = 0))
    | .mk n2 t3 t4 =>
      some false
theorem kinfolkref07_zero_runs (e : T_kinfolkref02_Event) (r_ : Bool) (h : kinfolkref07_zero e = some r_) : Runs Tryd.prog 126 [(.one (.pv (T_kinfolkref02_Event.pv e)))] [] [] (kinfolkref07_zero_out e r_) := by
  unfold kinfolkref07_zero at h
  cases e with
  | nil =>
    cases h
  | mk n t t2 =>
    cases t with
    | nil =>
      have h := some_of h
      subst h
      have t_ := tT (rfl : true = true) <| tN
      exact runs_of (C := cfg) (objs := []) (sc := t_.ev) (.k0 t_.pf (by kernel_rfl))
    | mk n2 t3 t4 =>
      have h := some_of h
      subst h
      have t_ := tF (rfl : false = false) <| tN
      exact runs_of (C := cfg) (objs := []) (sc := t_.ev) (.k0 t_.pf (by kernel_rfl))
/-! ### kinfolkref02_Max_out -/
def kinfolkref02_Max_out (e : T_kinfolkref02_Event) : Int → Res
  | r1 => ([(.one (.pv (.int .u64 r1)))], [], [])
/-! ### kinfolkref02_Max -/
noncomputable def kinfolkref02_Max_b (rec_kinfolkref02_Max : T_kinfolkref02_Event → Option (Int)) (e : T_kinfolkref02_Event) : Option (Int) :=
  match e with
  | .nil =>
    none
  | .mk n t t2 =>
    match t with
    | .nil =>
      some n
    | .mk n2 t3 t4 =>
      (rec_kinfolkref02_Max t).bind fun n3 =>
      (rec_kinfolkref02_Max t2).bind fun n4 =>
      bif (decide ((n4 : Int) < n3)) then
        some (iadd .u64 n n3)
      else
        some (iadd .u64 n n4)
theorem kinfolkref02_Max_b_runs (rec_kinfolkref02_Max : T_kinfolkref02_Event → Option (Int)) (hrec_kinfolkref02_Max : ∀ e r_, rec_kinfolkref02_Max e = some r_ → Runs Tryd.prog 29 [(.one (.pv (T_kinfolkref02_Event.pv e)))] [] [] (kinfolkref02_Max_out e r_)) (e : T_kinfolkref02_Event) (r_ : Int) (h : kinfolkref02_Max_b rec_kinfolkref02_Max e = some r_) : Runs Tryd.prog 29 [(.one (.pv (T_kinfolkref02_Event.pv e)))] [] [] (kinfolkref02_Max_out e r_) := by
  unfold kinfolkref02_Max_b at h
  cases e with
  | nil =>
    cases h
  | mk n t t2 =>
    cases t with
    | nil =>
      have h := some_of h
      subst h
      have t_ := tT (rfl : true = true) <| tN
      exact runs_of (C := cfg) (objs := []) (sc := t_.ev) (.k0 t_.pf (by kernel_rfl))
    | mk n2 t3 t4 =>
      obtain ⟨n3, h1, h⟩ := bind_of h
      obtain ⟨n4, h2, h⟩ := bind_of h
      rcases cond_of h with ⟨h3, h⟩ | ⟨h3, h⟩
      · have h := some_of h
        subst h
        have t_ := tF (rfl : false = false) <| tR (hrec_kinfolkref02_Max (T_kinfolkref02_Event.mk n2 t3 t4) _ h1) <| tR (hrec_kinfolkref02_Max t2 _ h2) <| tT h3 <| tN
        exact runs_of (C := cfg) (objs := []) (sc := t_.ev) (.k0 t_.pf (by kernel_rfl))
      · have h := some_of h
        subst h
        have t_ := tF (rfl : false = false) <| tR (hrec_kinfolkref02_Max (T_kinfolkref02_Event.mk n2 t3 t4) _ h1) <| tR (hrec_kinfolkref02_Max t2 _ h2) <| tF h3 <| tN
        exact runs_of (C := cfg) (objs := []) (sc := t_.ev) (.k0 t_.pf (by kernel_rfl))
noncomputable def kinfolkref02_Max : Nat → T_kinfolkref02_Event → Option (Int)
  | 0, _ => none
  | N + 1, e => kinfolkref02_Max_b (kinfolkref02_Max N) e
theorem kinfolkref02_Max_runs : ∀ (N : Nat) (e : T_kinfolkref02_Event) (r_ : Int), kinfolkref02_Max N e = some r_ → Runs Tryd.prog 29 [(.one (.pv (T_kinfolkref02_Event.pv e)))] [] [] (kinfolkref02_Max_out e r_)
  | 0, _, _, h => by cases h
  | N + 1, e, r_, h => kinfolkref02_Max_b_runs (kinfolkref02_Max N) (kinfolkref02_Max_runs N) e r_ h
/-! ### kinfolkref07_GetEvent_C84_2 -/
def kinfolkref07_GetEvent_C84_2_ex (depth : Int) (none_ : T_kinfolkref02_Event) (left : Bool) (right : Bool) (base : Int) (x : T_kinfolkref02_Event) (y : T_kinfolkref02_Event) (b : Bool) (l : List Bool) (n : Int) : (T_kinfolkref02_Event × List Bool × Int) ⊕ (Int × List Bool × Int) → Ex × St
  | .inl (r1, r2, r3) => (.normal, ⟨[(0, (.av (.one (.ref 0 0)))), (1, (.av (.one (.pv (.int .i64 depth))))), (6, (.av (.one (.pv (T_kinfolkref02_Event.pv none_))))), (11, (.av (.one (.pv (.bool left))))), (12, (.av (.one (.pv (.bool right))))), (13, (.av (.one (.pv (.int .u64 base))))), (17, (.av (.one (.pv (T_kinfolkref02_Event.pv r1))))), (18, (.av (.one (.pv (T_kinfolkref02_Event.pv y)))))], [(0, [(.pv (.bools r2 false)), (.pv (.int .i64 r3))])], []⟩)
  | .inr (r1, r2, r3) => (.ret, ⟨[(4, (.av (.one (.pv (T_kinfolkref02_Event.pv none_))))), (5, (.av (.one (.pv (.int .i64 r1)))))], [(0, [(.pv (.bools r2 false)), (.pv (.int .i64 r3))])], []⟩)
noncomputable def kinfolkref07_GetEvent_C84_2 (rec_kinfolkref07_GetEvent_4 : Int → List Bool → Int → Option (T_kinfolkref02_Event × Int × List Bool × Int)) (depth : Int) (none_ : T_kinfolkref02_Event) (left : Bool) (right : Bool) (base : Int) (x : T_kinfolkref02_Event) (y : T_kinfolkref02_Event) (b : Bool) (l : List Bool) (n : Int) : Option ((T_kinfolkref02_Event × List Bool × Int) ⊕ (Int × List Bool × Int)) :=
  bif b then
    (rec_kinfolkref07_GetEvent_4 (iadd .i64 depth 1) l n).bind fun (t, n2, l_, n3) =>
    bif (decide ((n2 : Int) = 0)) then
      some (.inl (t, l_, n3))
    else
      some (.inr (n2, l_, n3))
  else
    some (.inl (x, l, n))
theorem kinfolkref07_GetEvent_C84_2_runs (rec_kinfolkref07_GetEvent_4 : Int → List Bool → Int → Option (T_kinfolkref02_Event × Int × List Bool × Int)) (hrec_kinfolkref07_GetEvent_4 : ∀ depth l n r_, rec_kinfolkref07_GetEvent_4 depth l n = some r_ → Runs Tryd.prog 77 [(.one (.ref 0 0)), (.one (.pv (.int .i64 depth)))] [[(.pv (.bools l false)), (.pv (.int .i64 n))]] [] (kinfolkref07_GetEvent_4_out depth l n r_)) (depth : Int) (none_ : T_kinfolkref02_Event) (left : Bool) (right : Bool) (base : Int) (x : T_kinfolkref02_Event) (y : T_kinfolkref02_Event) (b : Bool) (l : List Bool) (n : Int) (r_ : (T_kinfolkref02_Event × List Bool × Int) ⊕ (Int × List Bool × Int)) (h : kinfolkref07_GetEvent_C84_2 rec_kinfolkref07_GetEvent_4 depth none_ left right base x y b l n = some r_) : LRuns Tryd.prog (lEnv Tryd.prog cfg 77 1).nt 1 (.cond (.tmp 84) (condAt Tryd.prog 77 84).1 (condAt Tryd.prog 77 84).2) ⟨[(0, (.av (.one (.ref 0 0)))), (1, (.av (.one (.pv (.int .i64 depth))))), (6, (.av (.one (.pv (T_kinfolkref02_Event.pv none_))))), (11, (.av (.one (.pv (.bool left))))), (12, (.av (.one (.pv (.bool right))))), (13, (.av (.one (.pv (.int .u64 base))))), (17, (.av (.one (.pv (T_kinfolkref02_Event.pv x))))), (18, (.av (.one (.pv (T_kinfolkref02_Event.pv y))))), (84, (.av (.one (.pv (.bool b)))))], [(0, [(.pv (.bools l false)), (.pv (.int .i64 n))])], []⟩ (kinfolkref07_GetEvent_C84_2_ex depth none_ left right base x y b l n r_).1 (kinfolkref07_GetEvent_C84_2_ex depth none_ left right base x y b l n r_).2 := by
  unfold kinfolkref07_GetEvent_C84_2 at h
  rcases cond_of h with ⟨h1, h⟩ | ⟨h1, h⟩
  · obtain ⟨⟨t, n2, l_, n3⟩, h2, h⟩ := bind_of h
    have q_2 := (hrec_kinfolkref07_GetEvent_4 (iadd .i64 depth 1) l n _ h2)
    rcases cond_of h with ⟨h3, h⟩ | ⟨h3, h⟩
    · have h := some_of h
      subst h
      have t_ := tT h1 <| tR q_2 <| tF (not_of2 h3) <| tN
      exact piece_ok (C := cfg) (sc := t_.ev) (.k0 t_.pf (by kernel_rfl))
    · have h := some_of h
      subst h
      have t_ := tT h1 <| tR q_2 <| tT (not_of h3) <| tN
      exact piece_ok (C := cfg) (sc := t_.ev) (.k0 t_.pf (by kernel_rfl))
  · have h := some_of h
    subst h
    have t_ := tF h1 <| tN
    exact piece_ok (C := cfg) (sc := t_.ev) (.k0 t_.pf (by kernel_rfl))
/-! ### kinfolkref07_GetEvent_C96 -/
def kinfolkref07_GetEvent_C96_ex (depth : Int) (none_ : T_kinfolkref02_Event) (left : Bool) (right : Bool) (base : Int) (x : T_kinfolkref02_Event) (y : T_kinfolkref02_Event) (b : Bool) (l : List Bool) (n : Int) : (T_kinfolkref02_Event × List Bool × Int) ⊕ (Int × List Bool × Int) → Ex × St
  | .inl (r1, r2, r3) => (.normal, ⟨[(6, (.av (.one (.pv (T_kinfolkref02_Event.pv none_))))), (11, (.av (.one (.pv (.bool left))))), (12, (.av (.one (.pv (.bool right))))), (13, (.av (.one (.pv (.int .u64 base))))), (17, (.av (.one (.pv (T_kinfolkref02_Event.pv x))))), (18, (.av (.one (.pv (T_kinfolkref02_Event.pv r1)))))], [(0, [(.pv (.bools r2 false)), (.pv (.int .i64 r3))])], []⟩)
  | .inr (r1, r2, r3) => (.ret, ⟨[(4, (.av (.one (.pv (T_kinfolkref02_Event.pv none_))))), (5, (.av (.one (.pv (.int .i64 r1)))))], [(0, [(.pv (.bools r2 false)), (.pv (.int .i64 r3))])], []⟩)
noncomputable def kinfolkref07_GetEvent_C96 (rec_kinfolkref07_GetEvent_4 : Int → List Bool → Int → Option (T_kinfolkref02_Event × Int × List Bool × Int)) (depth : Int) (none_ : T_kinfolkref02_Event) (left : Bool) (right : Bool) (base : Int) (x : T_kinfolkref02_Event) (y : T_kinfolkref02_Event) (b : Bool) (l : List Bool) (n : Int) : Option ((T_kinfolkref02_Event × List Bool × Int) ⊕ (Int × List Bool × Int)) :=
  bif b then
    (rec_kinfolkref07_GetEvent_4 (iadd .i64 depth 1) l n).bind fun (t, n2, l_, n3) =>
    bif (decide ((n2 : Int) = 0)) then
      some (.inl (t, l_, n3))
    else
      some (.inr (n2, l_, n3))
  else
    some (.inl (y, l, n))
theorem kinfolkref07_GetEvent_C96_runs (rec_kinfolkref07_GetEvent_4 : Int → List Bool → Int → Option (T_kinfolkref02_Event × Int × List Bool × Int)) (hrec_kinfolkref07_GetEvent_4 : ∀ depth l n r_, rec_kinfolkref07_GetEvent_4 depth l n = some r_ → Runs Tryd.prog 77 [(.one (.ref 0 0)), (.one (.pv (.int .i64 depth)))] [[(.pv (.bools l false)), (.pv (.int .i64 n))]] [] (kinfolkref07_GetEvent_4_out depth l n r_)) (depth : Int) (none_ : T_kinfolkref02_Event) (left : Bool) (right : Bool) (base : Int) (x : T_kinfolkref02_Event) (y : T_kinfolkref02_Event) (b : Bool) (l : List Bool) (n : Int) (r_ : (T_kinfolkref02_Event × List Bool × Int) ⊕ (Int × List Bool × Int)) (h : kinfolkref07_GetEvent_C96 rec_kinfolkref07_GetEvent_4 depth none_ left right base x y b l n = some r_) : LRuns Tryd.prog (lEnv Tryd.prog cfg 77 1).nt 1 (.cond (.tmp 96) (condAt Tryd.prog 77 96).1 (condAt Tryd.prog 77 96).2) ⟨[(0, (.av (.one (.ref 0 0)))), (1, (.av (.one (.pv (.int .i64 depth))))), (6, (.av (.one (.pv (T_kinfolkref02_Event.pv none_))))), (11, (.av (.one (.pv (.bool left))))), (12, (.av (.one (.pv (.bool right))))), (13, (.av (.one (.pv (.int .u64 base))))), (17, (.av (.one (.pv (T_kinfolkref02_Event.pv x))))), (18, (.av (.one (.pv (T_kinfolkref02_Event.pv y))))), (96, (.av (.one (.pv (.bool b)))))], [(0, [(.pv (.bools l false)), (.pv (.int .i64 n))])], []⟩ (kinfolkref07_GetEvent_C96_ex depth none_ left right base x y b l n r_).1 (kinfolkref07_GetEvent_C96_ex depth none_ left right base x y b l n r_).2 := by
  unfold kinfolkref07_GetEvent_C96 at h
  rcases cond_of h with ⟨h1, h⟩ | ⟨h1, h⟩
  · obtain ⟨⟨t, n2, l_, n3⟩, h2, h⟩ := bind_of h
    have q_2 := (hrec_kinfolkref07_GetEvent_4 (iadd .i64 depth 1) l n _ h2)
    rcases cond_of h with ⟨h3, h⟩ | ⟨h3, h⟩
    · have h := some_of h
      subst h
      have t_ := tT h1 <| tR q_2 <| tF (not_of2 h3) <| tN
      exact piece_ok (C := cfg) (sc := t_.ev) (.k0 t_.pf (by kernel_rfl))
    · have h := some_of h
      subst h
      have t_ := tT h1 <| tR q_2 <| tT (not_of h3) <| tN
      exact piece_ok (C := cfg) (sc := t_.ev) (.k0 t_.pf (by kernel_rfl))
  · have h := some_of h
    subst h
    have t_ := tF h1 <| tN
    exact piece_ok (C := cfg) (sc := t_.ev) (.k0 t_.pf (by kernel_rfl))

end Go.Proofs.YtjjakdmcnkldoaaDoor
