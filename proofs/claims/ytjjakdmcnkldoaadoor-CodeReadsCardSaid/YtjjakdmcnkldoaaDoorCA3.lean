/- What functions compute, and that they do. -/
import Derived.Test.YtjjakdmcnkldoaaDoorCA2
set_option linter.unusedVariables false
set_option linter.unusedSimpArgs false
set_option maxRecDepth 100000
namespace Go.Proofs.YtjjakdmcnkldoaaDoor
open Go.Ev

/-! ### code_source_event_2 -/
noncomputable def code_source_event_2_b (N : Nat) (rec_code_source_event_2 : Int → Int → List Int → Int → Int → Option (Int × T_event_halves × Int × Int × Int)) (depth : Int) (n : Int) (l : List Int) (n2 : Int) (n3 : Int) : Option (Int × T_event_halves × Int × Int × Int) :=
  (code_source_bit 1 n l n2 n3).bind fun (n4, n5, n6, n7) =>
  bif (decide ((n4 : Int) = 1)) then
    (code_source_number n5 l n6 n7).bind fun (n8, n9, n10, n11) =>
    (event_Leaf n8).bind fun (n12, n13) =>
    some (n12, T_event_halves.nil, n9, n10, n11)
  else
    (code_source_event_C24 depth (decide ((depth : Int) = 16)) n5 l n6 n7).bind fun n8 =>
    (code_source_bit 2 n8 l n6 n7).bind fun (n9, n10, n11, n12) =>
    (code_source_event_C34 depth (!(decide ((n9 : Int) = 0))) (!(decide ((n9 : Int) = 1))) (decide ((n9 : Int) = 3)) n10 l n11 n12).bind fun (n13, b, b2, n14, n15, n16) =>
    (code_source_ok n14 l n15 n16).bind fun (b3, n17) =>
    bif b3 then
      (code_source_event_C53 rec_code_source_event_2 depth n13 b b2 b n17 l n15 n16).bind fun (n18, n19, n20, n21, t) =>
      (code_source_ok n18 l n19 n20).bind fun (b4, n22) =>
      bif b4 then
        (code_source_event_C62 rec_code_source_event_2 depth n13 b b2 b2 n22 l n19 n20 n21 t).bind fun (n23, n24, n25, n26, t2) =>
        (code_zero n21 t).bind fun b5 =>
        bif (b5 == (!b)) then
          (code_zero n26 t2).bind fun b6 =>
          bif (b6 == (!b2)) then
            (event_Event_Base n21 t).bind fun _ =>
            (event_Event_Base n26 t2).bind fun _ =>
            bif (decide (((if (n26 : Int) < n21 then n26 else n21) : Int) = 0)) then
              (event_Event_IsLeaf n21 t).bind fun b7 =>
              bif b7 then
                (event_Event_IsLeaf n26 t2).bind fun b8 =>
                bif b8 then
                  (code_source_must (!(decide ((n21 : Int) = n26))) n23 l n24 n25).bind fun n27 =>
                  (code_source_ok n27 l n24 n25).bind fun (b9, n28) =>
                  bif b9 then
                    (code_source_node N n13 n21 t n26 t2 n28 l n24 n25).bind fun (n29, t3, n30) =>
                    some (n29, t3, n30, n24, n25)
                  else
                    some (0, T_event_halves.nil, n28, n24, n25)
                else
                  (code_source_must true n23 l n24 n25).bind fun n27 =>
                  (code_source_ok n27 l n24 n25).bind fun (b9, n28) =>
                  bif b9 then
                    (code_source_node N n13 n21 t n26 t2 n28 l n24 n25).bind fun (n29, t3, n30) =>
                    some (n29, t3, n30, n24, n25)
                  else
                    some (0, T_event_halves.nil, n28, n24, n25)
              else
                (code_source_must true n23 l n24 n25).bind fun n27 =>
                (code_source_ok n27 l n24 n25).bind fun (b8, n28) =>
                bif b8 then
                  (code_source_node N n13 n21 t n26 t2 n28 l n24 n25).bind fun (n29, t3, n30) =>
                  some (n29, t3, n30, n24, n25)
                else
                  some (0, T_event_halves.nil, n28, n24, n25)
            else
              (code_source_must false n23 l n24 n25).bind fun n27 =>
              (code_source_ok n27 l n24 n25).bind fun (b7, n28) =>
              bif b7 then
                (code_source_node N n13 n21 t n26 t2 n28 l n24 n25).bind fun (n29, t3, n30) =>
                some (n29, t3, n30, n24, n25)
              else
                some (0, T_event_halves.nil, n28, n24, n25)
          else
            (code_source_must false n23 l n24 n25).bind fun n27 =>
            (code_source_ok n27 l n24 n25).bind fun (b7, n28) =>
            bif b7 then
              (code_source_node N n13 n21 t n26 t2 n28 l n24 n25).bind fun (n29, t3, n30) =>
              some (n29, t3, n30, n24, n25)
            else
              some (0, T_event_halves.nil, n28, n24, n25)
        else
          (code_source_must false n23 l n24 n25).bind fun n27 =>
          (code_source_ok n27 l n24 n25).bind fun (b6, n28) =>
          bif b6 then
            (code_source_node N n13 n21 t n26 t2 n28 l n24 n25).bind fun (n29, t3, n30) =>
            some (n29, t3, n30, n24, n25)
          else
            some (0, T_event_halves.nil, n28, n24, n25)
      else
        (code_zero n21 t).bind fun b5 =>
        bif (b5 == (!b)) then
          (code_zero 0 T_event_halves.nil).bind fun b6 =>
          bif (b6 == (!b2)) then
            (event_Event_Base n21 t).bind fun _ =>
            (event_Event_Base 0 T_event_halves.nil).bind fun _ =>
            bif (decide (((if (0 : Int) < n21 then 0 else n21) : Int) = 0)) then
              (event_Event_IsLeaf n21 t).bind fun b7 =>
              bif b7 then
                (event_Event_IsLeaf 0 T_event_halves.nil).bind fun b8 =>
                bif b8 then
                  (code_source_must (!(decide ((n21 : Int) = 0))) n22 l n19 n20).bind fun n23 =>
                  (code_source_ok n23 l n19 n20).bind fun (b9, n24) =>
                  bif b9 then
                    (code_source_node N n13 n21 t 0 T_event_halves.nil n24 l n19 n20).bind fun (n25, t2, n26) =>
                    some (n25, t2, n26, n19, n20)
                  else
                    some (0, T_event_halves.nil, n24, n19, n20)
                else
                  (code_source_must true n22 l n19 n20).bind fun n23 =>
                  (code_source_ok n23 l n19 n20).bind fun (b9, n24) =>
                  bif b9 then
                    (code_source_node N n13 n21 t 0 T_event_halves.nil n24 l n19 n20).bind fun (n25, t2, n26) =>
                    some (n25, t2, n26, n19, n20)
                  else
                    some (0, T_event_halves.nil, n24, n19, n20)
              else
                (code_source_must true n22 l n19 n20).bind fun n23 =>
                (code_source_ok n23 l n19 n20).bind fun (b8, n24) =>
                bif b8 then
                  (code_source_node N n13 n21 t 0 T_event_halves.nil n24 l n19 n20).bind fun (n25, t2, n26) =>
                  some (n25, t2, n26, n19, n20)
                else
                  some (0, T_event_halves.nil, n24, n19, n20)
            else
              (code_source_must false n22 l n19 n20).bind fun n23 =>
              (code_source_ok n23 l n19 n20).bind fun (b7, n24) =>
              bif b7 then
                (code_source_node N n13 n21 t 0 T_event_halves.nil n24 l n19 n20).bind fun (n25, t2, n26) =>
                some (n25, t2, n26, n19, n20)
              else
                some (0, T_event_halves.nil, n24, n19, n20)
          else
            (code_source_must false n22 l n19 n20).bind fun n23 =>
            (code_source_ok n23 l n19 n20).bind fun (b7, n24) =>
            bif b7 then
              (code_source_node N n13 n21 t 0 T_event_halves.nil n24 l n19 n20).bind fun (n25, t2, n26) =>
              some (n25, t2, n26, n19, n20)
            else
              some (0, T_event_halves.nil, n24, n19, n20)
        else
          (code_source_must false n22 l n19 n20).bind fun n23 =>
          (code_source_ok n23 l n19 n20).bind fun (b6, n24) =>
          bif b6 then
            (code_source_node N n13 n21 t 0 T_event_halves.nil n24 l n19 n20).bind fun (n25, t2, n26) =>
            some (n25, t2, n26, n19, n20)
          else
            some (0, T_event_halves.nil, n24, n19, n20)
    else
      (code_source_ok n17 l n15 n16).bind fun (b4, n18) =>
      bif b4 then
        (code_source_event_C62_2 rec_code_source_event_2 depth n13 b b2 b2 n18 l n15 n16).bind fun (n19, n20, n21, n22, t) =>
        (code_zero 0 T_event_halves.nil).bind fun b5 =>
        bif (b5 == (!b)) then
          (code_zero n22 t).bind fun b6 =>
          bif (b6 == (!b2)) then
            (event_Event_Base 0 T_event_halves.nil).bind fun _ =>
            (event_Event_Base n22 t).bind fun _ =>
            bif (decide (((if (n22 : Int) < 0 then n22 else 0) : Int) = 0)) then
              (event_Event_IsLeaf 0 T_event_halves.nil).bind fun b7 =>
              bif b7 then
                (event_Event_IsLeaf n22 t).bind fun b8 =>
                bif b8 then
                  (code_source_must (!(decide ((0 : Int) = n22))) n19 l n20 n21).bind fun n23 =>
                  (code_source_ok n23 l n20 n21).bind fun (b9, n24) =>
                  bif b9 then
                    (code_source_node N n13 0 T_event_halves.nil n22 t n24 l n20 n21).bind fun (n25, t2, n26) =>
                    some (n25, t2, n26, n20, n21)
                  else
                    some (0, T_event_halves.nil, n24, n20, n21)
                else
                  (code_source_must true n19 l n20 n21).bind fun n23 =>
                  (code_source_ok n23 l n20 n21).bind fun (b9, n24) =>
                  bif b9 then
                    (code_source_node N n13 0 T_event_halves.nil n22 t n24 l n20 n21).bind fun (n25, t2, n26) =>
                    some (n25, t2, n26, n20, n21)
                  else
                    some (0, T_event_halves.nil, n24, n20, n21)
              else
                (code_source_must true n19 l n20 n21).bind fun n23 =>
                (code_source_ok n23 l n20 n21).bind fun (b8, n24) =>
                bif b8 then
                  (code_source_node N n13 0 T_event_halves.nil n22 t n24 l n20 n21).bind fun (n25, t2, n26) =>
                  some (n25, t2, n26, n20, n21)
                else
                  some (0, T_event_halves.nil, n24, n20, n21)
            else
              (code_source_must false n19 l n20 n21).bind fun n23 =>
              (code_source_ok n23 l n20 n21).bind fun (b7, n24) =>
              bif b7 then
                (code_source_node N n13 0 T_event_halves.nil n22 t n24 l n20 n21).bind fun (n25, t2, n26) =>
                some (n25, t2, n26, n20, n21)
              else
                some (0, T_event_halves.nil, n24, n20, n21)
          else
            (code_source_must false n19 l n20 n21).bind fun n23 =>
            (code_source_ok n23 l n20 n21).bind fun (b7, n24) =>
            bif b7 then
              (code_source_node N n13 0 T_event_halves.nil n22 t n24 l n20 n21).bind fun (n25, t2, n26) =>
              some (n25, t2, n26, n20, n21)
            else
              some (0, T_event_halves.nil, n24, n20, n21)
        else
          (code_source_must false n19 l n20 n21).bind fun n23 =>
          (code_source_ok n23 l n20 n21).bind fun (b6, n24) =>
          bif b6 then
            (code_source_node N n13 0 T_event_halves.nil n22 t n24 l n20 n21).bind fun (n25, t2, n26) =>
            some (n25, t2, n26, n20, n21)
          else
            some (0, T_event_halves.nil, n24, n20, n21)
      else
        (code_zero 0 T_event_halves.nil).bind fun b5 =>
        bif (b5 == (!b)) then
          bif (b5 == (!b2)) then
            (event_Event_Base 0 T_event_halves.nil).bind fun _ =>
            (event_Event_IsLeaf 0 T_event_halves.nil).bind fun b6 =>
            bif b6 then
              (code_source_must false n18 l n15 n16).bind fun n19 =>
              (code_source_ok n19 l n15 n16).bind fun (b7, n20) =>
              bif b7 then
                (code_source_node N n13 0 T_event_halves.nil 0 T_event_halves.nil n20 l n15 n16).bind fun (n21, t, n22) =>
                some (n21, t, n22, n15, n16)
              else
                some (0, T_event_halves.nil, n20, n15, n16)
            else
              (code_source_must true n18 l n15 n16).bind fun n19 =>
              (code_source_ok n19 l n15 n16).bind fun (b7, n20) =>
              bif b7 then
                (code_source_node N n13 0 T_event_halves.nil 0 T_event_halves.nil n20 l n15 n16).bind fun (n21, t, n22) =>
                some (n21, t, n22, n15, n16)
              else
                some (0, T_event_halves.nil, n20, n15, n16)
          else
            (code_source_must false n18 l n15 n16).bind fun n19 =>
            (code_source_ok n19 l n15 n16).bind fun (b6, n20) =>
            bif b6 then
              (code_source_node N n13 0 T_event_halves.nil 0 T_event_halves.nil n20 l n15 n16).bind fun (n21, t, n22) =>
              some (n21, t, n22, n15, n16)
            else
              some (0, T_event_halves.nil, n20, n15, n16)
        else
          (code_source_must false n18 l n15 n16).bind fun n19 =>
          (code_source_ok n19 l n15 n16).bind fun (b6, n20) =>
          bif b6 then
            (code_source_node N n13 0 T_event_halves.nil 0 T_event_halves.nil n20 l n15 n16).bind fun (n21, t, n22) =>
            some (n21, t, n22, n15, n16)
          else
            some (0, T_event_halves.nil, n20, n15, n16)
theorem code_source_event_2_b_runs (N : Nat) (rec_code_source_event_2 : Int → Int → List Int → Int → Int → Option (Int × T_event_halves × Int × Int × Int)) (hrec_code_source_event_2 : ∀ depth n l n2 n3 r_, rec_code_source_event_2 depth n l n2 n3 = some r_ → Runs Tryd.prog 124 [(.one (.ref 0 0)), (.one (.pv (.int .i64 depth)))] [[(.ref 1 0), (.pv (.int .i64 n))], [(.pv (.ints .u8 l false)), (.pv (.int .i64 n2)), (.pv (.int .i64 n3))]] [] (code_source_event_2_out depth n l n2 n3 r_)) (depth : Int) (n : Int) (l : List Int) (n2 : Int) (n3 : Int) (r_ : Int × T_event_halves × Int × Int × Int) (h : code_source_event_2_b N rec_code_source_event_2 depth n l n2 n3 = some r_) : Runs Tryd.prog 124 [(.one (.ref 0 0)), (.one (.pv (.int .i64 depth)))] [[(.ref 1 0), (.pv (.int .i64 n))], [(.pv (.ints .u8 l false)), (.pv (.int .i64 n2)), (.pv (.int .i64 n3))]] [] (code_source_event_2_out depth n l n2 n3 r_) := by
  unfold code_source_event_2_b at h
  obtain ⟨⟨n4, n5, n6, n7⟩, h1, h⟩ := bind_of h
  rcases cond_of h with ⟨h2, h⟩ | ⟨h2, h⟩
  · obtain ⟨⟨n8, n9, n10, n11⟩, h3, h⟩ := bind_of h
    obtain ⟨⟨n12, n13⟩, h4, h⟩ := bind_of h
    have h := some_of h
    subst h
    have t_ := tR (code_source_bit_runs 1 n l n2 n3 _ h1) <| tT h2 <| tR (code_source_number_runs n5 l n6 n7 _ h3) <| tR (event_Leaf_runs n8 _ h4) <| tN
    exact runs_of (C := cfg) (objs := [[(.ref 1 0), (.pv (.int .i64 n))], [(.pv (.ints .u8 l false)), (.pv (.int .i64 n2)), (.pv (.int .i64 n3))]]) (sc := t_.ev) (.k0 t_.pf (by kernel_rfl))
  · obtain ⟨n8, h3, h⟩ := bind_of h
    have q_3 := (LRuns.coe (s0 := ⟨[(0, (.av (.one (.ref 0 0)))), (1, (.av (.one (.pv (.int .i64 depth))))), (4, (.av (.one (.ref 2 0)))), (24, (.av (.one (.pv (.bool (decide ((depth : Int) = 16)))))))], [(0, [(.ref 1 0), (.pv (.int .i64 n5))]), (1, [(.pv (.ints .u8 l false)), (.pv (.int .i64 n6)), (.pv (.int .i64 n7))]), (2, [(.pv (.int .u64 0)), (.pv .nilp)])], []⟩) (code_source_event_C24_runs depth (decide ((depth : Int) = 16)) n5 l n6 n7 _ h3) ⟨⟨⟨_, rfl, .eq rfl⟩, ⟨_, rfl, .eq rfl⟩, ⟨_, rfl, .eq rfl⟩, ⟨_, rfl, .eq rfl⟩, trivial⟩, ⟨⟨rfl, ⟨.eq rfl, .eq rfl, trivial⟩⟩, ⟨rfl, ⟨.eq rfl, .eq rfl, .eq rfl, trivial⟩⟩, ⟨rfl, ⟨.eq rfl, .eq rfl, trivial⟩⟩, trivial⟩, trivial⟩)
    obtain ⟨⟨n9, n10, n11, n12⟩, h4, h⟩ := bind_of h
    obtain ⟨⟨n13, b, b2, n14, n15, n16⟩, h5, h⟩ := bind_of h
    have q_5 := (LRuns.coe (s0 := ⟨[(0, (.av (.one (.ref 0 0)))), (1, (.av (.one (.pv (.int .i64 depth))))), (4, (.av (.one (.ref 2 0)))), (7, (.av (.one (.ref 3 0)))), (8, (.av (.one (.ref 4 0)))), (9, (.av (.one (.pv (.int .u64 0))))), (11, (.av (.one (.pv (.bool (!(decide ((n9 : Int) = 0)))))))), (12, (.av (.one (.pv (.bool (!(decide ((n9 : Int) = 1)))))))), (34, (.av (.one (.pv (.bool (decide ((n9 : Int) = 3)))))))], [(0, [(.ref 1 0), (.pv (.int .i64 n10))]), (1, [(.pv (.ints .u8 l false)), (.pv (.int .i64 n11)), (.pv (.int .i64 n12))]), (2, [(.pv (.int .u64 0)), (.pv (T_event_halves.pv T_event_halves.nil))]), (3, [(.pv (.int .u64 0)), (.pv .nilp)]), (4, [(.pv (.int .u64 0)), (.pv .nilp)])], []⟩) (code_source_event_C34_runs depth (!(decide ((n9 : Int) = 0))) (!(decide ((n9 : Int) = 1))) (decide ((n9 : Int) = 3)) n10 l n11 n12 _ h5) ⟨⟨⟨_, rfl, .eq rfl⟩, ⟨_, rfl, .eq rfl⟩, ⟨_, rfl, .eq rfl⟩, ⟨_, rfl, .eq rfl⟩, ⟨_, rfl, .eq rfl⟩, ⟨_, rfl, .eq rfl⟩, ⟨_, rfl, .eq rfl⟩, ⟨_, rfl, .eq rfl⟩, ⟨_, rfl, .eq rfl⟩, trivial⟩, ⟨⟨rfl, ⟨.eq rfl, .eq rfl, trivial⟩⟩, ⟨rfl, ⟨.eq rfl, .eq rfl, .eq rfl, trivial⟩⟩, ⟨rfl, ⟨.eq rfl, .eq rfl, trivial⟩⟩, ⟨rfl, ⟨.eq rfl, .eq rfl, trivial⟩⟩, ⟨rfl, ⟨.eq rfl, .eq rfl, trivial⟩⟩, trivial⟩, trivial⟩)
    obtain ⟨⟨b3, n17⟩, h6, h⟩ := bind_of h
    rcases cond_of h with ⟨h7, h⟩ | ⟨h7, h⟩
    · obtain ⟨⟨n18, n19, n20, n21, t⟩, h8, h⟩ := bind_of h
      have q_8 := (code_source_event_C53_runs rec_code_source_event_2 hrec_code_source_event_2 depth n13 b b2 b n17 l n15 n16 _ h8)
      obtain ⟨⟨b4, n22⟩, h9, h⟩ := bind_of h
      rcases cond_of h with ⟨h10, h⟩ | ⟨h10, h⟩
      · obtain ⟨⟨n23, n24, n25, n26, t2⟩, h11, h⟩ := bind_of h
        have q_11 := (code_source_event_C62_runs rec_code_source_event_2 hrec_code_source_event_2 depth n13 b b2 b2 n22 l n19 n20 n21 t _ h11)
        obtain ⟨b5, h12, h⟩ := bind_of h
        rcases cond_of h with ⟨h13, h⟩ | ⟨h13, h⟩
        · obtain ⟨b6, h14, h⟩ := bind_of h
          rcases cond_of h with ⟨h15, h⟩ | ⟨h15, h⟩
          · obtain ⟨_, h16, h⟩ := bind_of h
            obtain ⟨_, h17, h⟩ := bind_of h
            rcases cond_of h with ⟨h18, h⟩ | ⟨h18, h⟩
            · obtain ⟨b7, h19, h⟩ := bind_of h
              rcases cond_of h with ⟨h20, h⟩ | ⟨h20, h⟩
              · obtain ⟨b8, h21, h⟩ := bind_of h
                rcases cond_of h with ⟨h22, h⟩ | ⟨h22, h⟩
                · obtain ⟨n27, h23, h⟩ := bind_of h
                  have q_23 := (code_source_must_runs (!(decide ((n21 : Int) = n26))) n23 l n24 n25 _ h23)
                  obtain ⟨⟨b9, n28⟩, h24, h⟩ := bind_of h
                  rcases cond_of h with ⟨h25, h⟩ | ⟨h25, h⟩
                  · obtain ⟨⟨n29, t3, n30⟩, h26, h⟩ := bind_of h
                    have h := some_of h
                    subst h
                    have t_ := tR (code_source_bit_runs 1 n l n2 n3 _ h1) <| tF h2 <| tL q_3 <| tR (code_source_bit_runs 2 n8 l n6 n7 _ h4) <| tL q_5 <| tR (code_source_ok_runs n14 l n15 n16 _ h6) <| tT h7 <| tL q_8 <| tR (code_source_ok_runs n18 l n19 n20 _ h9) <| tT h10 <| tL q_11 <| tR (code_zero_runs n21 t _ h12) <| tT h13 <| tR (code_zero_runs n26 t2 _ h14) <| tT h15 <| tR (event_Event_Base_runs n21 t _ h16) <| tR (event_Event_Base_runs n21 t _ h16) <| tR (event_Event_Base_runs n26 t2 _ h17) <| tT h18 <| tR (event_Event_IsLeaf_runs n21 t _ h19) <| tT h20 <| tR (event_Event_IsLeaf_runs n26 t2 _ h21) <| tT h22 <| tR (event_Event_Base_runs n21 t _ h16) <| tR (event_Event_Base_runs n21 t _ h16) <| tR (event_Event_Base_runs n26 t2 _ h17) <| tR q_23 <| tR (code_source_ok_runs n27 l n24 n25 _ h24) <| tF (not_of2 h25) <| tR (code_source_node_runs N n13 n21 t n26 t2 n28 l n24 n25 _ h26) <| tN
                    exact runs_of (C := cfg) (objs := [[(.ref 1 0), (.pv (.int .i64 n))], [(.pv (.ints .u8 l false)), (.pv (.int .i64 n2)), (.pv (.int .i64 n3))]]) (sc := t_.ev) (.k1 t_.pf (by kernel_rfl) (by kernel_rfl))
                  · have h := some_of h
                    subst h
                    have t_ := tR (code_source_bit_runs 1 n l n2 n3 _ h1) <| tF h2 <| tL q_3 <| tR (code_source_bit_runs 2 n8 l n6 n7 _ h4) <| tL q_5 <| tR (code_source_ok_runs n14 l n15 n16 _ h6) <| tT h7 <| tL q_8 <| tR (code_source_ok_runs n18 l n19 n20 _ h9) <| tT h10 <| tL q_11 <| tR (code_zero_runs n21 t _ h12) <| tT h13 <| tR (code_zero_runs n26 t2 _ h14) <| tT h15 <| tR (event_Event_Base_runs n21 t _ h16) <| tR (event_Event_Base_runs n21 t _ h16) <| tR (event_Event_Base_runs n26 t2 _ h17) <| tT h18 <| tR (event_Event_IsLeaf_runs n21 t _ h19) <| tT h20 <| tR (event_Event_IsLeaf_runs n26 t2 _ h21) <| tT h22 <| tR (event_Event_Base_runs n21 t _ h16) <| tR (event_Event_Base_runs n21 t _ h16) <| tR (event_Event_Base_runs n26 t2 _ h17) <| tR q_23 <| tR (code_source_ok_runs n27 l n24 n25 _ h24) <| tT (not_of h25) <| tN
                    have e_ : Runs Tryd.prog 124 [(.one (.ref 0 0)), (.one (.pv (.int .i64 depth)))] [[(.ref 1 0), (.pv (.int .i64 n))], [(.pv (.ints .u8 l false)), (.pv (.int .i64 n2)), (.pv (.int .i64 n3))]] [] ([(.agg [(.pv (.int .u64 0)), (.pv .nilp)])], [[(.ref 1 0), (.pv (.int .i64 n28))], [(.pv (.ints .u8 l false)), (.pv (.int .i64 n24)), (.pv (.int .i64 n25))]], []) := runs_of (C := cfg) (objs := [[(.ref 1 0), (.pv (.int .i64 n))], [(.pv (.ints .u8 l false)), (.pv (.int .i64 n2)), (.pv (.int .i64 n3))]]) (sc := t_.ev) (.k1 t_.pf (by kernel_rfl) (by kernel_rfl))
                    exact e_.out ⟨⟨.eq rfl, .eq rfl, trivial⟩, trivial⟩ ⟨⟨.eq rfl, .eq rfl, trivial⟩, ⟨.eq rfl, .eq rfl, .eq rfl, trivial⟩, trivial⟩ trivial rfl
                · obtain ⟨n27, h23, h⟩ := bind_of h
                  have q_23 := (code_source_must_runs true n23 l n24 n25 _ h23)
                  obtain ⟨⟨b9, n28⟩, h24, h⟩ := bind_of h
                  rcases cond_of h with ⟨h25, h⟩ | ⟨h25, h⟩
                  · obtain ⟨⟨n29, t3, n30⟩, h26, h⟩ := bind_of h
                    have h := some_of h
                    subst h
                    have t_ := tR (code_source_bit_runs 1 n l n2 n3 _ h1) <| tF h2 <| tL q_3 <| tR (code_source_bit_runs 2 n8 l n6 n7 _ h4) <| tL q_5 <| tR (code_source_ok_runs n14 l n15 n16 _ h6) <| tT h7 <| tL q_8 <| tR (code_source_ok_runs n18 l n19 n20 _ h9) <| tT h10 <| tL q_11 <| tR (code_zero_runs n21 t _ h12) <| tT h13 <| tR (code_zero_runs n26 t2 _ h14) <| tT h15 <| tR (event_Event_Base_runs n21 t _ h16) <| tR (event_Event_Base_runs n21 t _ h16) <| tR (event_Event_Base_runs n26 t2 _ h17) <| tT h18 <| tR (event_Event_IsLeaf_runs n21 t _ h19) <| tT h20 <| tR (event_Event_IsLeaf_runs n26 t2 _ h21) <| tF h22 <| tR q_23 <| tR (code_source_ok_runs n27 l n24 n25 _ h24) <| tF (not_of2 h25) <| tR (code_source_node_runs N n13 n21 t n26 t2 n28 l n24 n25 _ h26) <| tN
                    exact runs_of (C := cfg) (objs := [[(.ref 1 0), (.pv (.int .i64 n))], [(.pv (.ints .u8 l false)), (.pv (.int .i64 n2)), (.pv (.int .i64 n3))]]) (sc := t_.ev) (.k1 t_.pf (by kernel_rfl) (by kernel_rfl))
                  · have h := some_of h
                    subst h
                    have t_ := tR (code_source_bit_runs 1 n l n2 n3 _ h1) <| tF h2 <| tL q_3 <| tR (code_source_bit_runs 2 n8 l n6 n7 _ h4) <| tL q_5 <| tR (code_source_ok_runs n14 l n15 n16 _ h6) <| tT h7 <| tL q_8 <| tR (code_source_ok_runs n18 l n19 n20 _ h9) <| tT h10 <| tL q_11 <| tR (code_zero_runs n21 t _ h12) <| tT h13 <| tR (code_zero_runs n26 t2 _ h14) <| tT h15 <| tR (event_Event_Base_runs n21 t _ h16) <| tR (event_Event_Base_runs n21 t _ h16) <| tR (event_Event_Base_runs n26 t2 _ h17) <| tT h18 <| tR (event_Event_IsLeaf_runs n21 t _ h19) <| tT h20 <| tR (event_Event_IsLeaf_runs n26 t2 _ h21) <| tF h22 <| tR q_23 <| tR (code_source_ok_runs n27 l n24 n25 _ h24) <| tT (not_of h25) <| tN
                    have e_ : Runs Tryd.prog 124 [(.one (.ref 0 0)), (.one (.pv (.int .i64 depth)))] [[(.ref 1 0), (.pv (.int .i64 n))], [(.pv (.ints .u8 l false)), (.pv (.int .i64 n2)), (.pv (.int .i64 n3))]] [] ([(.agg [(.pv (.int .u64 0)), (.pv .nilp)])], [[(.ref 1 0), (.pv (.int .i64 n28))], [(.pv (.ints .u8 l false)), (.pv (.int .i64 n24)), (.pv (.int .i64 n25))]], []) := runs_of (C := cfg) (objs := [[(.ref 1 0), (.pv (.int .i64 n))], [(.pv (.ints .u8 l false)), (.pv (.int .i64 n2)), (.pv (.int .i64 n3))]]) (sc := t_.ev) (.k1 t_.pf (by kernel_rfl) (by kernel_rfl))
                    exact e_.out ⟨⟨.eq rfl, .eq rfl, trivial⟩, trivial⟩ ⟨⟨.eq rfl, .eq rfl, trivial⟩, ⟨.eq rfl, .eq rfl, .eq rfl, trivial⟩, trivial⟩ trivial rfl
              · obtain ⟨n27, h21, h⟩ := bind_of h
                have q_21 := (code_source_must_runs true n23 l n24 n25 _ h21)
                obtain ⟨⟨b8, n28⟩, h22, h⟩ := bind_of h
                rcases cond_of h with ⟨h23, h⟩ | ⟨h23, h⟩
                · obtain ⟨⟨n29, t3, n30⟩, h24, h⟩ := bind_of h
                  have h := some_of h
                  subst h
                  have t_ := tR (code_source_bit_runs 1 n l n2 n3 _ h1) <| tF h2 <| tL q_3 <| tR (code_source_bit_runs 2 n8 l n6 n7 _ h4) <| tL q_5 <| tR (code_source_ok_runs n14 l n15 n16 _ h6) <| tT h7 <| tL q_8 <| tR (code_source_ok_runs n18 l n19 n20 _ h9) <| tT h10 <| tL q_11 <| tR (code_zero_runs n21 t _ h12) <| tT h13 <| tR (code_zero_runs n26 t2 _ h14) <| tT h15 <| tR (event_Event_Base_runs n21 t _ h16) <| tR (event_Event_Base_runs n21 t _ h16) <| tR (event_Event_Base_runs n26 t2 _ h17) <| tT h18 <| tR (event_Event_IsLeaf_runs n21 t _ h19) <| tF h20 <| tF (rfl : false = false) <| tR q_21 <| tR (code_source_ok_runs n27 l n24 n25 _ h22) <| tF (not_of2 h23) <| tR (code_source_node_runs N n13 n21 t n26 t2 n28 l n24 n25 _ h24) <| tN
                  exact runs_of (C := cfg) (objs := [[(.ref 1 0), (.pv (.int .i64 n))], [(.pv (.ints .u8 l false)), (.pv (.int .i64 n2)), (.pv (.int .i64 n3))]]) (sc := t_.ev) (.k1 t_.pf (by kernel_rfl) (by kernel_rfl))
                · have h := some_of h
                  subst h
                  have t_ := tR (code_source_bit_runs 1 n l n2 n3 _ h1) <| tF h2 <| tL q_3 <| tR (code_source_bit_runs 2 n8 l n6 n7 _ h4) <| tL q_5 <| tR (code_source_ok_runs n14 l n15 n16 _ h6) <| tT h7 <| tL q_8 <| tR (code_source_ok_runs n18 l n19 n20 _ h9) <| tT h10 <| tL q_11 <| tR (code_zero_runs n21 t _ h12) <| tT h13 <| tR (code_zero_runs n26 t2 _ h14) <| tT h15 <| tR (event_Event_Base_runs n21 t _ h16) <| tR (event_Event_Base_runs n21 t _ h16) <| tR (event_Event_Base_runs n26 t2 _ h17) <| tT h18 <| tR (event_Event_IsLeaf_runs n21 t _ h19) <| tF h20 <| tF (rfl : false = false) <| tR q_21 <| tR (code_source_ok_runs n27 l n24 n25 _ h22) <| tT (not_of h23) <| tN
                  have e_ : Runs Tryd.prog 124 [(.one (.ref 0 0)), (.one (.pv (.int .i64 depth)))] [[(.ref 1 0), (.pv (.int .i64 n))], [(.pv (.ints .u8 l false)), (.pv (.int .i64 n2)), (.pv (.int .i64 n3))]] [] ([(.agg [(.pv (.int .u64 0)), (.pv .nilp)])], [[(.ref 1 0), (.pv (.int .i64 n28))], [(.pv (.ints .u8 l false)), (.pv (.int .i64 n24)), (.pv (.int .i64 n25))]], []) := runs_of (C := cfg) (objs := [[(.ref 1 0), (.pv (.int .i64 n))], [(.pv (.ints .u8 l false)), (.pv (.int .i64 n2)), (.pv (.int .i64 n3))]]) (sc := t_.ev) (.k1 t_.pf (by kernel_rfl) (by kernel_rfl))
                  exact e_.out ⟨⟨.eq rfl, .eq rfl, trivial⟩, trivial⟩ ⟨⟨.eq rfl, .eq rfl, trivial⟩, ⟨.eq rfl, .eq rfl, .eq rfl, trivial⟩, trivial⟩ trivial rfl
            · obtain ⟨n27, h19, h⟩ := bind_of h
              have q_19 := (code_source_must_runs false n23 l n24 n25 _ h19)
              obtain ⟨⟨b7, n28⟩, h20, h⟩ := bind_of h
              rcases cond_of h with ⟨h21, h⟩ | ⟨h21, h⟩
              · obtain ⟨⟨n29, t3, n30⟩, h22, h⟩ := bind_of h
                have h := some_of h
                subst h
                have t_ := tR (code_source_bit_runs 1 n l n2 n3 _ h1) <| tF h2 <| tL q_3 <| tR (code_source_bit_runs 2 n8 l n6 n7 _ h4) <| tL q_5 <| tR (code_source_ok_runs n14 l n15 n16 _ h6) <| tT h7 <| tL q_8 <| tR (code_source_ok_runs n18 l n19 n20 _ h9) <| tT h10 <| tL q_11 <| tR (code_zero_runs n21 t _ h12) <| tT h13 <| tR (code_zero_runs n26 t2 _ h14) <| tT h15 <| tR (event_Event_Base_runs n21 t _ h16) <| tR (event_Event_Base_runs n21 t _ h16) <| tR (event_Event_Base_runs n26 t2 _ h17) <| tF h18 <| tR q_19 <| tR (code_source_ok_runs n27 l n24 n25 _ h20) <| tF (not_of2 h21) <| tR (code_source_node_runs N n13 n21 t n26 t2 n28 l n24 n25 _ h22) <| tN
                exact runs_of (C := cfg) (objs := [[(.ref 1 0), (.pv (.int .i64 n))], [(.pv (.ints .u8 l false)), (.pv (.int .i64 n2)), (.pv (.int .i64 n3))]]) (sc := t_.ev) (.k1 t_.pf (by kernel_rfl) (by kernel_rfl))
              · have h := some_of h
                subst h
                have t_ := tR (code_source_bit_runs 1 n l n2 n3 _ h1) <| tF h2 <| tL q_3 <| tR (code_source_bit_runs 2 n8 l n6 n7 _ h4) <| tL q_5 <| tR (code_source_ok_runs n14 l n15 n16 _ h6) <| tT h7 <| tL q_8 <| tR (code_source_ok_runs n18 l n19 n20 _ h9) <| tT h10 <| tL q_11 <| tR (code_zero_runs n21 t _ h12) <| tT h13 <| tR (code_zero_runs n26 t2 _ h14) <| tT h15 <| tR (event_Event_Base_runs n21 t _ h16) <| tR (event_Event_Base_runs n21 t _ h16) <| tR (event_Event_Base_runs n26 t2 _ h17) <| tF h18 <| tR q_19 <| tR (code_source_ok_runs n27 l n24 n25 _ h20) <| tT (not_of h21) <| tN
                have e_ : Runs Tryd.prog 124 [(.one (.ref 0 0)), (.one (.pv (.int .i64 depth)))] [[(.ref 1 0), (.pv (.int .i64 n))], [(.pv (.ints .u8 l false)), (.pv (.int .i64 n2)), (.pv (.int .i64 n3))]] [] ([(.agg [(.pv (.int .u64 0)), (.pv .nilp)])], [[(.ref 1 0), (.pv (.int .i64 n28))], [(.pv (.ints .u8 l false)), (.pv (.int .i64 n24)), (.pv (.int .i64 n25))]], []) := runs_of (C := cfg) (objs := [[(.ref 1 0), (.pv (.int .i64 n))], [(.pv (.ints .u8 l false)), (.pv (.int .i64 n2)), (.pv (.int .i64 n3))]]) (sc := t_.ev) (.k1 t_.pf (by kernel_rfl) (by kernel_rfl))
                exact e_.out ⟨⟨.eq rfl, .eq rfl, trivial⟩, trivial⟩ ⟨⟨.eq rfl, .eq rfl, trivial⟩, ⟨.eq rfl, .eq rfl, .eq rfl, trivial⟩, trivial⟩ trivial rfl
          · obtain ⟨n27, h16, h⟩ := bind_of h
            have q_16 := (code_source_must_runs false n23 l n24 n25 _ h16)
            obtain ⟨⟨b7, n28⟩, h17, h⟩ := bind_of h
            rcases cond_of h with ⟨h18, h⟩ | ⟨h18, h⟩
            · obtain ⟨⟨n29, t3, n30⟩, h19, h⟩ := bind_of h
              have h := some_of h
              subst h
              have t_ := tR (code_source_bit_runs 1 n l n2 n3 _ h1) <| tF h2 <| tL q_3 <| tR (code_source_bit_runs 2 n8 l n6 n7 _ h4) <| tL q_5 <| tR (code_source_ok_runs n14 l n15 n16 _ h6) <| tT h7 <| tL q_8 <| tR (code_source_ok_runs n18 l n19 n20 _ h9) <| tT h10 <| tL q_11 <| tR (code_zero_runs n21 t _ h12) <| tT h13 <| tR (code_zero_runs n26 t2 _ h14) <| tF h15 <| tF (rfl : false = false) <| tR q_16 <| tR (code_source_ok_runs n27 l n24 n25 _ h17) <| tF (not_of2 h18) <| tR (code_source_node_runs N n13 n21 t n26 t2 n28 l n24 n25 _ h19) <| tN
              exact runs_of (C := cfg) (objs := [[(.ref 1 0), (.pv (.int .i64 n))], [(.pv (.ints .u8 l false)), (.pv (.int .i64 n2)), (.pv (.int .i64 n3))]]) (sc := t_.ev) (.k1 t_.pf (by kernel_rfl) (by kernel_rfl))
            · have h := some_of h
              subst h
              have t_ := tR (code_source_bit_runs 1 n l n2 n3 _ h1) <| tF h2 <| tL q_3 <| tR (code_source_bit_runs 2 n8 l n6 n7 _ h4) <| tL q_5 <| tR (code_source_ok_runs n14 l n15 n16 _ h6) <| tT h7 <| tL q_8 <| tR (code_source_ok_runs n18 l n19 n20 _ h9) <| tT h10 <| tL q_11 <| tR (code_zero_runs n21 t _ h12) <| tT h13 <| tR (code_zero_runs n26 t2 _ h14) <| tF h15 <| tF (rfl : false = false) <| tR q_16 <| tR (code_source_ok_runs n27 l n24 n25 _ h17) <| tT (not_of h18) <| tN
              have e_ : Runs Tryd.prog 124 [(.one (.ref 0 0)), (.one (.pv (.int .i64 depth)))] [[(.ref 1 0), (.pv (.int .i64 n))], [(.pv (.ints .u8 l false)), (.pv (.int .i64 n2)), (.pv (.int .i64 n3))]] [] ([(.agg [(.pv (.int .u64 0)), (.pv .nilp)])], [[(.ref 1 0), (.pv (.int .i64 n28))], [(.pv (.ints .u8 l false)), (.pv (.int .i64 n24)), (.pv (.int .i64 n25))]], []) := runs_of (C := cfg) (objs := [[(.ref 1 0), (.pv (.int .i64 n))], [(.pv (.ints .u8 l false)), (.pv (.int .i64 n2)), (.pv (.int .i64 n3))]]) (sc := t_.ev) (.k1 t_.pf (by kernel_rfl) (by kernel_rfl))
              exact e_.out ⟨⟨.eq rfl, .eq rfl, trivial⟩, trivial⟩ ⟨⟨.eq rfl, .eq rfl, trivial⟩, ⟨.eq rfl, .eq rfl, .eq rfl, trivial⟩, trivial⟩ trivial rfl
        · obtain ⟨n27, h14, h⟩ := bind_of h
          have q_14 := (code_source_must_runs false n23 l n24 n25 _ h14)
          obtain ⟨⟨b6, n28⟩, h15, h⟩ := bind_of h
          rcases cond_of h with ⟨h16, h⟩ | ⟨h16, h⟩
          · obtain ⟨⟨n29, t3, n30⟩, h17, h⟩ := bind_of h
            have h := some_of h
            subst h
            have t_ := tR (code_source_bit_runs 1 n l n2 n3 _ h1) <| tF h2 <| tL q_3 <| tR (code_source_bit_runs 2 n8 l n6 n7 _ h4) <| tL q_5 <| tR (code_source_ok_runs n14 l n15 n16 _ h6) <| tT h7 <| tL q_8 <| tR (code_source_ok_runs n18 l n19 n20 _ h9) <| tT h10 <| tL q_11 <| tR (code_zero_runs n21 t _ h12) <| tF h13 <| tF (rfl : false = false) <| tF (rfl : false = false) <| tR q_14 <| tR (code_source_ok_runs n27 l n24 n25 _ h15) <| tF (not_of2 h16) <| tR (code_source_node_runs N n13 n21 t n26 t2 n28 l n24 n25 _ h17) <| tN
            exact runs_of (C := cfg) (objs := [[(.ref 1 0), (.pv (.int .i64 n))], [(.pv (.ints .u8 l false)), (.pv (.int .i64 n2)), (.pv (.int .i64 n3))]]) (sc := t_.ev) (.k1 t_.pf (by kernel_rfl) (by kernel_rfl))
          · have h := some_of h
            subst h
            have t_ := tR (code_source_bit_runs 1 n l n2 n3 _ h1) <| tF h2 <| tL q_3 <| tR (code_source_bit_runs 2 n8 l n6 n7 _ h4) <| tL q_5 <| tR (code_source_ok_runs n14 l n15 n16 _ h6) <| tT h7 <| tL q_8 <| tR (code_source_ok_runs n18 l n19 n20 _ h9) <| tT h10 <| tL q_11 <| tR (code_zero_runs n21 t _ h12) <| tF h13 <| tF (rfl : false = false) <| tF (rfl : false = false) <| tR q_14 <| tR (code_source_ok_runs n27 l n24 n25 _ h15) <| tT (not_of h16) <| tN
            have e_ : Runs Tryd.prog 124 [(.one (.ref 0 0)), (.one (.pv (.int .i64 depth)))] [[(.ref 1 0), (.pv (.int .i64 n))], [(.pv (.ints .u8 l false)), (.pv (.int .i64 n2)), (.pv (.int .i64 n3))]] [] ([(.agg [(.pv (.int .u64 0)), (.pv .nilp)])], [[(.ref 1 0), (.pv (.int .i64 n28))], [(.pv (.ints .u8 l false)), (.pv (.int .i64 n24)), (.pv (.int .i64 n25))]], []) := runs_of (C := cfg) (objs := [[(.ref 1 0), (.pv (.int .i64 n))], [(.pv (.ints .u8 l false)), (.pv (.int .i64 n2)), (.pv (.int .i64 n3))]]) (sc := t_.ev) (.k1 t_.pf (by kernel_rfl) (by kernel_rfl))
            exact e_.out ⟨⟨.eq rfl, .eq rfl, trivial⟩, trivial⟩ ⟨⟨.eq rfl, .eq rfl, trivial⟩, ⟨.eq rfl, .eq rfl, .eq rfl, trivial⟩, trivial⟩ trivial rfl
      · obtain ⟨b5, h11, h⟩ := bind_of h
        rcases cond_of h with ⟨h12, h⟩ | ⟨h12, h⟩
        · obtain ⟨b6, h13, h⟩ := bind_of h
          rcases cond_of h with ⟨h14, h⟩ | ⟨h14, h⟩
          · obtain ⟨_, h15, h⟩ := bind_of h
            obtain ⟨_, h16, h⟩ := bind_of h
            have q_16 := (event_Event_Base_runs 0 T_event_halves.nil _ h16)
            rcases cond_of h with ⟨h17, h⟩ | ⟨h17, h⟩
            · obtain ⟨b7, h18, h⟩ := bind_of h
              rcases cond_of h with ⟨h19, h⟩ | ⟨h19, h⟩
              · obtain ⟨b8, h20, h⟩ := bind_of h
                have q_20 := (event_Event_IsLeaf_runs 0 T_event_halves.nil _ h20)
                rcases cond_of h with ⟨h21, h⟩ | ⟨h21, h⟩
                · obtain ⟨n23, h22, h⟩ := bind_of h
                  have q_22 := (code_source_must_runs (!(decide ((n21 : Int) = 0))) n22 l n19 n20 _ h22)
                  obtain ⟨⟨b9, n24⟩, h23, h⟩ := bind_of h
                  rcases cond_of h with ⟨h24, h⟩ | ⟨h24, h⟩
                  · obtain ⟨⟨n25, t2, n26⟩, h25, h⟩ := bind_of h
                    have h := some_of h
                    subst h
                    have t_ := tR (code_source_bit_runs 1 n l n2 n3 _ h1) <| tF h2 <| tL q_3 <| tR (code_source_bit_runs 2 n8 l n6 n7 _ h4) <| tL q_5 <| tR (code_source_ok_runs n14 l n15 n16 _ h6) <| tT h7 <| tL q_8 <| tR (code_source_ok_runs n18 l n19 n20 _ h9) <| tF h10 <| tF (rfl : false = false) <| tR (code_zero_runs n21 t _ h11) <| tT h12 <| tR (code_zero_runs 0 T_event_halves.nil _ h13) <| tT h14 <| tR (event_Event_Base_runs n21 t _ h15) <| tR (event_Event_Base_runs n21 t _ h15) <| tR q_16 <| tT h17 <| tR (event_Event_IsLeaf_runs n21 t _ h18) <| tT h19 <| tR q_20 <| tT h21 <| tR (event_Event_Base_runs n21 t _ h15) <| tR (event_Event_Base_runs n21 t _ h15) <| tR q_16 <| tR q_22 <| tR (code_source_ok_runs n23 l n19 n20 _ h23) <| tF (not_of2 h24) <| tR (code_source_node_runs N n13 n21 t 0 T_event_halves.nil n24 l n19 n20 _ h25) <| tN
                    exact runs_of (C := cfg) (objs := [[(.ref 1 0), (.pv (.int .i64 n))], [(.pv (.ints .u8 l false)), (.pv (.int .i64 n2)), (.pv (.int .i64 n3))]]) (sc := t_.ev) (.k1 t_.pf (by kernel_rfl) (by kernel_rfl))
                  · have h := some_of h
                    subst h
                    have t_ := tR (code_source_bit_runs 1 n l n2 n3 _ h1) <| tF h2 <| tL q_3 <| tR (code_source_bit_runs 2 n8 l n6 n7 _ h4) <| tL q_5 <| tR (code_source_ok_runs n14 l n15 n16 _ h6) <| tT h7 <| tL q_8 <| tR (code_source_ok_runs n18 l n19 n20 _ h9) <| tF h10 <| tF (rfl : false = false) <| tR (code_zero_runs n21 t _ h11) <| tT h12 <| tR (code_zero_runs 0 T_event_halves.nil _ h13) <| tT h14 <| tR (event_Event_Base_runs n21 t _ h15) <| tR (event_Event_Base_runs n21 t _ h15) <| tR q_16 <| tT h17 <| tR (event_Event_IsLeaf_runs n21 t _ h18) <| tT h19 <| tR q_20 <| tT h21 <| tR (event_Event_Base_runs n21 t _ h15) <| tR (event_Event_Base_runs n21 t _ h15) <| tR q_16 <| tR q_22 <| tR (code_source_ok_runs n23 l n19 n20 _ h23) <| tT (not_of h24) <| tN
                    have e_ : Runs Tryd.prog 124 [(.one (.ref 0 0)), (.one (.pv (.int .i64 depth)))] [[(.ref 1 0), (.pv (.int .i64 n))], [(.pv (.ints .u8 l false)), (.pv (.int .i64 n2)), (.pv (.int .i64 n3))]] [] ([(.agg [(.pv (.int .u64 0)), (.pv .nilp)])], [[(.ref 1 0), (.pv (.int .i64 n24))], [(.pv (.ints .u8 l false)), (.pv (.int .i64 n19)), (.pv (.int .i64 n20))]], []) := runs_of (C := cfg) (objs := [[(.ref 1 0), (.pv (.int .i64 n))], [(.pv (.ints .u8 l false)), (.pv (.int .i64 n2)), (.pv (.int .i64 n3))]]) (sc := t_.ev) (.k1 t_.pf (by kernel_rfl) (by kernel_rfl))
                    exact e_.out ⟨⟨.eq rfl, .eq rfl, trivial⟩, trivial⟩ ⟨⟨.eq rfl, .eq rfl, trivial⟩, ⟨.eq rfl, .eq rfl, .eq rfl, trivial⟩, trivial⟩ trivial rfl
                · obtain ⟨n23, h22, h⟩ := bind_of h
                  have q_22 := (code_source_must_runs true n22 l n19 n20 _ h22)
                  obtain ⟨⟨b9, n24⟩, h23, h⟩ := bind_of h
                  rcases cond_of h with ⟨h24, h⟩ | ⟨h24, h⟩
                  · obtain ⟨⟨n25, t2, n26⟩, h25, h⟩ := bind_of h
                    have h := some_of h
                    subst h
                    have t_ := tR (code_source_bit_runs 1 n l n2 n3 _ h1) <| tF h2 <| tL q_3 <| tR (code_source_bit_runs 2 n8 l n6 n7 _ h4) <| tL q_5 <| tR (code_source_ok_runs n14 l n15 n16 _ h6) <| tT h7 <| tL q_8 <| tR (code_source_ok_runs n18 l n19 n20 _ h9) <| tF h10 <| tF (rfl : false = false) <| tR (code_zero_runs n21 t _ h11) <| tT h12 <| tR (code_zero_runs 0 T_event_halves.nil _ h13) <| tT h14 <| tR (event_Event_Base_runs n21 t _ h15) <| tR (event_Event_Base_runs n21 t _ h15) <| tR q_16 <| tT h17 <| tR (event_Event_IsLeaf_runs n21 t _ h18) <| tT h19 <| tR q_20 <| tF h21 <| tR q_22 <| tR (code_source_ok_runs n23 l n19 n20 _ h23) <| tF (not_of2 h24) <| tR (code_source_node_runs N n13 n21 t 0 T_event_halves.nil n24 l n19 n20 _ h25) <| tN
                    exact runs_of (C := cfg) (objs := [[(.ref 1 0), (.pv (.int .i64 n))], [(.pv (.ints .u8 l false)), (.pv (.int .i64 n2)), (.pv (.int .i64 n3))]]) (sc := t_.ev) (.k1 t_.pf (by kernel_rfl) (by kernel_rfl))
                  · have h := some_of h
                    subst h
                    have t_ := tR (code_source_bit_runs 1 n l n2 n3 _ h1) <| tF h2 <| tL q_3 <| tR (code_source_bit_runs 2 n8 l n6 n7 _ h4) <| tL q_5 <| tR (code_source_ok_runs n14 l n15 n16 _ h6) <| tT h7 <| tL q_8 <| tR (code_source_ok_runs n18 l n19 n20 _ h9) <| tF h10 <| tF (rfl : false = false) <| tR (code_zero_runs n21 t _ h11) <| tT h12 <| tR (code_zero_runs 0 T_event_halves.nil _ h13) <| tT h14 <| tR (event_Event_Base_runs n21 t _ h15) <| tR (event_Event_Base_runs n21 t _ h15) <| tR q_16 <| tT h17 <| tR (event_Event_IsLeaf_runs n21 t _ h18) <| tT h19 <| tR q_20 <| tF h21 <| tR q_22 <| tR (code_source_ok_runs n23 l n19 n20 _ h23) <| tT (not_of h24) <| tN
                    have e_ : Runs Tryd.prog 124 [(.one (.ref 0 0)), (.one (.pv (.int .i64 depth)))] [[(.ref 1 0), (.pv (.int .i64 n))], [(.pv (.ints .u8 l false)), (.pv (.int .i64 n2)), (.pv (.int .i64 n3))]] [] ([(.agg [(.pv (.int .u64 0)), (.pv .nilp)])], [[(.ref 1 0), (.pv (.int .i64 n24))], [(.pv (.ints .u8 l false)), (.pv (.int .i64 n19)), (.pv (.int .i64 n20))]], []) := runs_of (C := cfg) (objs := [[(.ref 1 0), (.pv (.int .i64 n))], [(.pv (.ints .u8 l false)), (.pv (.int .i64 n2)), (.pv (.int .i64 n3))]]) (sc := t_.ev) (.k1 t_.pf (by kernel_rfl) (by kernel_rfl))
                    exact e_.out ⟨⟨.eq rfl, .eq rfl, trivial⟩, trivial⟩ ⟨⟨.eq rfl, .eq rfl, trivial⟩, ⟨.eq rfl, .eq rfl, .eq rfl, trivial⟩, trivial⟩ trivial rfl
              · obtain ⟨n23, h20, h⟩ := bind_of h
                have q_20 := (code_source_must_runs true n22 l n19 n20 _ h20)
                obtain ⟨⟨b8, n24⟩, h21, h⟩ := bind_of h
                rcases cond_of h with ⟨h22, h⟩ | ⟨h22, h⟩
                · obtain ⟨⟨n25, t2, n26⟩, h23, h⟩ := bind_of h
                  have h := some_of h
                  subst h
                  have t_ := tR (code_source_bit_runs 1 n l n2 n3 _ h1) <| tF h2 <| tL q_3 <| tR (code_source_bit_runs 2 n8 l n6 n7 _ h4) <| tL q_5 <| tR (code_source_ok_runs n14 l n15 n16 _ h6) <| tT h7 <| tL q_8 <| tR (code_source_ok_runs n18 l n19 n20 _ h9) <| tF h10 <| tF (rfl : false = false) <| tR (code_zero_runs n21 t _ h11) <| tT h12 <| tR (code_zero_runs 0 T_event_halves.nil _ h13) <| tT h14 <| tR (event_Event_Base_runs n21 t _ h15) <| tR (event_Event_Base_runs n21 t _ h15) <| tR q_16 <| tT h17 <| tR (event_Event_IsLeaf_runs n21 t _ h18) <| tF h19 <| tF (rfl : false = false) <| tR q_20 <| tR (code_source_ok_runs n23 l n19 n20 _ h21) <| tF (not_of2 h22) <| tR (code_source_node_runs N n13 n21 t 0 T_event_halves.nil n24 l n19 n20 _ h23) <| tN
                  exact runs_of (C := cfg) (objs := [[(.ref 1 0), (.pv (.int .i64 n))], [(.pv (.ints .u8 l false)), (.pv (.int .i64 n2)), (.pv (.int .i64 n3))]]) (sc := t_.ev) (.k1 t_.pf (by kernel_rfl) (by kernel_rfl))
                · have h := some_of h
                  subst h
                  have t_ := tR (code_source_bit_runs 1 n l n2 n3 _ h1) <| tF h2 <| tL q_3 <| tR (code_source_bit_runs 2 n8 l n6 n7 _ h4) <| tL q_5 <| tR (code_source_ok_runs n14 l n15 n16 _ h6) <| tT h7 <| tL q_8 <| tR (code_source_ok_runs n18 l n19 n20 _ h9) <| tF h10 <| tF (rfl : false = false) <| tR (code_zero_runs n21 t _ h11) <| tT h12 <| tR (code_zero_runs 0 T_event_halves.nil _ h13) <| tT h14 <| tR (event_Event_Base_runs n21 t _ h15) <| tR (event_Event_Base_runs n21 t _ h15) <| tR q_16 <| tT h17 <| tR (event_Event_IsLeaf_runs n21 t _ h18) <| tF h19 <| tF (rfl : false = false) <| tR q_20 <| tR (code_source_ok_runs n23 l n19 n20 _ h21) <| tT (not_of h22) <| tN
                  have e_ : Runs Tryd.prog 124 [(.one (.ref 0 0)), (.one (.pv (.int .i64 depth)))] [[(.ref 1 0), (.pv (.int .i64 n))], [(.pv (.ints .u8 l false)), (.pv (.int .i64 n2)), (.pv (.int .i64 n3))]] [] ([(.agg [(.pv (.int .u64 0)), (.pv .nilp)])], [[(.ref 1 0), (.pv (.int .i64 n24))], [(.pv (.ints .u8 l false)), (.pv (.int .i64 n19)), (.pv (.int .i64 n20))]], []) := runs_of (C := cfg) (objs := [[(.ref 1 0), (.pv (.int .i64 n))], [(.pv (.ints .u8 l false)), (.pv (.int .i64 n2)), (.pv (.int .i64 n3))]]) (sc := t_.ev) (.k1 t_.pf (by kernel_rfl) (by kernel_rfl))
                  exact e_.out ⟨⟨.eq rfl, .eq rfl, trivial⟩, trivial⟩ ⟨⟨.eq rfl, .eq rfl, trivial⟩, ⟨.eq rfl, .eq rfl, .eq rfl, trivial⟩, trivial⟩ trivial rfl
            · obtain ⟨n23, h18, h⟩ := bind_of h
              have q_18 := (code_source_must_runs false n22 l n19 n20 _ h18)
              obtain ⟨⟨b7, n24⟩, h19, h⟩ := bind_of h
              rcases cond_of h with ⟨h20, h⟩ | ⟨h20, h⟩
              · obtain ⟨⟨n25, t2, n26⟩, h21, h⟩ := bind_of h
                have h := some_of h
                subst h
                have t_ := tR (code_source_bit_runs 1 n l n2 n3 _ h1) <| tF h2 <| tL q_3 <| tR (code_source_bit_runs 2 n8 l n6 n7 _ h4) <| tL q_5 <| tR (code_source_ok_runs n14 l n15 n16 _ h6) <| tT h7 <| tL q_8 <| tR (code_source_ok_runs n18 l n19 n20 _ h9) <| tF h10 <| tF (rfl : false = false) <| tR (code_zero_runs n21 t _ h11) <| tT h12 <| tR (code_zero_runs 0 T_event_halves.nil _ h13) <| tT h14 <| tR (event_Event_Base_runs n21 t _ h15) <| tR (event_Event_Base_runs n21 t _ h15) <| tR q_16 <| tF h17 <| tR q_18 <| tR (code_source_ok_runs n23 l n19 n20 _ h19) <| tF (not_of2 h20) <| tR (code_source_node_runs N n13 n21 t 0 T_event_halves.nil n24 l n19 n20 _ h21) <| tN
                exact runs_of (C := cfg) (objs := [[(.ref 1 0), (.pv (.int .i64 n))], [(.pv (.ints .u8 l false)), (.pv (.int .i64 n2)), (.pv (.int .i64 n3))]]) (sc := t_.ev) (.k1 t_.pf (by kernel_rfl) (by kernel_rfl))
              · have h := some_of h
                subst h
                have t_ := tR (code_source_bit_runs 1 n l n2 n3 _ h1) <| tF h2 <| tL q_3 <| tR (code_source_bit_runs 2 n8 l n6 n7 _ h4) <| tL q_5 <| tR (code_source_ok_runs n14 l n15 n16 _ h6) <| tT h7 <| tL q_8 <| tR (code_source_ok_runs n18 l n19 n20 _ h9) <| tF h10 <| tF (rfl : false = false) <| tR (code_zero_runs n21 t _ h11) <| tT h12 <| tR (code_zero_runs 0 T_event_halves.nil _ h13) <| tT h14 <| tR (event_Event_Base_runs n21 t _ h15) <| tR (event_Event_Base_runs n21 t _ h15) <| tR q_16 <| tF h17 <| tR q_18 <| tR (code_source_ok_runs n23 l n19 n20 _ h19) <| tT (not_of h20) <| tN
                have e_ : Runs Tryd.prog 124 [(.one (.ref 0 0)), (.one (.pv (.int .i64 depth)))] [[(.ref 1 0), (.pv (.int .i64 n))], [(.pv (.ints .u8 l false)), (.pv (.int .i64 n2)), (.pv (.int .i64 n3))]] [] ([(.agg [(.pv (.int .u64 0)), (.pv .nilp)])], [[(.ref 1 0), (.pv (.int .i64 n24))], [(.pv (.ints .u8 l false)), (.pv (.int .i64 n19)), (.pv (.int .i64 n20))]], []) := runs_of (C := cfg) (objs := [[(.ref 1 0), (.pv (.int .i64 n))], [(.pv (.ints .u8 l false)), (.pv (.int .i64 n2)), (.pv (.int .i64 n3))]]) (sc := t_.ev) (.k1 t_.pf (by kernel_rfl) (by kernel_rfl))
                exact e_.out ⟨⟨.eq rfl, .eq rfl, trivial⟩, trivial⟩ ⟨⟨.eq rfl, .eq rfl, trivial⟩, ⟨.eq rfl, .eq rfl, .eq rfl, trivial⟩, trivial⟩ trivial rfl
          · obtain ⟨n23, h15, h⟩ := bind_of h
            have q_15 := (code_source_must_runs false n22 l n19 n20 _ h15)
            obtain ⟨⟨b7, n24⟩, h16, h⟩ := bind_of h
            rcases cond_of h with ⟨h17, h⟩ | ⟨h17, h⟩
            · obtain ⟨⟨n25, t2, n26⟩, h18, h⟩ := bind_of h
              have h := some_of h
              subst h
              have t_ := tR (code_source_bit_runs 1 n l n2 n3 _ h1) <| tF h2 <| tL q_3 <| tR (code_source_bit_runs 2 n8 l n6 n7 _ h4) <| tL q_5 <| tR (code_source_ok_runs n14 l n15 n16 _ h6) <| tT h7 <| tL q_8 <| tR (code_source_ok_runs n18 l n19 n20 _ h9) <| tF h10 <| tF (rfl : false = false) <| tR (code_zero_runs n21 t _ h11) <| tT h12 <| tR (code_zero_runs 0 T_event_halves.nil _ h13) <| tF h14 <| tF (rfl : false = false) <| tR q_15 <| tR (code_source_ok_runs n23 l n19 n20 _ h16) <| tF (not_of2 h17) <| tR (code_source_node_runs N n13 n21 t 0 T_event_halves.nil n24 l n19 n20 _ h18) <| tN
              exact runs_of (C := cfg) (objs := [[(.ref 1 0), (.pv (.int .i64 n))], [(.pv (.ints .u8 l false)), (.pv (.int .i64 n2)), (.pv (.int .i64 n3))]]) (sc := t_.ev) (.k1 t_.pf (by kernel_rfl) (by kernel_rfl))
            · have h := some_of h
              subst h
              have t_ := tR (code_source_bit_runs 1 n l n2 n3 _ h1) <| tF h2 <| tL q_3 <| tR (code_source_bit_runs 2 n8 l n6 n7 _ h4) <| tL q_5 <| tR (code_source_ok_runs n14 l n15 n16 _ h6) <| tT h7 <| tL q_8 <| tR (code_source_ok_runs n18 l n19 n20 _ h9) <| tF h10 <| tF (rfl : false = false) <| tR (code_zero_runs n21 t _ h11) <| tT h12 <| tR (code_zero_runs 0 T_event_halves.nil _ h13) <| tF h14 <| tF (rfl : false = false) <| tR q_15 <| tR (code_source_ok_runs n23 l n19 n20 _ h16) <| tT (not_of h17) <| tN
              have e_ : Runs Tryd.prog 124 [(.one (.ref 0 0)), (.one (.pv (.int .i64 depth)))] [[(.ref 1 0), (.pv (.int .i64 n))], [(.pv (.ints .u8 l false)), (.pv (.int .i64 n2)), (.pv (.int .i64 n3))]] [] ([(.agg [(.pv (.int .u64 0)), (.pv .nilp)])], [[(.ref 1 0), (.pv (.int .i64 n24))], [(.pv (.ints .u8 l false)), (.pv (.int .i64 n19)), (.pv (.int .i64 n20))]], []) := runs_of (C := cfg) (objs := [[(.ref 1 0), (.pv (.int .i64 n))], [(.pv (.ints .u8 l false)), (.pv (.int .i64 n2)), (.pv (.int .i64 n3))]]) (sc := t_.ev) (.k1 t_.pf (by kernel_rfl) (by kernel_rfl))
              exact e_.out ⟨⟨.eq rfl, .eq rfl, trivial⟩, trivial⟩ ⟨⟨.eq rfl, .eq rfl, trivial⟩, ⟨.eq rfl, .eq rfl, .eq rfl, trivial⟩, trivial⟩ trivial rfl
        · obtain ⟨n23, h13, h⟩ := bind_of h
          have q_13 := (code_source_must_runs false n22 l n19 n20 _ h13)
          obtain ⟨⟨b6, n24⟩, h14, h⟩ := bind_of h
          rcases cond_of h with ⟨h15, h⟩ | ⟨h15, h⟩
          · obtain ⟨⟨n25, t2, n26⟩, h16, h⟩ := bind_of h
            have h := some_of h
            subst h
            have t_ := tR (code_source_bit_runs 1 n l n2 n3 _ h1) <| tF h2 <| tL q_3 <| tR (code_source_bit_runs 2 n8 l n6 n7 _ h4) <| tL q_5 <| tR (code_source_ok_runs n14 l n15 n16 _ h6) <| tT h7 <| tL q_8 <| tR (code_source_ok_runs n18 l n19 n20 _ h9) <| tF h10 <| tF (rfl : false = false) <| tR (code_zero_runs n21 t _ h11) <| tF h12 <| tF (rfl : false = false) <| tF (rfl : false = false) <| tR q_13 <| tR (code_source_ok_runs n23 l n19 n20 _ h14) <| tF (not_of2 h15) <| tR (code_source_node_runs N n13 n21 t 0 T_event_halves.nil n24 l n19 n20 _ h16) <| tN
            exact runs_of (C := cfg) (objs := [[(.ref 1 0), (.pv (.int .i64 n))], [(.pv (.ints .u8 l false)), (.pv (.int .i64 n2)), (.pv (.int .i64 n3))]]) (sc := t_.ev) (.k1 t_.pf (by kernel_rfl) (by kernel_rfl))
          · have h := some_of h
            subst h
            have t_ := tR (code_source_bit_runs 1 n l n2 n3 _ h1) <| tF h2 <| tL q_3 <| tR (code_source_bit_runs 2 n8 l n6 n7 _ h4) <| tL q_5 <| tR (code_source_ok_runs n14 l n15 n16 _ h6) <| tT h7 <| tL q_8 <| tR (code_source_ok_runs n18 l n19 n20 _ h9) <| tF h10 <| tF (rfl : false = false) <| tR (code_zero_runs n21 t _ h11) <| tF h12 <| tF (rfl : false = false) <| tF (rfl : false = false) <| tR q_13 <| tR (code_source_ok_runs n23 l n19 n20 _ h14) <| tT (not_of h15) <| tN
            have e_ : Runs Tryd.prog 124 [(.one (.ref 0 0)), (.one (.pv (.int .i64 depth)))] [[(.ref 1 0), (.pv (.int .i64 n))], [(.pv (.ints .u8 l false)), (.pv (.int .i64 n2)), (.pv (.int .i64 n3))]] [] ([(.agg [(.pv (.int .u64 0)), (.pv .nilp)])], [[(.ref 1 0), (.pv (.int .i64 n24))], [(.pv (.ints .u8 l false)), (.pv (.int .i64 n19)), (.pv (.int .i64 n20))]], []) := runs_of (C := cfg) (objs := [[(.ref 1 0), (.pv (.int .i64 n))], [(.pv (.ints .u8 l false)), (.pv (.int .i64 n2)), (.pv (.int .i64 n3))]]) (sc := t_.ev) (.k1 t_.pf (by kernel_rfl) (by kernel_rfl))
            exact e_.out ⟨⟨.eq rfl, .eq rfl, trivial⟩, trivial⟩ ⟨⟨.eq rfl, .eq rfl, trivial⟩, ⟨.eq rfl, .eq rfl, .eq rfl, trivial⟩, trivial⟩ trivial rfl
    · obtain ⟨⟨b4, n18⟩, h8, h⟩ := bind_of h
      rcases cond_of h with ⟨h9, h⟩ | ⟨h9, h⟩
      · obtain ⟨⟨n19, n20, n21, n22, t⟩, h10, h⟩ := bind_of h
        have q_10 := (code_source_event_C62_2_runs rec_code_source_event_2 hrec_code_source_event_2 depth n13 b b2 b2 n18 l n15 n16 _ h10)
        obtain ⟨b5, h11, h⟩ := bind_of h
        rcases cond_of h with ⟨h12, h⟩ | ⟨h12, h⟩
        · obtain ⟨b6, h13, h⟩ := bind_of h
          rcases cond_of h with ⟨h14, h⟩ | ⟨h14, h⟩
          · obtain ⟨_, h15, h⟩ := bind_of h
            have q_15 := (event_Event_Base_runs 0 T_event_halves.nil _ h15)
            obtain ⟨_, h16, h⟩ := bind_of h
            rcases cond_of h with ⟨h17, h⟩ | ⟨h17, h⟩
            · obtain ⟨b7, h18, h⟩ := bind_of h
              have q_18 := (event_Event_IsLeaf_runs 0 T_event_halves.nil _ h18)
              rcases cond_of h with ⟨h19, h⟩ | ⟨h19, h⟩
              · obtain ⟨b8, h20, h⟩ := bind_of h
                rcases cond_of h with ⟨h21, h⟩ | ⟨h21, h⟩
                · obtain ⟨n23, h22, h⟩ := bind_of h
                  have q_22 := (code_source_must_runs (!(decide ((0 : Int) = n22))) n19 l n20 n21 _ h22)
                  obtain ⟨⟨b9, n24⟩, h23, h⟩ := bind_of h
                  rcases cond_of h with ⟨h24, h⟩ | ⟨h24, h⟩
                  · obtain ⟨⟨n25, t2, n26⟩, h25, h⟩ := bind_of h
                    have h := some_of h
                    subst h
                    have t_ := tR (code_source_bit_runs 1 n l n2 n3 _ h1) <| tF h2 <| tL q_3 <| tR (code_source_bit_runs 2 n8 l n6 n7 _ h4) <| tL q_5 <| tR (code_source_ok_runs n14 l n15 n16 _ h6) <| tF h7 <| tF (rfl : false = false) <| tR (code_source_ok_runs n17 l n15 n16 _ h8) <| tT h9 <| tL q_10 <| tR (code_zero_runs 0 T_event_halves.nil _ h11) <| tT h12 <| tR (code_zero_runs n22 t _ h13) <| tT h14 <| tR q_15 <| tR q_15 <| tR (event_Event_Base_runs n22 t _ h16) <| tT h17 <| tR q_18 <| tT h19 <| tR (event_Event_IsLeaf_runs n22 t _ h20) <| tT h21 <| tR q_15 <| tR q_15 <| tR (event_Event_Base_runs n22 t _ h16) <| tR q_22 <| tR (code_source_ok_runs n23 l n20 n21 _ h23) <| tF (not_of2 h24) <| tR (code_source_node_runs N n13 0 T_event_halves.nil n22 t n24 l n20 n21 _ h25) <| tN
                    exact runs_of (C := cfg) (objs := [[(.ref 1 0), (.pv (.int .i64 n))], [(.pv (.ints .u8 l false)), (.pv (.int .i64 n2)), (.pv (.int .i64 n3))]]) (sc := t_.ev) (.k1 t_.pf (by kernel_rfl) (by kernel_rfl))
                  · have h := some_of h
                    subst h
                    have t_ := tR (code_source_bit_runs 1 n l n2 n3 _ h1) <| tF h2 <| tL q_3 <| tR (code_source_bit_runs 2 n8 l n6 n7 _ h4) <| tL q_5 <| tR (code_source_ok_runs n14 l n15 n16 _ h6) <| tF h7 <| tF (rfl : false = false) <| tR (code_source_ok_runs n17 l n15 n16 _ h8) <| tT h9 <| tL q_10 <| tR (code_zero_runs 0 T_event_halves.nil _ h11) <| tT h12 <| tR (code_zero_runs n22 t _ h13) <| tT h14 <| tR q_15 <| tR q_15 <| tR (event_Event_Base_runs n22 t _ h16) <| tT h17 <| tR q_18 <| tT h19 <| tR (event_Event_IsLeaf_runs n22 t _ h20) <| tT h21 <| tR q_15 <| tR q_15 <| tR (event_Event_Base_runs n22 t _ h16) <| tR q_22 <| tR (code_source_ok_runs n23 l n20 n21 _ h23) <| tT (not_of h24) <| tN
                    have e_ : Runs Tryd.prog 124 [(.one (.ref 0 0)), (.one (.pv (.int .i64 depth)))] [[(.ref 1 0), (.pv (.int .i64 n))], [(.pv (.ints .u8 l false)), (.pv (.int .i64 n2)), (.pv (.int .i64 n3))]] [] ([(.agg [(.pv (.int .u64 0)), (.pv .nilp)])], [[(.ref 1 0), (.pv (.int .i64 n24))], [(.pv (.ints .u8 l false)), (.pv (.int .i64 n20)), (.pv (.int .i64 n21))]], []) := runs_of (C := cfg) (objs := [[(.ref 1 0), (.pv (.int .i64 n))], [(.pv (.ints .u8 l false)), (.pv (.int .i64 n2)), (.pv (.int .i64 n3))]]) (sc := t_.ev) (.k1 t_.pf (by kernel_rfl) (by kernel_rfl))
                    exact e_.out ⟨⟨.eq rfl, .eq rfl, trivial⟩, trivial⟩ ⟨⟨.eq rfl, .eq rfl, trivial⟩, ⟨.eq rfl, .eq rfl, .eq rfl, trivial⟩, trivial⟩ trivial rfl
                · obtain ⟨n23, h22, h⟩ := bind_of h
                  have q_22 := (code_source_must_runs true n19 l n20 n21 _ h22)
                  obtain ⟨⟨b9, n24⟩, h23, h⟩ := bind_of h
                  rcases cond_of h with ⟨h24, h⟩ | ⟨h24, h⟩
                  · obtain ⟨⟨n25, t2, n26⟩, h25, h⟩ := bind_of h
                    have h := some_of h
                    subst h
                    have t_ := tR (code_source_bit_runs 1 n l n2 n3 _ h1) <| tF h2 <| tL q_3 <| tR (code_source_bit_runs 2 n8 l n6 n7 _ h4) <| tL q_5 <| tR (code_source_ok_runs n14 l n15 n16 _ h6) <| tF h7 <| tF (rfl : false = false) <| tR (code_source_ok_runs n17 l n15 n16 _ h8) <| tT h9 <| tL q_10 <| tR (code_zero_runs 0 T_event_halves.nil _ h11) <| tT h12 <| tR (code_zero_runs n22 t _ h13) <| tT h14 <| tR q_15 <| tR q_15 <| tR (event_Event_Base_runs n22 t _ h16) <| tT h17 <| tR q_18 <| tT h19 <| tR (event_Event_IsLeaf_runs n22 t _ h20) <| tF h21 <| tR q_22 <| tR (code_source_ok_runs n23 l n20 n21 _ h23) <| tF (not_of2 h24) <| tR (code_source_node_runs N n13 0 T_event_halves.nil n22 t n24 l n20 n21 _ h25) <| tN
                    exact runs_of (C := cfg) (objs := [[(.ref 1 0), (.pv (.int .i64 n))], [(.pv (.ints .u8 l false)), (.pv (.int .i64 n2)), (.pv (.int .i64 n3))]]) (sc := t_.ev) (.k1 t_.pf (by kernel_rfl) (by kernel_rfl))
                  · have h := some_of h
                    subst h
                    have t_ := tR (code_source_bit_runs 1 n l n2 n3 _ h1) <| tF h2 <| tL q_3 <| tR (code_source_bit_runs 2 n8 l n6 n7 _ h4) <| tL q_5 <| tR (code_source_ok_runs n14 l n15 n16 _ h6) <| tF h7 <| tF (rfl : false = false) <| tR (code_source_ok_runs n17 l n15 n16 _ h8) <| tT h9 <| tL q_10 <| tR (code_zero_runs 0 T_event_halves.nil _ h11) <| tT h12 <| tR (code_zero_runs n22 t _ h13) <| tT h14 <| tR q_15 <| tR q_15 <| tR (event_Event_Base_runs n22 t _ h16) <| tT h17 <| tR q_18 <| tT h19 <| tR (event_Event_IsLeaf_runs n22 t _ h20) <| tF h21 <| tR q_22 <| tR (code_source_ok_runs n23 l n20 n21 _ h23) <| tT (not_of h24) <| tN
                    have e_ : Runs Tryd.prog 124 [(.one (.ref 0 0)), (.one (.pv (.int .i64 depth)))] [[(.ref 1 0), (.pv (.int .i64 n))], [(.pv (.ints .u8 l false)), (.pv (.int .i64 n2)), (.pv (.int .i64 n3))]] [] ([(.agg [(.pv (.int .u64 0)), (.pv .nilp)])], [[(.ref 1 0), (.pv (.int .i64 n24))], [(.pv (.ints .u8 l false)), (.pv (.int .i64 n20)), (.pv (.int .i64 n21))]], []) := runs_of (C := cfg) (objs := [[(.ref 1 0), (.pv (.int .i64 n))], [(.pv (.ints .u8 l false)), (.pv (.int .i64 n2)), (.pv (.int .i64 n3))]]) (sc := t_.ev) (.k1 t_.pf (by kernel_rfl) (by kernel_rfl))
                    exact e_.out ⟨⟨.eq rfl, .eq rfl, trivial⟩, trivial⟩ ⟨⟨.eq rfl, .eq rfl, trivial⟩, ⟨.eq rfl, .eq rfl, .eq rfl, trivial⟩, trivial⟩ trivial rfl
              · obtain ⟨n23, h20, h⟩ := bind_of h
                have q_20 := (code_source_must_runs true n19 l n20 n21 _ h20)
                obtain ⟨⟨b8, n24⟩, h21, h⟩ := bind_of h
                rcases cond_of h with ⟨h22, h⟩ | ⟨h22, h⟩
                · obtain ⟨⟨n25, t2, n26⟩, h23, h⟩ := bind_of h
                  have h := some_of h
                  subst h
                  have t_ := tR (code_source_bit_runs 1 n l n2 n3 _ h1) <| tF h2 <| tL q_3 <| tR (code_source_bit_runs 2 n8 l n6 n7 _ h4) <| tL q_5 <| tR (code_source_ok_runs n14 l n15 n16 _ h6) <| tF h7 <| tF (rfl : false = false) <| tR (code_source_ok_runs n17 l n15 n16 _ h8) <| tT h9 <| tL q_10 <| tR (code_zero_runs 0 T_event_halves.nil _ h11) <| tT h12 <| tR (code_zero_runs n22 t _ h13) <| tT h14 <| tR q_15 <| tR q_15 <| tR (event_Event_Base_runs n22 t _ h16) <| tT h17 <| tR q_18 <| tF h19 <| tF (rfl : false = false) <| tR q_20 <| tR (code_source_ok_runs n23 l n20 n21 _ h21) <| tF (not_of2 h22) <| tR (code_source_node_runs N n13 0 T_event_halves.nil n22 t n24 l n20 n21 _ h23) <| tN
                  exact runs_of (C := cfg) (objs := [[(.ref 1 0), (.pv (.int .i64 n))], [(.pv (.ints .u8 l false)), (.pv (.int .i64 n2)), (.pv (.int .i64 n3))]]) (sc := t_.ev) (.k1 t_.pf (by kernel_rfl) (by kernel_rfl))
                · have h := some_of h
                  subst h
                  have t_ := tR (code_source_bit_runs 1 n l n2 n3 _ h1) <| tF h2 <| tL q_3 <| tR (code_source_bit_runs 2 n8 l n6 n7 _ h4) <| tL q_5 <| tR (code_source_ok_runs n14 l n15 n16 _ h6) <| tF h7 <| tF (rfl : false = false) <| tR (code_source_ok_runs n17 l n15 n16 _ h8) <| tT h9 <| tL q_10 <| tR (code_zero_runs 0 T_event_halves.nil _ h11) <| tT h12 <| tR (code_zero_runs n22 t _ h13) <| tT h14 <| tR q_15 <| tR q_15 <| tR (event_Event_Base_runs n22 t _ h16) <| tT h17 <| tR q_18 <| tF h19 <| tF (rfl : false = false) <| tR q_20 <| tR (code_source_ok_runs n23 l n20 n21 _ h21) <| tT (not_of h22) <| tN
                  have e_ : Runs Tryd.prog 124 [(.one (.ref 0 0)), (.one (.pv (.int .i64 depth)))] [[(.ref 1 0), (.pv (.int .i64 n))], [(.pv (.ints .u8 l false)), (.pv (.int .i64 n2)), (.pv (.int .i64 n3))]] [] ([(.agg [(.pv (.int .u64 0)), (.pv .nilp)])], [[(.ref 1 0), (.pv (.int .i64 n24))], [(.pv (.ints .u8 l false)), (.pv (.int .i64 n20)), (.pv (.int .i64 n21))]], []) := runs_of (C := cfg) (objs := [[(.ref 1 0), (.pv (.int .i64 n))], [(.pv (.ints .u8 l false)), (.pv (.int .i64 n2)), (.pv (.int .i64 n3))]]) (sc := t_.ev) (.k1 t_.pf (by kernel_rfl) (by kernel_rfl))
                  exact e_.out ⟨⟨.eq rfl, .eq rfl, trivial⟩, trivial⟩ ⟨⟨.eq rfl, .eq rfl, trivial⟩, ⟨.eq rfl, .eq rfl, .eq rfl, trivial⟩, trivial⟩ trivial rfl
            · obtain ⟨n23, h18, h⟩ := bind_of h
              have q_18 := (code_source_must_runs false n19 l n20 n21 _ h18)
              obtain ⟨⟨b7, n24⟩, h19, h⟩ := bind_of h
              rcases cond_of h with ⟨h20, h⟩ | ⟨h20, h⟩
              · obtain ⟨⟨n25, t2, n26⟩, h21, h⟩ := bind_of h
                have h := some_of h
                subst h
                have t_ := tR (code_source_bit_runs 1 n l n2 n3 _ h1) <| tF h2 <| tL q_3 <| tR (code_source_bit_runs 2 n8 l n6 n7 _ h4) <| tL q_5 <| tR (code_source_ok_runs n14 l n15 n16 _ h6) <| tF h7 <| tF (rfl : false = false) <| tR (code_source_ok_runs n17 l n15 n16 _ h8) <| tT h9 <| tL q_10 <| tR (code_zero_runs 0 T_event_halves.nil _ h11) <| tT h12 <| tR (code_zero_runs n22 t _ h13) <| tT h14 <| tR q_15 <| tR q_15 <| tR (event_Event_Base_runs n22 t _ h16) <| tF h17 <| tR q_18 <| tR (code_source_ok_runs n23 l n20 n21 _ h19) <| tF (not_of2 h20) <| tR (code_source_node_runs N n13 0 T_event_halves.nil n22 t n24 l n20 n21 _ h21) <| tN
                exact runs_of (C := cfg) (objs := [[(.ref 1 0), (.pv (.int .i64 n))], [(.pv (.ints .u8 l false)), (.pv (.int .i64 n2)), (.pv (.int .i64 n3))]]) (sc := t_.ev) (.k1 t_.pf (by kernel_rfl) (by kernel_rfl))
              · have h := some_of h
                subst h
                have t_ := tR (code_source_bit_runs 1 n l n2 n3 _ h1) <| tF h2 <| tL q_3 <| tR (code_source_bit_runs 2 n8 l n6 n7 _ h4) <| tL q_5 <| tR (code_source_ok_runs n14 l n15 n16 _ h6) <| tF h7 <| tF (rfl : false = false) <| tR (code_source_ok_runs n17 l n15 n16 _ h8) <| tT h9 <| tL q_10 <| tR (code_zero_runs 0 T_event_halves.nil _ h11) <| tT h12 <| tR (code_zero_runs n22 t _ h13) <| tT h14 <| tR q_15 <| tR q_15 <| tR (event_Event_Base_runs n22 t _ h16) <| tF h17 <| tR q_18 <| tR (code_source_ok_runs n23 l n20 n21 _ h19) <| tT (not_of h20) <| tN
                have e_ : Runs Tryd.prog 124 [(.one (.ref 0 0)), (.one (.pv (.int .i64 depth)))] [[(.ref 1 0), (.pv (.int .i64 n))], [(.pv (.ints .u8 l false)), (.pv (.int .i64 n2)), (.pv (.int .i64 n3))]] [] ([(.agg [(.pv (.int .u64 0)), (.pv .nilp)])], [[(.ref 1 0), (.pv (.int .i64 n24))], [(.pv (.ints .u8 l false)), (.pv (.int .i64 n20)), (.pv (.int .i64 n21))]], []) := runs_of (C := cfg) (objs := [[(.ref 1 0), (.pv (.int .i64 n))], [(.pv (.ints .u8 l false)), (.pv (.int .i64 n2)), (.pv (.int .i64 n3))]]) (sc := t_.ev) (.k1 t_.pf (by kernel_rfl) (by kernel_rfl))
                exact e_.out ⟨⟨.eq rfl, .eq rfl, trivial⟩, trivial⟩ ⟨⟨.eq rfl, .eq rfl, trivial⟩, ⟨.eq rfl, .eq rfl, .eq rfl, trivial⟩, trivial⟩ trivial rfl
          · obtain ⟨n23, h15, h⟩ := bind_of h
            have q_15 := (code_source_must_runs false n19 l n20 n21 _ h15)
            obtain ⟨⟨b7, n24⟩, h16, h⟩ := bind_of h
            rcases cond_of h with ⟨h17, h⟩ | ⟨h17, h⟩
            · obtain ⟨⟨n25, t2, n26⟩, h18, h⟩ := bind_of h
              have h := some_of h
              subst h
              have t_ := tR (code_source_bit_runs 1 n l n2 n3 _ h1) <| tF h2 <| tL q_3 <| tR (code_source_bit_runs 2 n8 l n6 n7 _ h4) <| tL q_5 <| tR (code_source_ok_runs n14 l n15 n16 _ h6) <| tF h7 <| tF (rfl : false = false) <| tR (code_source_ok_runs n17 l n15 n16 _ h8) <| tT h9 <| tL q_10 <| tR (code_zero_runs 0 T_event_halves.nil _ h11) <| tT h12 <| tR (code_zero_runs n22 t _ h13) <| tF h14 <| tF (rfl : false = false) <| tR q_15 <| tR (code_source_ok_runs n23 l n20 n21 _ h16) <| tF (not_of2 h17) <| tR (code_source_node_runs N n13 0 T_event_halves.nil n22 t n24 l n20 n21 _ h18) <| tN
              exact runs_of (C := cfg) (objs := [[(.ref 1 0), (.pv (.int .i64 n))], [(.pv (.ints .u8 l false)), (.pv (.int .i64 n2)), (.pv (.int .i64 n3))]]) (sc := t_.ev) (.k1 t_.pf (by kernel_rfl) (by kernel_rfl))
            · have h := some_of h
              subst h
              have t_ := tR (code_source_bit_runs 1 n l n2 n3 _ h1) <| tF h2 <| tL q_3 <| tR (code_source_bit_runs 2 n8 l n6 n7 _ h4) <| tL q_5 <| tR (code_source_ok_runs n14 l n15 n16 _ h6) <| tF h7 <| tF (rfl : false = false) <| tR (code_source_ok_runs n17 l n15 n16 _ h8) <| tT h9 <| tL q_10 <| tR (code_zero_runs 0 T_event_halves.nil _ h11) <| tT h12 <| tR (code_zero_runs n22 t _ h13) <| tF h14 <| tF (rfl : false = false) <| tR q_15 <| tR (code_source_ok_runs n23 l n20 n21 _ h16) <| tT (not_of h17) <| tN
              have e_ : Runs Tryd.prog 124 [(.one (.ref 0 0)), (.one (.pv (.int .i64 depth)))] [[(.ref 1 0), (.pv (.int .i64 n))], [(.pv (.ints .u8 l false)), (.pv (.int .i64 n2)), (.pv (.int .i64 n3))]] [] ([(.agg [(.pv (.int .u64 0)), (.pv .nilp)])], [[(.ref 1 0), (.pv (.int .i64 n24))], [(.pv (.ints .u8 l false)), (.pv (.int .i64 n20)), (.pv (.int .i64 n21))]], []) := runs_of (C := cfg) (objs := [[(.ref 1 0), (.pv (.int .i64 n))], [(.pv (.ints .u8 l false)), (.pv (.int .i64 n2)), (.pv (.int .i64 n3))]]) (sc := t_.ev) (.k1 t_.pf (by kernel_rfl) (by kernel_rfl))
              exact e_.out ⟨⟨.eq rfl, .eq rfl, trivial⟩, trivial⟩ ⟨⟨.eq rfl, .eq rfl, trivial⟩, ⟨.eq rfl, .eq rfl, .eq rfl, trivial⟩, trivial⟩ trivial rfl
        · obtain ⟨n23, h13, h⟩ := bind_of h
          have q_13 := (code_source_must_runs false n19 l n20 n21 _ h13)
          obtain ⟨⟨b6, n24⟩, h14, h⟩ := bind_of h
          rcases cond_of h with ⟨h15, h⟩ | ⟨h15, h⟩
          · obtain ⟨⟨n25, t2, n26⟩, h16, h⟩ := bind_of h
            have h := some_of h
            subst h
            have t_ := tR (code_source_bit_runs 1 n l n2 n3 _ h1) <| tF h2 <| tL q_3 <| tR (code_source_bit_runs 2 n8 l n6 n7 _ h4) <| tL q_5 <| tR (code_source_ok_runs n14 l n15 n16 _ h6) <| tF h7 <| tF (rfl : false = false) <| tR (code_source_ok_runs n17 l n15 n16 _ h8) <| tT h9 <| tL q_10 <| tR (code_zero_runs 0 T_event_halves.nil _ h11) <| tF h12 <| tF (rfl : false = false) <| tF (rfl : false = false) <| tR q_13 <| tR (code_source_ok_runs n23 l n20 n21 _ h14) <| tF (not_of2 h15) <| tR (code_source_node_runs N n13 0 T_event_halves.nil n22 t n24 l n20 n21 _ h16) <| tN
            exact runs_of (C := cfg) (objs := [[(.ref 1 0), (.pv (.int .i64 n))], [(.pv (.ints .u8 l false)), (.pv (.int .i64 n2)), (.pv (.int .i64 n3))]]) (sc := t_.ev) (.k1 t_.pf (by kernel_rfl) (by kernel_rfl))
          · have h := some_of h
            subst h
            have t_ := tR (code_source_bit_runs 1 n l n2 n3 _ h1) <| tF h2 <| tL q_3 <| tR (code_source_bit_runs 2 n8 l n6 n7 _ h4) <| tL q_5 <| tR (code_source_ok_runs n14 l n15 n16 _ h6) <| tF h7 <| tF (rfl : false = false) <| tR (code_source_ok_runs n17 l n15 n16 _ h8) <| tT h9 <| tL q_10 <| tR (code_zero_runs 0 T_event_halves.nil _ h11) <| tF h12 <| tF (rfl : false = false) <| tF (rfl : false = false) <| tR q_13 <| tR (code_source_ok_runs n23 l n20 n21 _ h14) <| tT (not_of h15) <| tN
            have e_ : Runs Tryd.prog 124 [(.one (.ref 0 0)), (.one (.pv (.int .i64 depth)))] [[(.ref 1 0), (.pv (.int .i64 n))], [(.pv (.ints .u8 l false)), (.pv (.int .i64 n2)), (.pv (.int .i64 n3))]] [] ([(.agg [(.pv (.int .u64 0)), (.pv .nilp)])], [[(.ref 1 0), (.pv (.int .i64 n24))], [(.pv (.ints .u8 l false)), (.pv (.int .i64 n20)), (.pv (.int .i64 n21))]], []) := runs_of (C := cfg) (objs := [[(.ref 1 0), (.pv (.int .i64 n))], [(.pv (.ints .u8 l false)), (.pv (.int .i64 n2)), (.pv (.int .i64 n3))]]) (sc := t_.ev) (.k1 t_.pf (by kernel_rfl) (by kernel_rfl))
            exact e_.out ⟨⟨.eq rfl, .eq rfl, trivial⟩, trivial⟩ ⟨⟨.eq rfl, .eq rfl, trivial⟩, ⟨.eq rfl, .eq rfl, .eq rfl, trivial⟩, trivial⟩ trivial rfl
      · obtain ⟨b5, h10, h⟩ := bind_of h
        rcases cond_of h with ⟨h11, h⟩ | ⟨h11, h⟩
        · rcases cond_of h with ⟨h12, h⟩ | ⟨h12, h⟩
          · obtain ⟨_, h13, h⟩ := bind_of h
            have q_13 := (event_Event_Base_runs 0 T_event_halves.nil _ h13)
            obtain ⟨b6, h14, h⟩ := bind_of h
            have q_14 := (event_Event_IsLeaf_runs 0 T_event_halves.nil _ h14)
            rcases cond_of h with ⟨h15, h⟩ | ⟨h15, h⟩
            · obtain ⟨n19, h16, h⟩ := bind_of h
              have q_16 := (code_source_must_runs false n18 l n15 n16 _ h16)
              obtain ⟨⟨b7, n20⟩, h17, h⟩ := bind_of h
              rcases cond_of h with ⟨h18, h⟩ | ⟨h18, h⟩
              · obtain ⟨⟨n21, t, n22⟩, h19, h⟩ := bind_of h
                have h := some_of h
                subst h
                have t_ := tR (code_source_bit_runs 1 n l n2 n3 _ h1) <| tF h2 <| tL q_3 <| tR (code_source_bit_runs 2 n8 l n6 n7 _ h4) <| tL q_5 <| tR (code_source_ok_runs n14 l n15 n16 _ h6) <| tF h7 <| tF (rfl : false = false) <| tR (code_source_ok_runs n17 l n15 n16 _ h8) <| tF h9 <| tF (rfl : false = false) <| tR (code_zero_runs 0 T_event_halves.nil _ h10) <| tT h11 <| tR (code_zero_runs 0 T_event_halves.nil _ h10) <| tT h12 <| tR q_13 <| tR q_13 <| tR q_13 <| tT (rfl : true = true) <| tR q_14 <| tT h15 <| tR q_14 <| tT h15 <| tR q_13 <| tR q_13 <| tR q_13 <| tR q_16 <| tR (code_source_ok_runs n19 l n15 n16 _ h17) <| tF (not_of2 h18) <| tR (code_source_node_runs N n13 0 T_event_halves.nil 0 T_event_halves.nil n20 l n15 n16 _ h19) <| tN
                exact runs_of (C := cfg) (objs := [[(.ref 1 0), (.pv (.int .i64 n))], [(.pv (.ints .u8 l false)), (.pv (.int .i64 n2)), (.pv (.int .i64 n3))]]) (sc := t_.ev) (.k1 t_.pf (by kernel_rfl) (by kernel_rfl))
              · have h := some_of h
                subst h
                have t_ := tR (code_source_bit_runs 1 n l n2 n3 _ h1) <| tF h2 <| tL q_3 <| tR (code_source_bit_runs 2 n8 l n6 n7 _ h4) <| tL q_5 <| tR (code_source_ok_runs n14 l n15 n16 _ h6) <| tF h7 <| tF (rfl : false = false) <| tR (code_source_ok_runs n17 l n15 n16 _ h8) <| tF h9 <| tF (rfl : false = false) <| tR (code_zero_runs 0 T_event_halves.nil _ h10) <| tT h11 <| tR (code_zero_runs 0 T_event_halves.nil _ h10) <| tT h12 <| tR q_13 <| tR q_13 <| tR q_13 <| tT (rfl : true = true) <| tR q_14 <| tT h15 <| tR q_14 <| tT h15 <| tR q_13 <| tR q_13 <| tR q_13 <| tR q_16 <| tR (code_source_ok_runs n19 l n15 n16 _ h17) <| tT (not_of h18) <| tN
                have e_ : Runs Tryd.prog 124 [(.one (.ref 0 0)), (.one (.pv (.int .i64 depth)))] [[(.ref 1 0), (.pv (.int .i64 n))], [(.pv (.ints .u8 l false)), (.pv (.int .i64 n2)), (.pv (.int .i64 n3))]] [] ([(.agg [(.pv (.int .u64 0)), (.pv .nilp)])], [[(.ref 1 0), (.pv (.int .i64 n20))], [(.pv (.ints .u8 l false)), (.pv (.int .i64 n15)), (.pv (.int .i64 n16))]], []) := runs_of (C := cfg) (objs := [[(.ref 1 0), (.pv (.int .i64 n))], [(.pv (.ints .u8 l false)), (.pv (.int .i64 n2)), (.pv (.int .i64 n3))]]) (sc := t_.ev) (.k1 t_.pf (by kernel_rfl) (by kernel_rfl))
                exact e_.out ⟨⟨.eq rfl, .eq rfl, trivial⟩, trivial⟩ ⟨⟨.eq rfl, .eq rfl, trivial⟩, ⟨.eq rfl, .eq rfl, .eq rfl, trivial⟩, trivial⟩ trivial rfl
            · obtain ⟨n19, h16, h⟩ := bind_of h
              have q_16 := (code_source_must_runs true n18 l n15 n16 _ h16)
              obtain ⟨⟨b7, n20⟩, h17, h⟩ := bind_of h
              rcases cond_of h with ⟨h18, h⟩ | ⟨h18, h⟩
              · obtain ⟨⟨n21, t, n22⟩, h19, h⟩ := bind_of h
                have h := some_of h
                subst h
                have t_ := tR (code_source_bit_runs 1 n l n2 n3 _ h1) <| tF h2 <| tL q_3 <| tR (code_source_bit_runs 2 n8 l n6 n7 _ h4) <| tL q_5 <| tR (code_source_ok_runs n14 l n15 n16 _ h6) <| tF h7 <| tF (rfl : false = false) <| tR (code_source_ok_runs n17 l n15 n16 _ h8) <| tF h9 <| tF (rfl : false = false) <| tR (code_zero_runs 0 T_event_halves.nil _ h10) <| tT h11 <| tR (code_zero_runs 0 T_event_halves.nil _ h10) <| tT h12 <| tR q_13 <| tR q_13 <| tR q_13 <| tT (rfl : true = true) <| tR q_14 <| tF h15 <| tF (rfl : false = false) <| tR q_16 <| tR (code_source_ok_runs n19 l n15 n16 _ h17) <| tF (not_of2 h18) <| tR (code_source_node_runs N n13 0 T_event_halves.nil 0 T_event_halves.nil n20 l n15 n16 _ h19) <| tN
                exact runs_of (C := cfg) (objs := [[(.ref 1 0), (.pv (.int .i64 n))], [(.pv (.ints .u8 l false)), (.pv (.int .i64 n2)), (.pv (.int .i64 n3))]]) (sc := t_.ev) (.k1 t_.pf (by kernel_rfl) (by kernel_rfl))
              · have h := some_of h
                subst h
                have t_ := tR (code_source_bit_runs 1 n l n2 n3 _ h1) <| tF h2 <| tL q_3 <| tR (code_source_bit_runs 2 n8 l n6 n7 _ h4) <| tL q_5 <| tR (code_source_ok_runs n14 l n15 n16 _ h6) <| tF h7 <| tF (rfl : false = false) <| tR (code_source_ok_runs n17 l n15 n16 _ h8) <| tF h9 <| tF (rfl : false = false) <| tR (code_zero_runs 0 T_event_halves.nil _ h10) <| tT h11 <| tR (code_zero_runs 0 T_event_halves.nil _ h10) <| tT h12 <| tR q_13 <| tR q_13 <| tR q_13 <| tT (rfl : true = true) <| tR q_14 <| tF h15 <| tF (rfl : false = false) <| tR q_16 <| tR (code_source_ok_runs n19 l n15 n16 _ h17) <| tT (not_of h18) <| tN
                have e_ : Runs Tryd.prog 124 [(.one (.ref 0 0)), (.one (.pv (.int .i64 depth)))] [[(.ref 1 0), (.pv (.int .i64 n))], [(.pv (.ints .u8 l false)), (.pv (.int .i64 n2)), (.pv (.int .i64 n3))]] [] ([(.agg [(.pv (.int .u64 0)), (.pv .nilp)])], [[(.ref 1 0), (.pv (.int .i64 n20))], [(.pv (.ints .u8 l false)), (.pv (.int .i64 n15)), (.pv (.int .i64 n16))]], []) := runs_of (C := cfg) (objs := [[(.ref 1 0), (.pv (.int .i64 n))], [(.pv (.ints .u8 l false)), (.pv (.int .i64 n2)), (.pv (.int .i64 n3))]]) (sc := t_.ev) (.k1 t_.pf (by kernel_rfl) (by kernel_rfl))
                exact e_.out ⟨⟨.eq rfl, .eq rfl, trivial⟩, trivial⟩ ⟨⟨.eq rfl, .eq rfl, trivial⟩, ⟨.eq rfl, .eq rfl, .eq rfl, trivial⟩, trivial⟩ trivial rfl
          · obtain ⟨n19, h13, h⟩ := bind_of h
            have q_13 := (code_source_must_runs false n18 l n15 n16 _ h13)
            obtain ⟨⟨b6, n20⟩, h14, h⟩ := bind_of h
            rcases cond_of h with ⟨h15, h⟩ | ⟨h15, h⟩
            · obtain ⟨⟨n21, t, n22⟩, h16, h⟩ := bind_of h
              have h := some_of h
              subst h
              have t_ := tR (code_source_bit_runs 1 n l n2 n3 _ h1) <| tF h2 <| tL q_3 <| tR (code_source_bit_runs 2 n8 l n6 n7 _ h4) <| tL q_5 <| tR (code_source_ok_runs n14 l n15 n16 _ h6) <| tF h7 <| tF (rfl : false = false) <| tR (code_source_ok_runs n17 l n15 n16 _ h8) <| tF h9 <| tF (rfl : false = false) <| tR (code_zero_runs 0 T_event_halves.nil _ h10) <| tT h11 <| tR (code_zero_runs 0 T_event_halves.nil _ h10) <| tF h12 <| tF (rfl : false = false) <| tR q_13 <| tR (code_source_ok_runs n19 l n15 n16 _ h14) <| tF (not_of2 h15) <| tR (code_source_node_runs N n13 0 T_event_halves.nil 0 T_event_halves.nil n20 l n15 n16 _ h16) <| tN
              exact runs_of (C := cfg) (objs := [[(.ref 1 0), (.pv (.int .i64 n))], [(.pv (.ints .u8 l false)), (.pv (.int .i64 n2)), (.pv (.int .i64 n3))]]) (sc := t_.ev) (.k1 t_.pf (by kernel_rfl) (by kernel_rfl))
            · have h := some_of h
              subst h
              have t_ := tR (code_source_bit_runs 1 n l n2 n3 _ h1) <| tF h2 <| tL q_3 <| tR (code_source_bit_runs 2 n8 l n6 n7 _ h4) <| tL q_5 <| tR (code_source_ok_runs n14 l n15 n16 _ h6) <| tF h7 <| tF (rfl : false = false) <| tR (code_source_ok_runs n17 l n15 n16 _ h8) <| tF h9 <| tF (rfl : false = false) <| tR (code_zero_runs 0 T_event_halves.nil _ h10) <| tT h11 <| tR (code_zero_runs 0 T_event_halves.nil _ h10) <| tF h12 <| tF (rfl : false = false) <| tR q_13 <| tR (code_source_ok_runs n19 l n15 n16 _ h14) <| tT (not_of h15) <| tN
              have e_ : Runs Tryd.prog 124 [(.one (.ref 0 0)), (.one (.pv (.int .i64 depth)))] [[(.ref 1 0), (.pv (.int .i64 n))], [(.pv (.ints .u8 l false)), (.pv (.int .i64 n2)), (.pv (.int .i64 n3))]] [] ([(.agg [(.pv (.int .u64 0)), (.pv .nilp)])], [[(.ref 1 0), (.pv (.int .i64 n20))], [(.pv (.ints .u8 l false)), (.pv (.int .i64 n15)), (.pv (.int .i64 n16))]], []) := runs_of (C := cfg) (objs := [[(.ref 1 0), (.pv (.int .i64 n))], [(.pv (.ints .u8 l false)), (.pv (.int .i64 n2)), (.pv (.int .i64 n3))]]) (sc := t_.ev) (.k1 t_.pf (by kernel_rfl) (by kernel_rfl))
              exact e_.out ⟨⟨.eq rfl, .eq rfl, trivial⟩, trivial⟩ ⟨⟨.eq rfl, .eq rfl, trivial⟩, ⟨.eq rfl, .eq rfl, .eq rfl, trivial⟩, trivial⟩ trivial rfl
        · obtain ⟨n19, h12, h⟩ := bind_of h
          have q_12 := (code_source_must_runs false n18 l n15 n16 _ h12)
          obtain ⟨⟨b6, n20⟩, h13, h⟩ := bind_of h
          rcases cond_of h with ⟨h14, h⟩ | ⟨h14, h⟩
          · obtain ⟨⟨n21, t, n22⟩, h15, h⟩ := bind_of h
            have h := some_of h
            subst h
            have t_ := tR (code_source_bit_runs 1 n l n2 n3 _ h1) <| tF h2 <| tL q_3 <| tR (code_source_bit_runs 2 n8 l n6 n7 _ h4) <| tL q_5 <| tR (code_source_ok_runs n14 l n15 n16 _ h6) <| tF h7 <| tF (rfl : false = false) <| tR (code_source_ok_runs n17 l n15 n16 _ h8) <| tF h9 <| tF (rfl : false = false) <| tR (code_zero_runs 0 T_event_halves.nil _ h10) <| tF h11 <| tF (rfl : false = false) <| tF (rfl : false = false) <| tR q_12 <| tR (code_source_ok_runs n19 l n15 n16 _ h13) <| tF (not_of2 h14) <| tR (code_source_node_runs N n13 0 T_event_halves.nil 0 T_event_halves.nil n20 l n15 n16 _ h15) <| tN
            exact runs_of (C := cfg) (objs := [[(.ref 1 0), (.pv (.int .i64 n))], [(.pv (.ints .u8 l false)), (.pv (.int .i64 n2)), (.pv (.int .i64 n3))]]) (sc := t_.ev) (.k1 t_.pf (by kernel_rfl) (by kernel_rfl))
          · have h := some_of h
            subst h
            have t_ := tR (code_source_bit_runs 1 n l n2 n3 _ h1) <| tF h2 <| tL q_3 <| tR (code_source_bit_runs 2 n8 l n6 n7 _ h4) <| tL q_5 <| tR (code_source_ok_runs n14 l n15 n16 _ h6) <| tF h7 <| tF (rfl : false = false) <| tR (code_source_ok_runs n17 l n15 n16 _ h8) <| tF h9 <| tF (rfl : false = false) <| tR (code_zero_runs 0 T_event_halves.nil _ h10) <| tF h11 <| tF (rfl : false = false) <| tF (rfl : false = false) <| tR q_12 <| tR (code_source_ok_runs n19 l n15 n16 _ h13) <| tT (not_of h14) <| tN
            have e_ : Runs Tryd.prog 124 [(.one (.ref 0 0)), (.one (.pv (.int .i64 depth)))] [[(.ref 1 0), (.pv (.int .i64 n))], [(.pv (.ints .u8 l false)), (.pv (.int .i64 n2)), (.pv (.int .i64 n3))]] [] ([(.agg [(.pv (.int .u64 0)), (.pv .nilp)])], [[(.ref 1 0), (.pv (.int .i64 n20))], [(.pv (.ints .u8 l false)), (.pv (.int .i64 n15)), (.pv (.int .i64 n16))]], []) := runs_of (C := cfg) (objs := [[(.ref 1 0), (.pv (.int .i64 n))], [(.pv (.ints .u8 l false)), (.pv (.int .i64 n2)), (.pv (.int .i64 n3))]]) (sc := t_.ev) (.k1 t_.pf (by kernel_rfl) (by kernel_rfl))
            exact e_.out ⟨⟨.eq rfl, .eq rfl, trivial⟩, trivial⟩ ⟨⟨.eq rfl, .eq rfl, trivial⟩, ⟨.eq rfl, .eq rfl, .eq rfl, trivial⟩, trivial⟩ trivial rfl
noncomputable def code_source_event_2 : Nat → Int → Int → List Int → Int → Int → Option (Int × T_event_halves × Int × Int × Int)
  | 0, _, _, _, _, _ => none
  | N + 1, depth, n, l, n2, n3 => code_source_event_2_b N (code_source_event_2 N) depth n l n2 n3
theorem code_source_event_2_runs : ∀ (N : Nat) (depth : Int) (n : Int) (l : List Int) (n2 : Int) (n3 : Int) (r_ : Int × T_event_halves × Int × Int × Int), code_source_event_2 N depth n l n2 n3 = some r_ → Runs Tryd.prog 124 [(.one (.ref 0 0)), (.one (.pv (.int .i64 depth)))] [[(.ref 1 0), (.pv (.int .i64 n))], [(.pv (.ints .u8 l false)), (.pv (.int .i64 n2)), (.pv (.int .i64 n3))]] [] (code_source_event_2_out depth n l n2 n3 r_)
  | 0, _, _, _, _, _, _, h => by cases h
  | N + 1, depth, n, l, n2, n3, r_, h => code_source_event_2_b_runs N (code_source_event_2 N) (code_source_event_2_runs N) depth n l n2 n3 r_ h
/-! ### code_GetEvent -/
noncomputable def code_GetEvent (N : Nat) (l : List Int) (n : Int) (n2 : Int) : Option (Int × T_event_halves × Int × Int × Int) :=
  (code_source_event_2 N 0 0 l n n2).bind fun (n3, t, n4, n5, n6) =>
  bif (decide ((n4 : Int) = 0)) then
    some (n3, t, 0, n5, n6)
  else
    some (0, T_event_halves.nil, n4, n5, n6)
theorem code_GetEvent_runs (N : Nat) (l : List Int) (n : Int) (n2 : Int) (r_ : Int × T_event_halves × Int × Int × Int) (h : code_GetEvent N l n n2 = some r_) : Runs Tryd.prog 76 [(.one (.ref 0 0))] [[(.pv (.ints .u8 l false)), (.pv (.int .i64 n)), (.pv (.int .i64 n2))]] [] (code_GetEvent_out l n n2 r_) := by
  unfold code_GetEvent at h
  obtain ⟨⟨n3, t, n4, n5, n6⟩, h1, h⟩ := bind_of h
  rcases cond_of h with ⟨h2, h⟩ | ⟨h2, h⟩
  · have h := some_of h
    subst h
    have t_ := tR (code_source_event_2_runs N 0 0 l n n2 _ h1) <| tF (not_of2 h2) <| tN
    exact runs_of (C := cfg) (objs := [[(.pv (.ints .u8 l false)), (.pv (.int .i64 n)), (.pv (.int .i64 n2))]]) (sc := t_.ev) (.k0 t_.pf (by kernel_rfl))
  · have h := some_of h
    subst h
    have t_ := tR (code_source_event_2_runs N 0 0 l n n2 _ h1) <| tT (not_of h2) <| tN
    have e_ : Runs Tryd.prog 76 [(.one (.ref 0 0))] [[(.pv (.ints .u8 l false)), (.pv (.int .i64 n)), (.pv (.int .i64 n2))]] [] ([(.agg [(.pv (.int .u64 0)), (.pv .nilp)]), (.one (.pv (.int .i64 n4)))], [[(.pv (.ints .u8 l false)), (.pv (.int .i64 n5)), (.pv (.int .i64 n6))]], []) := runs_of (C := cfg) (objs := [[(.pv (.ints .u8 l false)), (.pv (.int .i64 n)), (.pv (.int .i64 n2))]]) (sc := t_.ev) (.k1 t_.pf (by kernel_rfl) (by kernel_rfl))
    exact e_.out ⟨⟨.eq rfl, .eq rfl, trivial⟩, .eq rfl, trivial⟩ ⟨⟨.eq rfl, .eq rfl, .eq rfl, trivial⟩, trivial⟩ trivial rfl
/-! ### stamp_Stamp_out -/
def stamp_Stamp_out (x : Bool) (x2 : T_id_halves) (x3 : Int) (x4 : T_event_halves) (e : Int) (l : List Int) (n : Int) (n2 : Int) : Bool × T_id_halves × Int × T_event_halves × Int × Int → Res
  | (r1, r2, r3, r4, r5, r6) => ([(.agg [(.pv (.bool r1)), (.pv (T_id_halves.pv r2)), (.pv (.int .u64 r3)), (.pv (T_event_halves.pv r4))]), (.one (.pv (.int .i64 r5)))], [[(.pv (.ints .u8 l false)), (.pv (.int .i64 n)), (.pv (.int .i64 r6))]], [])
/-! ### bits_Reader_End_out -/
def bits_Reader_End_out (l : List Int) (n : Int) (n2 : Int) : Int × Int → Res
  | (r1, r2) => ([(.one (.pv (.int .i64 r1)))], [[(.pv (.ints .u8 l false)), (.pv (.int .i64 n)), (.pv (.int .i64 r2))]], [])
/-! ### bits_Reader_End -/
noncomputable def bits_Reader_End (l : List Int) (n : Int) (n2 : Int) : Option (Int × Int) :=
  (bits_Reader_Err l n n2).bind fun _ =>
  bif (decide ((n2 : Int) = 0)) then
    (bits_Reader_Left l n n2).bind fun n3 =>
    bif (decide ((8 : Int) ≤ n3)) then
      (bits_Reader_fail l n n2).bind fun n4 =>
      some (n4, n4)
    else
      (bits_Reader_Get n3 l n n2).bind fun (n4, n5, n6) =>
      bif (decide ((n4 : Int) = 0)) then
        some (0, n6)
      else
        (bits_Reader_fail l n n6).bind fun n7 =>
        some (n7, n7)
  else
    some (n2, n2)
theorem bits_Reader_End_runs (l : List Int) (n : Int) (n2 : Int) (r_ : Int × Int) (h : bits_Reader_End l n n2 = some r_) : Runs Tryd.prog 156 [(.one (.ref 0 0))] [[(.pv (.ints .u8 l false)), (.pv (.int .i64 n)), (.pv (.int .i64 n2))]] [] (bits_Reader_End_out l n n2 r_) := by
  unfold bits_Reader_End at h
  obtain ⟨_, h1, h⟩ := bind_of h
  rcases cond_of h with ⟨h2, h⟩ | ⟨h2, h⟩
  · obtain ⟨n3, h3, h⟩ := bind_of h
    rcases cond_of h with ⟨h4, h⟩ | ⟨h4, h⟩
    · obtain ⟨n4, h5, h⟩ := bind_of h
      have h := some_of h
      subst h
      have t_ := tR (bits_Reader_Err_runs l n n2 _ h1) <| tF (not_of2 h2) <| tR (bits_Reader_Left_runs l n n2 _ h3) <| tR (bits_Reader_Left_runs l n n2 _ h3) <| tT h4 <| tT (rfl : true = true) <| tR (bits_Reader_fail_runs l n n2 _ h5) <| tN
      exact runs_of (C := cfg) (objs := [[(.pv (.ints .u8 l false)), (.pv (.int .i64 n)), (.pv (.int .i64 n2))]]) (sc := t_.ev) (.k1 t_.pf (by kernel_rfl) (by kernel_rfl))
    · obtain ⟨⟨n4, n5, n6⟩, h5, h⟩ := bind_of h
      rcases cond_of h with ⟨h6, h⟩ | ⟨h6, h⟩
      · have h := some_of h
        subst h
        have t_ := tR (bits_Reader_Err_runs l n n2 _ h1) <| tF (not_of2 h2) <| tR (bits_Reader_Left_runs l n n2 _ h3) <| tR (bits_Reader_Left_runs l n n2 _ h3) <| tF h4 <| tR (bits_Reader_Get_runs n3 l n n2 _ h5) <| tF (not_of2 h6) <| tN
        exact runs_of (C := cfg) (objs := [[(.pv (.ints .u8 l false)), (.pv (.int .i64 n)), (.pv (.int .i64 n2))]]) (sc := t_.ev) (.k1 t_.pf (by kernel_rfl) (by kernel_rfl))
      · obtain ⟨n7, h7, h⟩ := bind_of h
        have h := some_of h
        subst h
        have t_ := tR (bits_Reader_Err_runs l n n2 _ h1) <| tF (not_of2 h2) <| tR (bits_Reader_Left_runs l n n2 _ h3) <| tR (bits_Reader_Left_runs l n n2 _ h3) <| tF h4 <| tR (bits_Reader_Get_runs n3 l n n2 _ h5) <| tT (not_of h6) <| tR (bits_Reader_fail_runs l n n6 _ h7) <| tN
        exact runs_of (C := cfg) (objs := [[(.pv (.ints .u8 l false)), (.pv (.int .i64 n)), (.pv (.int .i64 n2))]]) (sc := t_.ev) (.k1 t_.pf (by kernel_rfl) (by kernel_rfl))
  · have h := some_of h
    subst h
    have t_ := tR (bits_Reader_Err_runs l n n2 _ h1) <| tT (not_of h2) <| tR (bits_Reader_Err_runs l n n2 _ h1) <| tN
    exact runs_of (C := cfg) (objs := [[(.pv (.ints .u8 l false)), (.pv (.int .i64 n)), (.pv (.int .i64 n2))]]) (sc := t_.ev) (.k0 t_.pf (by kernel_rfl))
/-! ### stamp_Stamp -/
noncomputable def stamp_Stamp (x : Bool) (x2 : T_id_halves) (x3 : Int) (x4 : T_event_halves) (e : Int) (l : List Int) (n : Int) (n2 : Int) : Option (Bool × T_id_halves × Int × T_event_halves × Int × Int) :=
  bif (decide ((e : Int) = 0)) then
    (bits_Reader_End l n n2).bind fun (n3, n4) =>
    bif (decide ((n3 : Int) = 0)) then
      some (x, x2, x3, x4, 0, n4)
    else
      some (false, T_id_halves.nil, 0, T_event_halves.nil, n3, n4)
  else
    some (false, T_id_halves.nil, 0, T_event_halves.nil, e, n2)
theorem stamp_Stamp_runs (x : Bool) (x2 : T_id_halves) (x3 : Int) (x4 : T_event_halves) (e : Int) (l : List Int) (n : Int) (n2 : Int) (r_ : Bool × T_id_halves × Int × T_event_halves × Int × Int) (h : stamp_Stamp x x2 x3 x4 e l n n2 = some r_) : Runs Tryd.prog 131 [(.one (.ref 0 0)), (.agg [(.pv (.bool x)), (.pv (T_id_halves.pv x2)), (.pv (.int .u64 x3)), (.pv (T_event_halves.pv x4))]), (.one (.pv (.int .i64 e)))] [[(.pv (.ints .u8 l false)), (.pv (.int .i64 n)), (.pv (.int .i64 n2))]] [] (stamp_Stamp_out x x2 x3 x4 e l n n2 r_) := by
  unfold stamp_Stamp at h
  rcases cond_of h with ⟨h1, h⟩ | ⟨h1, h⟩
  · obtain ⟨⟨n3, n4⟩, h2, h⟩ := bind_of h
    rcases cond_of h with ⟨h3, h⟩ | ⟨h3, h⟩
    · have h := some_of h
      subst h
      have t_ := tF (not_of2 h1) <| tR (bits_Reader_End_runs l n n2 _ h2) <| tF (not_of2 h3) <| tN
      exact runs_of (C := cfg) (objs := [[(.pv (.ints .u8 l false)), (.pv (.int .i64 n)), (.pv (.int .i64 n2))]]) (sc := t_.ev) (.k0 t_.pf (by kernel_rfl))
    · have h := some_of h
      subst h
      have t_ := tF (not_of2 h1) <| tR (bits_Reader_End_runs l n n2 _ h2) <| tT (not_of h3) <| tN
      have e_ : Runs Tryd.prog 131 [(.one (.ref 0 0)), (.agg [(.pv (.bool x)), (.pv (T_id_halves.pv x2)), (.pv (.int .u64 x3)), (.pv (T_event_halves.pv x4))]), (.one (.pv (.int .i64 e)))] [[(.pv (.ints .u8 l false)), (.pv (.int .i64 n)), (.pv (.int .i64 n2))]] [] ([(.agg [(.pv (.bool false)), (.pv .nilp), (.pv (.int .u64 0)), (.pv .nilp)]), (.one (.pv (.int .i64 n3)))], [[(.pv (.ints .u8 l false)), (.pv (.int .i64 n)), (.pv (.int .i64 n4))]], []) := runs_of (C := cfg) (objs := [[(.pv (.ints .u8 l false)), (.pv (.int .i64 n)), (.pv (.int .i64 n2))]]) (sc := t_.ev) (.k0 t_.pf (by kernel_rfl))
      exact e_.out ⟨⟨.eq rfl, .eq rfl, .eq rfl, .eq rfl, trivial⟩, .eq rfl, trivial⟩ ⟨⟨.eq rfl, .eq rfl, .eq rfl, trivial⟩, trivial⟩ trivial rfl
  · have h := some_of h
    subst h
    have t_ := tT (not_of h1) <| tN
    have e_ : Runs Tryd.prog 131 [(.one (.ref 0 0)), (.agg [(.pv (.bool x)), (.pv (T_id_halves.pv x2)), (.pv (.int .u64 x3)), (.pv (T_event_halves.pv x4))]), (.one (.pv (.int .i64 e)))] [[(.pv (.ints .u8 l false)), (.pv (.int .i64 n)), (.pv (.int .i64 n2))]] [] ([(.agg [(.pv (.bool false)), (.pv .nilp), (.pv (.int .u64 0)), (.pv .nilp)]), (.one (.pv (.int .i64 e)))], [[(.pv (.ints .u8 l false)), (.pv (.int .i64 n)), (.pv (.int .i64 n2))]], []) := runs_of (C := cfg) (objs := [[(.pv (.ints .u8 l false)), (.pv (.int .i64 n)), (.pv (.int .i64 n2))]]) (sc := t_.ev) (.k0 t_.pf (by kernel_rfl))
    exact e_.out ⟨⟨.eq rfl, .eq rfl, .eq rfl, .eq rfl, trivial⟩, .eq rfl, trivial⟩ ⟨⟨.eq rfl, .eq rfl, .eq rfl, trivial⟩, trivial⟩ trivial rfl
/-! ### code_ReadStamp -/
noncomputable def code_ReadStamp (N : Nat) (p : List Int) : Option (Bool × T_id_halves × Int × T_event_halves × Int) :=
  (bits_NewReader p).bind fun _ =>
  (code_GetID N p 0 0).bind fun (b, t, n, n2, n3) =>
  bif (decide ((n : Int) = 0)) then
    (code_GetEvent N p n2 n3).bind fun (n4, t2, n5, n6, n7) =>
    (stamp_Stamp b t n4 t2 n5 p n6 n7).bind fun (b2, t3, n8, t4, n9, n10) =>
    some (b2, t3, n8, t4, n9)
  else
    some (false, T_id_halves.nil, 0, T_event_halves.nil, n)
theorem code_ReadStamp_runs (N : Nat) (p : List Int) (r_ : Bool × T_id_halves × Int × T_event_halves × Int) (h : code_ReadStamp N p = some r_) : Runs Tryd.prog 81 [(.one (.pv (.ints .u8 p false)))] [] [] (code_ReadStamp_out p r_) := by
  unfold code_ReadStamp at h
  obtain ⟨_, h1, h⟩ := bind_of h
  obtain ⟨⟨b, t, n, n2, n3⟩, h2, h⟩ := bind_of h
  rcases cond_of h with ⟨h3, h⟩ | ⟨h3, h⟩
  · obtain ⟨⟨n4, t2, n5, n6, n7⟩, h4, h⟩ := bind_of h
    obtain ⟨⟨b2, t3, n8, t4, n9, n10⟩, h5, h⟩ := bind_of h
    have h := some_of h
    subst h
    have t_ := tR (bits_NewReader_runs p _ h1) <| tR (code_GetID_runs N p 0 0 _ h2) <| tF (not_of2 h3) <| tR (code_GetEvent_runs N p n2 n3 _ h4) <| tR (stamp_Stamp_runs b t n4 t2 n5 p n6 n7 _ h5) <| tN
    exact runs_of (C := cfg) (objs := []) (sc := t_.ev) (.k0 t_.pf (by kernel_rfl))
  · have h := some_of h
    subst h
    have t_ := tR (bits_NewReader_runs p _ h1) <| tR (code_GetID_runs N p 0 0 _ h2) <| tT (not_of h3) <| tN
    have e_ : Runs Tryd.prog 81 [(.one (.pv (.ints .u8 p false)))] [] [] ([(.agg [(.pv (.bool false)), (.pv .nilp), (.pv (.int .u64 0)), (.pv .nilp)]), (.one (.pv (.int .i64 n)))], [], []) := runs_of (C := cfg) (objs := []) (sc := t_.ev) (.k0 t_.pf (by kernel_rfl))
    exact e_.out ⟨⟨.eq rfl, .eq rfl, .eq rfl, .eq rfl, trivial⟩, .eq rfl, trivial⟩ trivial trivial rfl
/-! ### kinfolkref07_ReadStamp_out -/
def kinfolkref07_ReadStamp_out (p : List Int) : T_kinfolkref01_ID × T_kinfolkref02_Event × Int → Res
  | (r1, r2, r3) => ([(.agg [(.pv (T_kinfolkref01_ID.pv r1)), (.pv (T_kinfolkref02_Event.pv r2))]), (.one (.pv (.int .i64 r3)))], [], [])
/-! ### kinfolkref05_Bits_out -/
def kinfolkref05_Bits_out (p : List Int) : List Bool → Res
  | r1 => ([(.one (.own 0 0 (r1).length false))], [], [(.bools r1)])
/-! ### kinfolkref05_Bits_L1_3 -/
def kinfolkref05_Bits_L1_3_st (l : List Int) (n : Int) (n2 : Int) : Int × Int × List Bool → St
  | (b, k, l2) => ⟨[(3, (.av (.one (.own 0 0 (l2).length false)))), (5, (.av (.one (.pv (.int .u8 b))))), (6, (.av (.one (.pv (.int .i64 k))))), (7, (.av (.one (.pv (.ints .u8 l false))))), (8, (.av (.one (.pv (.int .i64 n))))), (9, (.av (.one (.pv (.int .i64 n2)))))], [], [(0, (.live (.bools l2)))]⟩
def kinfolkref05_Bits_L1_3_ex (l : List Int) (n : Int) (n2 : Int) : List Bool → Ex × St
  | r1 => ((.exit 2), ⟨[(3, (.av (.one (.own 0 0 (r1).length false)))), (7, (.av (.one (.pv (.ints .u8 l false))))), (8, (.av (.one (.pv (.int .i64 n))))), (9, (.av (.one (.pv (.int .i64 n2)))))], [], [(0, (.live (.bools r1)))]⟩)
noncomputable def kinfolkref05_Bits_L1_3_step (l : List Int) (n : Int) (n2 : Int) : Int × Int × List Bool → Option ((Int × Int × List Bool) ⊕ (List Bool))
  | (b, k, l2) =>
  bif (decide ((k : Int) < 8)) then
    bif fits ((l2 ++ [(decide ((128 : Int) ≤ b))])).length then
    some (.inl ((imul .u8 b 2), (iadd .i64 k 1), (l2 ++ [(decide ((128 : Int) ≤ b))])))
    else none
  else
    some (.inr l2)
theorem kinfolkref05_Bits_L1_3_ok (l : List Int) (n : Int) (n2 : Int) (s_ : Int × Int × List Bool) (z_ : (Int × Int × List Bool) ⊕ (List Bool)) (h : kinfolkref05_Bits_L1_3_step l n n2 s_ = some z_) : RoundOk Tryd.prog cfg 75 0 (loopAt Tryd.prog 75 1) (kinfolkref05_Bits_L1_3_st l n n2) (kinfolkref05_Bits_L1_3_ex l n n2) s_ z_ := by
  rcases s_ with ⟨b, k, l2⟩
  rcases cond_of h with ⟨h1, h⟩ | ⟨h1, h⟩
  · obtain ⟨h2, h⟩ := need_of h
    have h := some_of h
    subst h
    have t_ := tT h1 <| tO (show (Nat.beq (l2).length (l2).length) = true from Nat.beq_refl _) <| tO h2 <| tN
    exact ⟨t_.ev, kinfolkref05_Bits_L1_3_st l n n2 ((imul .u8 b 2), (iadd .i64 k 1), (l2 ++ [(decide ((128 : Int) ≤ b))])), .k0 t_.pf (by kernel_rfl), .same (by kernel_rfl)⟩
  · have h := some_of h
    subst h
    have t_ := tF h1 <| tN
    exact ⟨t_.ev, ⟨[(14, (.av (.one (.pv (.bool false))))), (3, (.av (.one (.own 0 0 (l2).length false)))), (5, (.av (.one (.pv (.int .u8 b))))), (6, (.av (.one (.pv (.int .i64 k))))), (7, (.av (.one (.pv (.ints .u8 l false))))), (8, (.av (.one (.pv (.int .i64 n))))), (9, (.av (.one (.pv (.int .i64 n2))))), (14, (.av (.one (.pv (.bool (decide ((k : Int) < 8)))))))], [], [(0, (.live (.bools l2)))]⟩, .k0 t_.pf (by kernel_rfl), ⟨⟨⟨_, rfl, .eq rfl⟩, ⟨_, rfl, .eq rfl⟩, ⟨_, rfl, .eq rfl⟩, ⟨_, rfl, .eq rfl⟩, trivial⟩, trivial, ⟨⟨rfl, .eq rfl⟩, trivial⟩⟩⟩
theorem kinfolkref05_Bits_L1_3_runs (l : List Int) (n : Int) (n2 : Int) (s_ : Int × Int × List Bool) (r_ : List Bool) (h : runL (kinfolkref05_Bits_L1_3_step l n n2) s_ = some r_) : LRuns Tryd.prog (lEnv Tryd.prog cfg 75 0).nt 0 (.loop (loopAt Tryd.prog 75 1)) (kinfolkref05_Bits_L1_3_st l n n2 s_) (kinfolkref05_Bits_L1_3_ex l n n2 r_).1 (kinfolkref05_Bits_L1_3_ex l n n2 r_).2 :=
  loop_run h (kinfolkref05_Bits_L1_3_ok l n n2) (by intro r_; rcases r_ with r1 <;> simp [kinfolkref05_Bits_L1_3_ex])
/-! ### kinfolkref05_Bits_L0_2 -/
def kinfolkref05_Bits_L0_2_st (l : List Int) (n : Int) : Int × List Bool → St
  | (n2, l2) => ⟨[(3, (.av (.one (.own 0 0 (l2).length false)))), (7, (.av (.one (.pv (.ints .u8 l false))))), (8, (.av (.one (.pv (.int .i64 n))))), (9, (.av (.one (.pv (.int .i64 n2)))))], [], [(0, (.live (.bools l2)))]⟩
def kinfolkref05_Bits_L0_2_ex (l : List Int) (n : Int) : List Bool → Ex × St
  | r1 => ((.exit 0), ⟨[(3, (.av (.one (.own 0 0 (r1).length false))))], [], [(0, (.live (.bools r1)))]⟩)
noncomputable def kinfolkref05_Bits_L0_2_step (l : List Int) (n : Int) : Int × List Bool → Option ((Int × List Bool) ⊕ (List Bool))
  | (n2, l2) =>
  bif (decide ((n2 : Int) < n)) then
    bif decide ((0 : Int) ≤ n2) && decide ((n2 : Int) < ((l).length : Int)) then
    (runL (kinfolkref05_Bits_L1_3_step l n n2) ((l.getD (n2).toNat 0), 0, l2)).bind fun l_ =>
    some (.inl ((iadd .i64 n2 1), l_))
    else none
  else
    some (.inr l2)
theorem kinfolkref05_Bits_L0_2_ok (l : List Int) (n : Int) (s_ : Int × List Bool) (z_ : (Int × List Bool) ⊕ (List Bool)) (h : kinfolkref05_Bits_L0_2_step l n s_ = some z_) : RoundOk Tryd.prog cfg 75 0 (loopAt Tryd.prog 75 0) (kinfolkref05_Bits_L0_2_st l n) (kinfolkref05_Bits_L0_2_ex l n) s_ z_ := by
  rcases s_ with ⟨n2, l2⟩
  rcases cond_of h with ⟨h1, h⟩ | ⟨h1, h⟩
  · obtain ⟨h2, h⟩ := need_of h
    obtain ⟨l_, h3, h⟩ := bind_of h
    have h := some_of h
    subst h
    have t_ := tT h1 <| tO h2 <| tL (kinfolkref05_Bits_L1_3_runs l n n2 _ _ h3) <| tN
    exact ⟨t_.ev, kinfolkref05_Bits_L0_2_st l n ((iadd .i64 n2 1), l_), .k0 t_.pf (by kernel_rfl), .same (by kernel_rfl)⟩
  · have h := some_of h
    subst h
    have t_ := tF h1 <| tN
    exact ⟨t_.ev, ⟨[(10, (.av (.one (.pv (.bool false))))), (3, (.av (.one (.own 0 0 (l2).length false)))), (7, (.av (.one (.pv (.ints .u8 l false))))), (8, (.av (.one (.pv (.int .i64 n))))), (9, (.av (.one (.pv (.int .i64 n2))))), (10, (.av (.one (.pv (.bool (decide ((n2 : Int) < n)))))))], [], [(0, (.live (.bools l2)))]⟩, .k0 t_.pf (by kernel_rfl), ⟨⟨⟨_, rfl, .eq rfl⟩, trivial⟩, trivial, ⟨⟨rfl, .eq rfl⟩, trivial⟩⟩⟩
theorem kinfolkref05_Bits_L0_2_runs (l : List Int) (n : Int) (s_ : Int × List Bool) (r_ : List Bool) (h : runL (kinfolkref05_Bits_L0_2_step l n) s_ = some r_) : LRuns Tryd.prog (lEnv Tryd.prog cfg 75 0).nt 0 (.loop (loopAt Tryd.prog 75 0)) (kinfolkref05_Bits_L0_2_st l n s_) (kinfolkref05_Bits_L0_2_ex l n r_).1 (kinfolkref05_Bits_L0_2_ex l n r_).2 :=
  loop_run h (kinfolkref05_Bits_L0_2_ok l n) (by intro r_; rcases r_ with r1 <;> simp [kinfolkref05_Bits_L0_2_ex])
/-! ### kinfolkref05_Bits -/
noncomputable def kinfolkref05_Bits (p : List Int) : Option (List Bool) :=
  (runL (kinfolkref05_Bits_L0_2_step p ((p).length : Int)) (0, [])).bind fun l_ =>
  some l_
theorem kinfolkref05_Bits_runs (p : List Int) (r_ : List Bool) (h : kinfolkref05_Bits p = some r_) : Runs Tryd.prog 75 [(.one (.pv (.ints .u8 p false)))] [] [] (kinfolkref05_Bits_out p r_) := by
  unfold kinfolkref05_Bits at h
  obtain ⟨l_, h1, h⟩ := bind_of h
  have h := some_of h
  subst h
  have t_ := tL (LRuns.coe (s0 := ⟨[(3, (.av (.one (.own 0 0 0 false)))), (7, (.av (.one (.pv (.ints .u8 p false))))), (8, (.av (.one (.pv (.int .i64 ((p).length : Int)))))), (9, (.av (.one (.pv (.int .i64 0)))))], [], [(0, (.live (.bools [])))]⟩) (kinfolkref05_Bits_L0_2_runs p ((p).length : Int) _ _ h1) ⟨⟨⟨_, rfl, .own (by first | rfl | (simp only [List.take_length]; done) | (simp only [List.take_length, List.length_append, List.drop_zero, List.map_append, List.map_take, List.map_drop, List.map_cons, List.map_nil, List.append_nil, List.nil_append, E_event_Event.pv]; done) | (simp; done))⟩, ⟨_, rfl, .eq rfl⟩, ⟨_, rfl, .eq rfl⟩, ⟨_, rfl, .eq rfl⟩, trivial⟩, trivial, ⟨⟨rfl, .eq rfl⟩, trivial⟩⟩) <| tN
  exact runs_of (C := cfg) (objs := []) (sc := t_.ev) (.k0 t_.pf (by kernel_rfl))
/-! ### kinfolkref07_GetID_3_out -/
def kinfolkref07_GetID_3_out (depth : Int) (n : Int) (l : List Bool) : T_kinfolkref01_ID × Int × List Bool × Int → Res
  | (r1, r2, r3, r4) => ([(.one (.pv (T_kinfolkref01_ID.pv r1))), (.one (.pv (.int .i64 r2)))], [[(.pv (.bools r3 false)), (.pv (.int .i64 r4))]], [])
/-! ### kinfolkref05_Get_out -/
def kinfolkref05_Get_out (k : Int) (n : Int) (l : List Bool) : Int × List Bool × Int → Res
  | (r1, r2, r3) => ([(.one (.pv (.int .u64 r1)))], [[(.pv (.bools r2 false)), (.pv (.int .i64 r3))]], [])
/-! ### kinfolkref05_within_out -/
def kinfolkref05_within_out (k : Int) : Int → Res
  | r1 => ([(.one (.pv (.int .i64 r1)))], [], [])
/-! ### kinfolkref05_within -/
noncomputable def kinfolkref05_within (k : Int) : Option (Int) :=
  bif (decide ((k : Int) < 0)) then
    some 0
  else
    bif (decide ((64 : Int) < k)) then
      some 64
    else
      some k
theorem kinfolkref05_within_runs (k : Int) (r_ : Int) (h : kinfolkref05_within k = some r_) : Runs Tryd.prog 151 [(.one (.pv (.int .i64 k)))] [] [] (kinfolkref05_within_out k r_) := by
  unfold kinfolkref05_within at h
  rcases cond_of h with ⟨h1, h⟩ | ⟨h1, h⟩
  · have h := some_of h
    subst h
    have t_ := tT h1 <| tN
    exact runs_of (C := cfg) (objs := []) (sc := t_.ev) (.k0 t_.pf (by kernel_rfl))
  · rcases cond_of h with ⟨h2, h⟩ | ⟨h2, h⟩
    · have h := some_of h
      subst h
      have t_ := tF h1 <| tT h2 <| tN
      exact runs_of (C := cfg) (objs := []) (sc := t_.ev) (.k0 t_.pf (by kernel_rfl))
    · have h := some_of h
      subst h
      have t_ := tF h1 <| tF h2 <| tN
      exact runs_of (C := cfg) (objs := []) (sc := t_.ev) (.k0 t_.pf (by kernel_rfl))
/-! ### kinfolkref05_Get_L0 -/
def kinfolkref05_Get_L0_st (k : Int) (k2 : Nat) (n : Int) (n2 : Int) (l : List Bool) : Int × Int → St
  | (n3, n4) => ⟨[(0, (.av (.one (.ref 0 0)))), (1, (.av (.one (.pv (.int .i64 k))))), (5, (.av (.one (.pv (.int .u64 n3))))), (30, (.av (.one (.own 0 0 k2 false)))), (31, (.av (.one (.pv (.int .i64 n))))), (32, (.av (.one (.pv (.int .i64 n4)))))], [(0, [(.own 0 0 (l).length false), (.pv (.int .i64 n2))])], [(0, (.live (.bools l)))]⟩
def kinfolkref05_Get_L0_ex (k : Int) (k2 : Nat) (n : Int) (n2 : Int) (l : List Bool) : Int → Ex × St
  | r1 => ((.exit 0), ⟨[(0, (.av (.one (.ref 0 0)))), (1, (.av (.one (.pv (.int .i64 k))))), (5, (.av (.one (.pv (.int .u64 r1)))))], [(0, [(.own 0 0 (l).length false), (.pv (.int .i64 n2))])], [(0, (.live (.bools l)))]⟩)
noncomputable def kinfolkref05_Get_L0_step (k : Int) (k2 : Nat) (n : Int) (n2 : Int) (l : List Bool) : Int × Int → Option ((Int × Int) ⊕ (Int))
  | (n3, n4) =>
  bif (decide ((n4 : Int) < n)) then
    bif decide ((0 : Int) ≤ n4) && decide ((n4 : Int) < (k2 : Int)) then
    bif (l.getD (0 + (n4).toNat) false) then
      some (.inl ((iadd .u64 (imul .u64 n3 2) 1), (iadd .i64 n4 1)))
    else
      some (.inl ((imul .u64 n3 2), (iadd .i64 n4 1)))
    else none
  else
    some (.inr n3)
theorem kinfolkref05_Get_L0_ok (k : Int) (k2 : Nat) (n : Int) (n2 : Int) (l : List Bool) (s_ : Int × Int) (z_ : (Int × Int) ⊕ (Int)) (h : kinfolkref05_Get_L0_step k k2 n n2 l s_ = some z_) : RoundOk Tryd.prog cfg 123 1 (loopAt Tryd.prog 123 0) (kinfolkref05_Get_L0_st k k2 n n2 l) (kinfolkref05_Get_L0_ex k k2 n n2 l) s_ z_ := by
  rcases s_ with ⟨n3, n4⟩
  rcases cond_of h with ⟨h1, h⟩ | ⟨h1, h⟩
  · obtain ⟨h2, h⟩ := need_of h
    rcases cond_of h with ⟨h3, h⟩ | ⟨h3, h⟩
    · have h := some_of h
      subst h
      have t_ := tT h1 <| tO h2 <| tT h3 <| tN
      exact ⟨t_.ev, kinfolkref05_Get_L0_st k k2 n n2 l ((iadd .u64 (imul .u64 n3 2) 1), (iadd .i64 n4 1)), .k0 t_.pf (by kernel_rfl), .same (by kernel_rfl)⟩
    · have h := some_of h
      subst h
      have t_ := tT h1 <| tO h2 <| tF h3 <| tN
      exact ⟨t_.ev, kinfolkref05_Get_L0_st k k2 n n2 l ((imul .u64 n3 2), (iadd .i64 n4 1)), .k0 t_.pf (by kernel_rfl), .same (by kernel_rfl)⟩
  · have h := some_of h
    subst h
    have t_ := tF h1 <| tN
    exact ⟨t_.ev, ⟨[(33, (.av (.one (.pv (.bool false))))), (0, (.av (.one (.ref 0 0)))), (1, (.av (.one (.pv (.int .i64 k))))), (5, (.av (.one (.pv (.int .u64 n3))))), (30, (.av (.one (.own 0 0 k2 false)))), (31, (.av (.one (.pv (.int .i64 n))))), (32, (.av (.one (.pv (.int .i64 n4))))), (33, (.av (.one (.pv (.bool (decide ((n4 : Int) < n)))))))], [(0, [(.own 0 0 (l).length false), (.pv (.int .i64 n2))])], [(0, (.live (.bools l)))]⟩, .k0 t_.pf (by kernel_rfl), ⟨⟨⟨_, rfl, .eq rfl⟩, ⟨_, rfl, .eq rfl⟩, ⟨_, rfl, .eq rfl⟩, trivial⟩, ⟨⟨rfl, ⟨.eq rfl, .eq rfl, trivial⟩⟩, trivial⟩, ⟨⟨rfl, .eq rfl⟩, trivial⟩⟩⟩
theorem kinfolkref05_Get_L0_runs (k : Int) (k2 : Nat) (n : Int) (n2 : Int) (l : List Bool) (s_ : Int × Int) (r_ : Int) (h : runL (kinfolkref05_Get_L0_step k k2 n n2 l) s_ = some r_) : LRuns Tryd.prog (lEnv Tryd.prog cfg 123 1).nt 1 (.loop (loopAt Tryd.prog 123 0)) (kinfolkref05_Get_L0_st k k2 n n2 l s_) (kinfolkref05_Get_L0_ex k k2 n n2 l r_).1 (kinfolkref05_Get_L0_ex k k2 n n2 l r_).2 :=
  loop_run h (kinfolkref05_Get_L0_ok k k2 n n2 l) (by intro r_; rcases r_ with r1 <;> simp [kinfolkref05_Get_L0_ex])
/-! ### kinfolkref05_Get -/
noncomputable def kinfolkref05_Get (k : Int) (n : Int) (l : List Bool) : Option (Int × List Bool × Int) :=
  (kinfolkref05_within k).bind fun n2 =>
  bif (decide ((n : Int) = 0)) then
    bif (decide ((((l).length : Int) : Int) < n2)) then
      some (0, l, 6)
    else
      bif decide ((0 : Int) ≤ 0) && decide ((0 : Int) ≤ n2) && decide ((n2 : Int) ≤ ((l).length : Int)) && decide ((n2 : Int) = n2) then
      (runL (kinfolkref05_Get_L0_step n2 ((n2 - 0).toNat) ((n2 - 0).toNat : Int) n l) (0, 0)).bind fun n3 =>
      bif decide ((0 : Int) ≤ n2) && decide ((n2 : Int) ≤ ((l).length : Int)) && decide ((((l).length : Int) : Int) ≤ ((l).length : Int)) && decide ((((l).length : Int) : Int) = ((l).length : Int)) then
      some (n3, (List.take (((l).length : Int) - n2).toNat (List.drop (0 + (n2).toNat) l)), n)
      else none
      else none
  else
    some (0, l, n)
theorem kinfolkref05_Get_runs (k : Int) (n : Int) (l : List Bool) (r_ : Int × List Bool × Int) (h : kinfolkref05_Get k n l = some r_) : Runs Tryd.prog 123 [(.one (.ref 0 0)), (.one (.pv (.int .i64 k)))] [[(.own 0 0 (l).length false), (.pv (.int .i64 n))]] [(.bools l)] (kinfolkref05_Get_out k n l r_) := by
  unfold kinfolkref05_Get at h
  obtain ⟨n2, h1, h⟩ := bind_of h
  rcases cond_of h with ⟨h2, h⟩ | ⟨h2, h⟩
  · rcases cond_of h with ⟨h3, h⟩ | ⟨h3, h⟩
    · have h := some_of h
      subst h
      have t_ := tR (kinfolkref05_within_runs k _ h1) <| tF (not_of2 h2) <| tT h3 <| tN
      have e_ : Runs Tryd.prog 123 [(.one (.ref 0 0)), (.one (.pv (.int .i64 k)))] [[(.own 0 0 (l).length false), (.pv (.int .i64 n))]] [(.bools l)] ([(.one (.pv (.int .u64 0)))], [[(.own 0 0 (l).length false), (.pv (.int .i64 6))]], [(.bools l)]) := runs_of (C := cfg) (objs := [[(.own 0 0 (l).length false), (.pv (.int .i64 n))]]) (sc := t_.ev) (.k0 t_.pf (by kernel_rfl))
      have e_ := e_.shut (res' := ([(.one (.pv (.int .u64 0)))], [[(.pv (.bools (List.take (l).length l) false)), (.pv (.int .i64 6))]], [])) [0] (by kernel_rfl)
      exact e_.out ⟨.eq rfl, trivial⟩ ⟨⟨.pv (.bools (by first | rfl | (simp only [List.take_length]; done) | (simp only [List.take_length, List.length_append, List.drop_zero, List.map_append, List.map_take, List.map_drop, List.map_cons, List.map_nil, List.append_nil, List.nil_append, E_event_Event.pv]; done) | (simp; done))), .eq rfl, trivial⟩, trivial⟩ trivial rfl
    · obtain ⟨h4, h⟩ := need_of h
      obtain ⟨n3, h5, h⟩ := bind_of h
      obtain ⟨h6, h⟩ := need_of h
      have h := some_of h
      subst h
      have t_ := tR (kinfolkref05_within_runs k _ h1) <| tF (not_of2 h2) <| tF h3 <| tO h4 <| tL (kinfolkref05_Get_L0_runs n2 ((n2 - 0).toNat) ((n2 - 0).toNat : Int) n l _ _ h5) <| tO h6 <| tN
      have e_ : Runs Tryd.prog 123 [(.one (.ref 0 0)), (.one (.pv (.int .i64 k)))] [[(.own 0 0 (l).length false), (.pv (.int .i64 n))]] [(.bools l)] ([(.one (.pv (.int .u64 n3)))], [[(.own 0 (0 + (n2).toNat) (((l).length : Int) - n2).toNat false), (.pv (.int .i64 n))]], [(.bools l)]) := runs_of (C := cfg) (objs := [[(.own 0 0 (l).length false), (.pv (.int .i64 n))]]) (sc := t_.ev) (.k0 t_.pf (by kernel_rfl))
      have e_ := e_.shut (res' := ([(.one (.pv (.int .u64 n3)))], [[(.pv (.bools (List.take (((l).length : Int) - n2).toNat (List.drop (0 + (n2).toNat) l)) false)), (.pv (.int .i64 n))]], [])) [0] (by kernel_rfl)
      exact e_
  · have h := some_of h
    subst h
    have t_ := tR (kinfolkref05_within_runs k _ h1) <| tT (not_of h2) <| tN
    have e_ : Runs Tryd.prog 123 [(.one (.ref 0 0)), (.one (.pv (.int .i64 k)))] [[(.own 0 0 (l).length false), (.pv (.int .i64 n))]] [(.bools l)] ([(.one (.pv (.int .u64 0)))], [[(.own 0 0 (l).length false), (.pv (.int .i64 n))]], [(.bools l)]) := runs_of (C := cfg) (objs := [[(.own 0 0 (l).length false), (.pv (.int .i64 n))]]) (sc := t_.ev) (.k0 t_.pf (by kernel_rfl))
    have e_ := e_.shut (res' := ([(.one (.pv (.int .u64 0)))], [[(.pv (.bools (List.take (l).length l) false)), (.pv (.int .i64 n))]], [])) [0] (by kernel_rfl)
    exact e_.out ⟨.eq rfl, trivial⟩ ⟨⟨.pv (.bools (by first | rfl | (simp only [List.take_length]; done) | (simp only [List.take_length, List.length_append, List.drop_zero, List.map_append, List.map_take, List.map_drop, List.map_cons, List.map_nil, List.append_nil, List.nil_append, E_event_Event.pv]; done) | (simp; done))), .eq rfl, trivial⟩, trivial⟩ trivial rfl
/-! ### kinfolkref05_Get_2_out -/
def kinfolkref05_Get_2_out (k : Int) (l : List Bool) (n : Int) : Int × List Bool × Int → Res
  | (r1, r2, r3) => ([(.one (.pv (.int .u64 r1)))], [[(.pv (.bools r2 false)), (.pv (.int .i64 r3))]], [])
/-! ### kinfolkref05_Get_L0_2 -/
def kinfolkref05_Get_L0_2_st (k : Int) (l : List Bool) (n : Int) (l2 : List Bool) (n2 : Int) : Int × Int → St
  | (n3, n4) => ⟨[(0, (.av (.one (.ref 0 0)))), (1, (.av (.one (.pv (.int .i64 k))))), (5, (.av (.one (.pv (.int .u64 n3))))), (30, (.av (.one (.pv (.bools l false))))), (31, (.av (.one (.pv (.int .i64 n))))), (32, (.av (.one (.pv (.int .i64 n4)))))], [(0, [(.pv (.bools l2 false)), (.pv (.int .i64 n2))])], []⟩
def kinfolkref05_Get_L0_2_ex (k : Int) (l : List Bool) (n : Int) (l2 : List Bool) (n2 : Int) : Int → Ex × St
  | r1 => ((.exit 0), ⟨[(0, (.av (.one (.ref 0 0)))), (1, (.av (.one (.pv (.int .i64 k))))), (5, (.av (.one (.pv (.int .u64 r1)))))], [(0, [(.pv (.bools l2 false)), (.pv (.int .i64 n2))])], []⟩)
noncomputable def kinfolkref05_Get_L0_2_step (k : Int) (l : List Bool) (n : Int) (l2 : List Bool) (n2 : Int) : Int × Int → Option ((Int × Int) ⊕ (Int))
  | (n3, n4) =>
  bif (decide ((n4 : Int) < n)) then
    bif decide ((0 : Int) ≤ n4) && decide ((n4 : Int) < ((l).length : Int)) then
    bif (l.getD (n4).toNat false) then
      some (.inl ((iadd .u64 (imul .u64 n3 2) 1), (iadd .i64 n4 1)))
    else
      some (.inl ((imul .u64 n3 2), (iadd .i64 n4 1)))
    else none
  else
    some (.inr n3)
theorem kinfolkref05_Get_L0_2_ok (k : Int) (l : List Bool) (n : Int) (l2 : List Bool) (n2 : Int) (s_ : Int × Int) (z_ : (Int × Int) ⊕ (Int)) (h : kinfolkref05_Get_L0_2_step k l n l2 n2 s_ = some z_) : RoundOk Tryd.prog cfg 123 1 (loopAt Tryd.prog 123 0) (kinfolkref05_Get_L0_2_st k l n l2 n2) (kinfolkref05_Get_L0_2_ex k l n l2 n2) s_ z_ := by
  rcases s_ with ⟨n3, n4⟩
  rcases cond_of h with ⟨h1, h⟩ | ⟨h1, h⟩
  · obtain ⟨h2, h⟩ := need_of h
    rcases cond_of h with ⟨h3, h⟩ | ⟨h3, h⟩
    · have h := some_of h
      subst h
      have t_ := tT h1 <| tO h2 <| tT h3 <| tN
      exact ⟨t_.ev, kinfolkref05_Get_L0_2_st k l n l2 n2 ((iadd .u64 (imul .u64 n3 2) 1), (iadd .i64 n4 1)), .k0 t_.pf (by kernel_rfl), .same (by kernel_rfl)⟩
    · have h := some_of h
      subst h
      have t_ := tT h1 <| tO h2 <| tF h3 <| tN
      exact ⟨t_.ev, kinfolkref05_Get_L0_2_st k l n l2 n2 ((imul .u64 n3 2), (iadd .i64 n4 1)), .k0 t_.pf (by kernel_rfl), .same (by kernel_rfl)⟩
  · have h := some_of h
    subst h
    have t_ := tF h1 <| tN
    exact ⟨t_.ev, ⟨[(33, (.av (.one (.pv (.bool false))))), (0, (.av (.one (.ref 0 0)))), (1, (.av (.one (.pv (.int .i64 k))))), (5, (.av (.one (.pv (.int .u64 n3))))), (30, (.av (.one (.pv (.bools l false))))), (31, (.av (.one (.pv (.int .i64 n))))), (32, (.av (.one (.pv (.int .i64 n4))))), (33, (.av (.one (.pv (.bool (decide ((n4 : Int) < n)))))))], [(0, [(.pv (.bools l2 false)), (.pv (.int .i64 n2))])], []⟩, .k0 t_.pf (by kernel_rfl), ⟨⟨⟨_, rfl, .eq rfl⟩, ⟨_, rfl, .eq rfl⟩, ⟨_, rfl, .eq rfl⟩, trivial⟩, ⟨⟨rfl, ⟨.eq rfl, .eq rfl, trivial⟩⟩, trivial⟩, trivial⟩⟩
theorem kinfolkref05_Get_L0_2_runs (k : Int) (l : List Bool) (n : Int) (l2 : List Bool) (n2 : Int) (s_ : Int × Int) (r_ : Int) (h : runL (kinfolkref05_Get_L0_2_step k l n l2 n2) s_ = some r_) : LRuns Tryd.prog (lEnv Tryd.prog cfg 123 1).nt 1 (.loop (loopAt Tryd.prog 123 0)) (kinfolkref05_Get_L0_2_st k l n l2 n2 s_) (kinfolkref05_Get_L0_2_ex k l n l2 n2 r_).1 (kinfolkref05_Get_L0_2_ex k l n l2 n2 r_).2 :=
  loop_run h (kinfolkref05_Get_L0_2_ok k l n l2 n2) (by intro r_; rcases r_ with r1 <;> simp [kinfolkref05_Get_L0_2_ex])
/-! ### kinfolkref05_Get_2 -/
noncomputable def kinfolkref05_Get_2 (k : Int) (l : List Bool) (n : Int) : Option (Int × List Bool × Int) :=
  (kinfolkref05_within k).bind fun n2 =>
  bif (decide ((n : Int) = 0)) then
    bif (decide ((((l).length : Int) : Int) < n2)) then
      some (0, l, 6)
    else
      bif decide ((0 : Int) ≤ 0) && decide ((0 : Int) ≤ n2) && decide ((n2 : Int) ≤ ((l).length : Int)) && decide ((n2 : Int) = n2) then
      (runL (kinfolkref05_Get_L0_2_step n2 (List.take (n2 - 0).toNat l) (((List.take (n2 - 0).toNat l)).length : Int) l n) (0, 0)).bind fun n3 =>
      bif decide ((0 : Int) ≤ n2) && decide ((n2 : Int) ≤ ((l).length : Int)) && decide ((((l).length : Int) : Int) ≤ ((l).length : Int)) && decide ((((l).length : Int) : Int) = ((l).length : Int)) then
      some (n3, (List.take (((l).length : Int) - n2).toNat (List.drop (n2).toNat l)), n)
      else none
      else none
  else
    some (0, l, n)
theorem kinfolkref05_Get_2_runs (k : Int) (l : List Bool) (n : Int) (r_ : Int × List Bool × Int) (h : kinfolkref05_Get_2 k l n = some r_) : Runs Tryd.prog 123 [(.one (.ref 0 0)), (.one (.pv (.int .i64 k)))] [[(.pv (.bools l false)), (.pv (.int .i64 n))]] [] (kinfolkref05_Get_2_out k l n r_) := by
  unfold kinfolkref05_Get_2 at h
  obtain ⟨n2, h1, h⟩ := bind_of h
  rcases cond_of h with ⟨h2, h⟩ | ⟨h2, h⟩
  · rcases cond_of h with ⟨h3, h⟩ | ⟨h3, h⟩
    · have h := some_of h
      subst h
      have t_ := tR (kinfolkref05_within_runs k _ h1) <| tF (not_of2 h2) <| tT h3 <| tN
      exact runs_of (C := cfg) (objs := [[(.pv (.bools l false)), (.pv (.int .i64 n))]]) (sc := t_.ev) (.k0 t_.pf (by kernel_rfl))
    · obtain ⟨h4, h⟩ := need_of h
      obtain ⟨n3, h5, h⟩ := bind_of h
      obtain ⟨h6, h⟩ := need_of h
      have h := some_of h
      subst h
      have t_ := tR (kinfolkref05_within_runs k _ h1) <| tF (not_of2 h2) <| tF h3 <| tO h4 <| tL (kinfolkref05_Get_L0_2_runs n2 (List.take (n2 - 0).toNat l) (((List.take (n2 - 0).toNat l)).length : Int) l n _ _ h5) <| tO h6 <| tN
      exact runs_of (C := cfg) (objs := [[(.pv (.bools l false)), (.pv (.int .i64 n))]]) (sc := t_.ev) (.k0 t_.pf (by kernel_rfl))
  · have h := some_of h
    subst h
    have t_ := tR (kinfolkref05_within_runs k _ h1) <| tT (not_of h2) <| tN
    exact runs_of (C := cfg) (objs := [[(.pv (.bools l false)), (.pv (.int .i64 n))]]) (sc := t_.ev) (.k0 t_.pf (by kernel_rfl))
/-! ### kinfolkref07_GetID_C21 -/
def kinfolkref07_GetID_C21_ex (depth : Int) (kind : Int) (b : Bool) (l : List Bool) (n : Int) : (T_kinfolkref01_ID × List Bool × Int) ⊕ (List Bool × Int) → Ex × St
  | .inl (r1, r2, r3) => (.ret, ⟨[(4, (.av (.one (.pv (T_kinfolkref01_ID.pv r1))))), (5, (.av (.one (.pv (.int .i64 0)))))], [(0, [(.pv (.bools r2 false)), (.pv (.int .i64 r3))])], []⟩)
  | .inr (r1, r2) => (.normal, ⟨[(0, (.av (.one (.ref 0 0)))), (1, (.av (.one (.pv (.int .i64 depth))))), (6, (.av (.one (.pv (.int .u64 kind)))))], [(0, [(.pv (.bools r1 false)), (.pv (.int .i64 r2))])], []⟩)
noncomputable def kinfolkref07_GetID_C21 (depth : Int) (kind : Int) (b : Bool) (l : List Bool) (n : Int) : Option ((T_kinfolkref01_ID × List Bool × Int) ⊕ (List Bool × Int)) :=
  bif b then
    (kinfolkref05_Get_2 1 l n).bind fun (n2, l_, n3) =>
    bif (decide ((n3 : Int) = 0)) then
      some (.inl ((T_kinfolkref01_ID.mk (IntKind.i64.wrap n2) T_kinfolkref01_ID.nil T_kinfolkref01_ID.nil), l_, n3))
    else
      some (.inr (l_, n3))
  else
    some (.inr (l, n))
theorem kinfolkref07_GetID_C21_runs (depth : Int) (kind : Int) (b : Bool) (l : List Bool) (n : Int) (r_ : (T_kinfolkref01_ID × List Bool × Int) ⊕ (List Bool × Int)) (h : kinfolkref07_GetID_C21 depth kind b l n = some r_) : LRuns Tryd.prog (lEnv Tryd.prog cfg 74 1).nt 1 (.cond (.tmp 21) (condAt Tryd.prog 74 21).1 (condAt Tryd.prog 74 21).2) ⟨[(0, (.av (.one (.ref 0 0)))), (1, (.av (.one (.pv (.int .i64 depth))))), (6, (.av (.one (.pv (.int .u64 kind))))), (21, (.av (.one (.pv (.bool b)))))], [(0, [(.pv (.bools l false)), (.pv (.int .i64 n))])], []⟩ (kinfolkref07_GetID_C21_ex depth kind b l n r_).1 (kinfolkref07_GetID_C21_ex depth kind b l n r_).2 := by
  unfold kinfolkref07_GetID_C21 at h
  rcases cond_of h with ⟨h1, h⟩ | ⟨h1, h⟩
  · obtain ⟨⟨n2, l_, n3⟩, h2, h⟩ := bind_of h
    rcases cond_of h with ⟨h3, h⟩ | ⟨h3, h⟩
    · have h := some_of h
      subst h
      have t_ := tT h1 <| tR (kinfolkref05_Get_2_runs 1 l n _ h2) <| tT h3 <| tN
      exact piece_run (C := cfg) (s1 := ⟨[(4, (.av (.one (.pv (.imm [(.int .i64 (IntKind.i64.wrap n2)), .nilp, .nilp] 0))))), (5, (.av (.one (.pv (.int .i64 0)))))], [(0, [(.pv (.bools l_ false)), (.pv (.int .i64 n3))])], []⟩) (sc := t_.ev) (.k0 t_.pf (by kernel_rfl)) ⟨⟨⟨_, rfl, .eq rfl⟩, ⟨_, rfl, .eq rfl⟩, trivial⟩, ⟨⟨rfl, ⟨.eq rfl, .eq rfl, trivial⟩⟩, trivial⟩, trivial⟩
    · have h := some_of h
      subst h
      have t_ := tT h1 <| tR (kinfolkref05_Get_2_runs 1 l n _ h2) <| tF h3 <| tN
      exact piece_ok (C := cfg) (sc := t_.ev) (.k0 t_.pf (by kernel_rfl))
  · have h := some_of h
    subst h
    have t_ := tF h1 <| tN
    exact piece_ok (C := cfg) (sc := t_.ev) (.k0 t_.pf (by kernel_rfl))
/-! ### kinfolkref01_Zero_out -/
def kinfolkref01_Zero_out : T_kinfolkref01_ID → Res
  | r1 => ([(.one (.pv (T_kinfolkref01_ID.pv r1)))], [], [])
/-! ### kinfolkref01_Zero -/
noncomputable def kinfolkref01_Zero : Option (T_kinfolkref01_ID) :=
  some (T_kinfolkref01_ID.mk 0 T_kinfolkref01_ID.nil T_kinfolkref01_ID.nil)
theorem kinfolkref01_Zero_runs (r_ : T_kinfolkref01_ID) (h : kinfolkref01_Zero = some r_) : Runs Tryd.prog 49 [] [] [] (kinfolkref01_Zero_out r_) := by
  unfold kinfolkref01_Zero at h
  have h := some_of h
  subst h
  have t_ := tN
  have e_ : Runs Tryd.prog 49 [] [] [] ([(.one (.pv (.imm [(.int .i64 0), .nilp, .nilp] 0)))], [], []) := runs_of (C := cfg) (objs := []) (sc := t_.ev) (.k0 t_.pf (by kernel_rfl))
  exact e_.out ⟨.eq rfl, trivial⟩ trivial trivial rfl
/-! ### kinfolkref07_GetID_4_out -/
def kinfolkref07_GetID_4_out (depth : Int) (l : List Bool) (n : Int) : T_kinfolkref01_ID × Int × List Bool × Int → Res
  | (r1, r2, r3, r4) => ([(.one (.pv (T_kinfolkref01_ID.pv r1))), (.one (.pv (.int .i64 r2)))], [[(.pv (.bools r3 false)), (.pv (.int .i64 r4))]], [])
/-! ### kinfolkref07_GetID_C45_2 -/
def kinfolkref07_GetID_C45_2_ex (depth : Int) (kind : Int) (x : T_kinfolkref01_ID) (y : T_kinfolkref01_ID) (b : Bool) (l : List Bool) (n : Int) : (T_kinfolkref01_ID × List Bool × Int) ⊕ (T_kinfolkref01_ID × Int × List Bool × Int) → Ex × St
  | .inl (r1, r2, r3) => (.normal, ⟨[(0, (.av (.one (.ref 0 0)))), (1, (.av (.one (.pv (.int .i64 depth))))), (6, (.av (.one (.pv (.int .u64 kind))))), (8, (.av (.one (.pv (T_kinfolkref01_ID.pv r1))))), (9, (.av (.one (.pv (T_kinfolkref01_ID.pv y)))))], [(0, [(.pv (.bools r2 false)), (.pv (.int .i64 r3))])], []⟩)
  | .inr (r1, r2, r3, r4) => (.ret, ⟨[(4, (.av (.one (.pv (T_kinfolkref01_ID.pv r1))))), (5, (.av (.one (.pv (.int .i64 r2)))))], [(0, [(.pv (.bools r3 false)), (.pv (.int .i64 r4))])], []⟩)
noncomputable def kinfolkref07_GetID_C45_2 (rec_kinfolkref07_GetID_4 : Int → List Bool → Int → Option (T_kinfolkref01_ID × Int × List Bool × Int)) (depth : Int) (kind : Int) (x : T_kinfolkref01_ID) (y : T_kinfolkref01_ID) (b : Bool) (l : List Bool) (n : Int) : Option ((T_kinfolkref01_ID × List Bool × Int) ⊕ (T_kinfolkref01_ID × Int × List Bool × Int)) :=
  bif b then
    (rec_kinfolkref07_GetID_4 (iadd .i64 depth 1) l n).bind fun (t, n2, l_, n3) =>
    bif (decide ((n2 : Int) = 0)) then
      some (.inl (t, l_, n3))
    else
      (kinfolkref01_Zero).bind fun t2 =>
      some (.inr (t2, n2, l_, n3))
  else
    some (.inl (x, l, n))
theorem kinfolkref07_GetID_C45_2_runs (rec_kinfolkref07_GetID_4 : Int → List Bool → Int → Option (T_kinfolkref01_ID × Int × List Bool × Int)) (hrec_kinfolkref07_GetID_4 : ∀ depth l n r_, rec_kinfolkref07_GetID_4 depth l n = some r_ → Runs Tryd.prog 74 [(.one (.ref 0 0)), (.one (.pv (.int .i64 depth)))] [[(.pv (.bools l false)), (.pv (.int .i64 n))]] [] (kinfolkref07_GetID_4_out depth l n r_)) (depth : Int) (kind : Int) (x : T_kinfolkref01_ID) (y : T_kinfolkref01_ID) (b : Bool) (l : List Bool) (n : Int) (r_ : (T_kinfolkref01_ID × List Bool × Int) ⊕ (T_kinfolkref01_ID × Int × List Bool × Int)) (h : kinfolkref07_GetID_C45_2 rec_kinfolkref07_GetID_4 depth kind x y b l n = some r_) : LRuns Tryd.prog (lEnv Tryd.prog cfg 74 1).nt 1 (.cond (.tmp 45) (condAt Tryd.prog 74 45).1 (condAt Tryd.prog 74 45).2) ⟨[(0, (.av (.one (.ref 0 0)))), (1, (.av (.one (.pv (.int .i64 depth))))), (6, (.av (.one (.pv (.int .u64 kind))))), (8, (.av (.one (.pv (T_kinfolkref01_ID.pv x))))), (9, (.av (.one (.pv (T_kinfolkref01_ID.pv y))))), (45, (.av (.one (.pv (.bool b)))))], [(0, [(.pv (.bools l false)), (.pv (.int .i64 n))])], []⟩ (kinfolkref07_GetID_C45_2_ex depth kind x y b l n r_).1 (kinfolkref07_GetID_C45_2_ex depth kind x y b l n r_).2 := by
  unfold kinfolkref07_GetID_C45_2 at h
  rcases cond_of h with ⟨h1, h⟩ | ⟨h1, h⟩
  · obtain ⟨⟨t, n2, l_, n3⟩, h2, h⟩ := bind_of h
    have q_2 := (hrec_kinfolkref07_GetID_4 (iadd .i64 depth 1) l n _ h2)
    rcases cond_of h with ⟨h3, h⟩ | ⟨h3, h⟩
    · have h := some_of h
      subst h
      have t_ := tT h1 <| tR q_2 <| tF (not_of2 h3) <| tN
      exact piece_ok (C := cfg) (sc := t_.ev) (.k0 t_.pf (by kernel_rfl))
    · obtain ⟨t2, h4, h⟩ := bind_of h
      have h := some_of h
      subst h
      have t_ := tT h1 <| tR q_2 <| tT (not_of h3) <| tR (kinfolkref01_Zero_runs _ h4) <| tN
      exact piece_ok (C := cfg) (sc := t_.ev) (.k0 t_.pf (by kernel_rfl))
  · have h := some_of h
    subst h
    have t_ := tF h1 <| tN
    exact piece_ok (C := cfg) (sc := t_.ev) (.k0 t_.pf (by kernel_rfl))

end Go.Proofs.YtjjakdmcnkldoaaDoor
