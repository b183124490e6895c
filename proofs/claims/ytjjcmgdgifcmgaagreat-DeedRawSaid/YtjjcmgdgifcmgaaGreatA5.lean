/- What functions compute, and that they do. -/
import Derived.Test.YtjjcmgdgifcmgaaGreatA4
set_option linter.unusedVariables false
set_option linter.unusedSimpArgs false
set_option maxRecDepth 100000
namespace Go.Proofs.YtjjcmgdgifcmgaaGreat
open Go.Ev
noncomputable def zbW (rec_kr07_GetID_4 : Int → List Bool → Int → Option (zai × Int × List Bool × Int)) (depth : Int) (l : List Bool) (n : Int) : Option (zai × Int × List Bool × Int) :=
 (zdo 2 l n).bind fun (n2, l_, n3) =>
 bif (decide ((n3 : Int) = 0)) then
  (zdC depth n2 (decide ((n2 : Int) = 0)) l_ n3).bind fun z_ => match z_ with
  | .inl (t, l_2, n4) =>
   some (t, 0, l_2, n4)
  | .inr (l_2, n4) =>
   bif (decide ((n4 : Int) = 0)) then
    bif (decide ((depth : Int) = 16)) then
     (zbN).bind fun t =>
     some (t, 3, l_2, n4)
    else
     (zbN).bind fun t =>
     (zec rec_kr07_GetID_4 depth n2 t t (!(decide ((n2 : Int) = 1))) l_2 n4).bind fun z_ => match z_ with
     | .inl (t2, l_3, n5) =>
      (zee rec_kr07_GetID_4 depth n2 t2 t (!(decide ((n2 : Int) = 2))) l_3 n5).bind fun z_ => match z_ with
      | .inl (t3, l_4, n6) =>
       match t2 with
       | .nil =>
        none
       | .mk n7 t4 t5 =>
        bif (decide ((n7 : Int) = 0)) then
         bif (decide ((n2 : Int) = 1)) then
          match t3 with
          | .nil =>
           none
          | .mk n8 t6 t7 =>
           bif (decide ((n8 : Int) = 0)) then
            bif (decide ((n2 : Int) = 2)) then
             bif (decide ((n7 : Int) = 1)) then
              bif (decide ((n8 : Int) = 1)) then
               some (t, 6, l_4, n6)
              else
               some ((zai.mk 2 t2 t3), 0, l_4, n6)
             else
              some ((zai.mk 2 t2 t3), 0, l_4, n6)
            else
             some (t, 6, l_4, n6)
           else
            bif (decide ((n7 : Int) = 1)) then
             bif (decide ((n8 : Int) = 1)) then
              some (t, 6, l_4, n6)
             else
              some ((zai.mk 2 t2 t3), 0, l_4, n6)
            else
             some ((zai.mk 2 t2 t3), 0, l_4, n6)
         else
          some (t, 6, l_4, n6)
        else
         match t3 with
         | .nil =>
          none
         | .mk n8 t6 t7 =>
          bif (decide ((n8 : Int) = 0)) then
           bif (decide ((n2 : Int) = 2)) then
            bif (decide ((n7 : Int) = 1)) then
             bif (decide ((n8 : Int) = 1)) then
              some (t, 6, l_4, n6)
             else
              some ((zai.mk 2 t2 t3), 0, l_4, n6)
            else
             some ((zai.mk 2 t2 t3), 0, l_4, n6)
           else
            some (t, 6, l_4, n6)
          else
           bif (decide ((n7 : Int) = 1)) then
            bif (decide ((n8 : Int) = 1)) then
             some (t, 6, l_4, n6)
            else
             some ((zai.mk 2 t2 t3), 0, l_4, n6)
           else
            some ((zai.mk 2 t2 t3), 0, l_4, n6)
      | .inr (t3, n6, l_4, n7) =>
       some (t3, n6, l_4, n7)
     | .inr (t2, n5, l_3, n6) =>
      some (t2, n5, l_3, n6)
   else
    (zbN).bind fun t =>
    some (t, 6, l_2, n4)
 else
  (zbN).bind fun t =>
  some (t, 6, l_, n3)
theorem zkV (rec_kr07_GetID_4 : Int → List Bool → Int → Option (zai × Int × List Bool × Int)) (hrec_kr07_GetID_4 : ∀ depth l n r_, rec_kr07_GetID_4 depth l n = some r_ → Runs Tryz.prog 130 [(.one (.ref 0 0)), (.one (.pv (.int .i64 depth)))] [[(.pv (.bools l false)), (.pv (.int .i64 n))]] [] (zeb depth l n r_)) (depth : Int) (l : List Bool) (n : Int) (r_ : zai × Int × List Bool × Int) (h : zbW rec_kr07_GetID_4 depth l n = some r_) : Runs Tryz.prog 130 [(.one (.ref 0 0)), (.one (.pv (.int .i64 depth)))] [[(.pv (.bools l false)), (.pv (.int .i64 n))]] [] (zeb depth l n r_) := by
 unfold zbW at h
 obtain ⟨⟨n2, l_, n3⟩, h1, h⟩ := zaf h
 rcases zaj h with ⟨h2, h⟩ | ⟨h2, h⟩
 ·obtain ⟨z_, h3, h⟩ := zaf h
  rcases z_ with ⟨t, l_2, n4⟩ | ⟨l_2, n4⟩
  ·have h := zad h
   subst h
   have t_ := tR (zaw 2 l n _ h1) <| tT h2 <| tL (zd2 depth n2 (decide ((n2 : Int) = 0)) l_ n3 _ h3) <| tN
   exact zah (C := cfg) (sc := t_.ev) (.k0 t_.pf (by kernel_rfl))
  ·have q_3 := (zd2 depth n2 (decide ((n2 : Int) = 0)) l_ n3 _ h3)
   rcases zaj h with ⟨h4, h⟩ | ⟨h4, h⟩
   ·rcases zaj h with ⟨h5, h⟩ | ⟨h5, h⟩
    ·obtain ⟨t, h6, h⟩ := zaf h
     have h := zad h
     subst h
     have t_ := tR (zaw 2 l n _ h1) <| tT h2 <| tL q_3 <| tF (zan h4) <| tT h5 <| tR (zak _ h6) <| tN
     exact zah (C := cfg) (sc := t_.ev) (.k0 t_.pf (by kernel_rfl))
    ·obtain ⟨t, h6, h⟩ := zaf h
     obtain ⟨z_, h7, h⟩ := zaf h
     rcases z_ with ⟨t2, l_3, n5⟩ | ⟨t2, n5, l_3, n6⟩
     ·have q_7 := (zgB rec_kr07_GetID_4 hrec_kr07_GetID_4 depth n2 t t (!(decide ((n2 : Int) = 1))) l_2 n4 _ h7)
      obtain ⟨z_, h8, h⟩ := zaf h
      rcases z_ with ⟨t3, l_4, n6⟩ | ⟨t3, n6, l_4, n7⟩
      ·have q_8 := (zd3 rec_kr07_GetID_4 hrec_kr07_GetID_4 depth n2 t2 t (!(decide ((n2 : Int) = 2))) l_3 n5 _ h8)
       cases t2 with
       | nil =>
        cases h
       | mk n7 t4 t5 =>
        rcases zaj h with ⟨h9, h⟩ | ⟨h9, h⟩
        ·rcases zaj h with ⟨h10, h⟩ | ⟨h10, h⟩
         ·cases t3 with
          | nil =>
           cases h
          | mk n8 t6 t7 =>
           rcases zaj h with ⟨h11, h⟩ | ⟨h11, h⟩
           ·rcases zaj h with ⟨h12, h⟩ | ⟨h12, h⟩
            ·rcases zaj h with ⟨h13, h⟩ | ⟨h13, h⟩
             ·rcases zaj h with ⟨h14, h⟩ | ⟨h14, h⟩
              ·have h := zad h
               subst h
               have t_ := tR (zaw 2 l n _ h1) <| tT h2 <| tL q_3 <| tF (zan h4) <| tF h5 <| tR (zak _ h6) <| tR (zak _ h6) <| tL q_7 <| tL q_8 <| tT h9 <| tF (zan h10) <| tT h11 <| tF (zan h12) <| tT h13 <| tT h14 <| tR (zak _ h6) <| tN
               exact zah (C := cfg) (sc := t_.ev) (.k0 t_.pf (by kernel_rfl))
              ·have h := zad h
               subst h
               have t_ := tR (zaw 2 l n _ h1) <| tT h2 <| tL q_3 <| tF (zan h4) <| tF h5 <| tR (zak _ h6) <| tR (zak _ h6) <| tL q_7 <| tL q_8 <| tT h9 <| tF (zan h10) <| tT h11 <| tF (zan h12) <| tT h13 <| tF h14 <| tN
               exact Runs.out (zah (C := cfg) (res := ([(.one (.pv (.imm [(.int .i64 2), (zai.pv (zai.mk n7 t4 t5)), (zai.pv (zai.mk n8 t6 t7))] 0))), (.one (.pv (.int .i64 0)))], [[(.pv (.bools l_4 false)), (.pv (.int .i64 n6))]], [])) (sc := t_.ev) (.k0 t_.pf (by kernel_rfl))) ⟨.eq rfl, .eq rfl, trivial⟩ ⟨⟨.eq rfl, .eq rfl, trivial⟩, trivial⟩ trivial rfl
             ·have h := zad h
              subst h
              have t_ := tR (zaw 2 l n _ h1) <| tT h2 <| tL q_3 <| tF (zan h4) <| tF h5 <| tR (zak _ h6) <| tR (zak _ h6) <| tL q_7 <| tL q_8 <| tT h9 <| tF (zan h10) <| tT h11 <| tF (zan h12) <| tF h13 <| tF (rfl : false = false) <| tN
              exact Runs.out (zah (C := cfg) (res := ([(.one (.pv (.imm [(.int .i64 2), (zai.pv (zai.mk n7 t4 t5)), (zai.pv (zai.mk n8 t6 t7))] 0))), (.one (.pv (.int .i64 0)))], [[(.pv (.bools l_4 false)), (.pv (.int .i64 n6))]], [])) (sc := t_.ev) (.k0 t_.pf (by kernel_rfl))) ⟨.eq rfl, .eq rfl, trivial⟩ ⟨⟨.eq rfl, .eq rfl, trivial⟩, trivial⟩ trivial rfl
            ·have h := zad h
             subst h
             have t_ := tR (zaw 2 l n _ h1) <| tT h2 <| tL q_3 <| tF (zan h4) <| tF h5 <| tR (zak _ h6) <| tR (zak _ h6) <| tL q_7 <| tL q_8 <| tT h9 <| tF (zan h10) <| tT h11 <| tT (za7 h12) <| tT (rfl : true = true) <| tR (zak _ h6) <| tN
             exact zah (C := cfg) (sc := t_.ev) (.k0 t_.pf (by kernel_rfl))
           ·rcases zaj h with ⟨h12, h⟩ | ⟨h12, h⟩
            ·rcases zaj h with ⟨h13, h⟩ | ⟨h13, h⟩
             ·have h := zad h
              subst h
              have t_ := tR (zaw 2 l n _ h1) <| tT h2 <| tL q_3 <| tF (zan h4) <| tF h5 <| tR (zak _ h6) <| tR (zak _ h6) <| tL q_7 <| tL q_8 <| tT h9 <| tF (zan h10) <| tF h11 <| tF (rfl : false = false) <| tT h12 <| tT h13 <| tR (zak _ h6) <| tN
              exact zah (C := cfg) (sc := t_.ev) (.k0 t_.pf (by kernel_rfl))
             ·have h := zad h
              subst h
              have t_ := tR (zaw 2 l n _ h1) <| tT h2 <| tL q_3 <| tF (zan h4) <| tF h5 <| tR (zak _ h6) <| tR (zak _ h6) <| tL q_7 <| tL q_8 <| tT h9 <| tF (zan h10) <| tF h11 <| tF (rfl : false = false) <| tT h12 <| tF h13 <| tN
              exact Runs.out (zah (C := cfg) (res := ([(.one (.pv (.imm [(.int .i64 2), (zai.pv (zai.mk n7 t4 t5)), (zai.pv (zai.mk n8 t6 t7))] 0))), (.one (.pv (.int .i64 0)))], [[(.pv (.bools l_4 false)), (.pv (.int .i64 n6))]], [])) (sc := t_.ev) (.k0 t_.pf (by kernel_rfl))) ⟨.eq rfl, .eq rfl, trivial⟩ ⟨⟨.eq rfl, .eq rfl, trivial⟩, trivial⟩ trivial rfl
            ·have h := zad h
             subst h
             have t_ := tR (zaw 2 l n _ h1) <| tT h2 <| tL q_3 <| tF (zan h4) <| tF h5 <| tR (zak _ h6) <| tR (zak _ h6) <| tL q_7 <| tL q_8 <| tT h9 <| tF (zan h10) <| tF h11 <| tF (rfl : false = false) <| tF h12 <| tF (rfl : false = false) <| tN
             exact Runs.out (zah (C := cfg) (res := ([(.one (.pv (.imm [(.int .i64 2), (zai.pv (zai.mk n7 t4 t5)), (zai.pv (zai.mk n8 t6 t7))] 0))), (.one (.pv (.int .i64 0)))], [[(.pv (.bools l_4 false)), (.pv (.int .i64 n6))]], [])) (sc := t_.ev) (.k0 t_.pf (by kernel_rfl))) ⟨.eq rfl, .eq rfl, trivial⟩ ⟨⟨.eq rfl, .eq rfl, trivial⟩, trivial⟩ trivial rfl
         ·have h := zad h
          subst h
          have t_ := tR (zaw 2 l n _ h1) <| tT h2 <| tL q_3 <| tF (zan h4) <| tF h5 <| tR (zak _ h6) <| tR (zak _ h6) <| tL q_7 <| tL q_8 <| tT h9 <| tT (za7 h10) <| tT (rfl : true = true) <| tT (rfl : true = true) <| tR (zak _ h6) <| tN
          exact zah (C := cfg) (sc := t_.ev) (.k0 t_.pf (by kernel_rfl))
        ·cases t3 with
         | nil =>
          cases h
         | mk n8 t6 t7 =>
          rcases zaj h with ⟨h10, h⟩ | ⟨h10, h⟩
          ·rcases zaj h with ⟨h11, h⟩ | ⟨h11, h⟩
           ·rcases zaj h with ⟨h12, h⟩ | ⟨h12, h⟩
            ·rcases zaj h with ⟨h13, h⟩ | ⟨h13, h⟩
             ·have h := zad h
              subst h
              have t_ := tR (zaw 2 l n _ h1) <| tT h2 <| tL q_3 <| tF (zan h4) <| tF h5 <| tR (zak _ h6) <| tR (zak _ h6) <| tL q_7 <| tL q_8 <| tF h9 <| tF (rfl : false = false) <| tT h10 <| tF (zan h11) <| tT h12 <| tT h13 <| tR (zak _ h6) <| tN
              exact zah (C := cfg) (sc := t_.ev) (.k0 t_.pf (by kernel_rfl))
             ·have h := zad h
              subst h
              have t_ := tR (zaw 2 l n _ h1) <| tT h2 <| tL q_3 <| tF (zan h4) <| tF h5 <| tR (zak _ h6) <| tR (zak _ h6) <| tL q_7 <| tL q_8 <| tF h9 <| tF (rfl : false = false) <| tT h10 <| tF (zan h11) <| tT h12 <| tF h13 <| tN
              exact Runs.out (zah (C := cfg) (res := ([(.one (.pv (.imm [(.int .i64 2), (zai.pv (zai.mk n7 t4 t5)), (zai.pv (zai.mk n8 t6 t7))] 0))), (.one (.pv (.int .i64 0)))], [[(.pv (.bools l_4 false)), (.pv (.int .i64 n6))]], [])) (sc := t_.ev) (.k0 t_.pf (by kernel_rfl))) ⟨.eq rfl, .eq rfl, trivial⟩ ⟨⟨.eq rfl, .eq rfl, trivial⟩, trivial⟩ trivial rfl
            ·have h := zad h
             subst h
             have t_ := tR (zaw 2 l n _ h1) <| tT h2 <| tL q_3 <| tF (zan h4) <| tF h5 <| tR (zak _ h6) <| tR (zak _ h6) <| tL q_7 <| tL q_8 <| tF h9 <| tF (rfl : false = false) <| tT h10 <| tF (zan h11) <| tF h12 <| tF (rfl : false = false) <| tN
             exact Runs.out (zah (C := cfg) (res := ([(.one (.pv (.imm [(.int .i64 2), (zai.pv (zai.mk n7 t4 t5)), (zai.pv (zai.mk n8 t6 t7))] 0))), (.one (.pv (.int .i64 0)))], [[(.pv (.bools l_4 false)), (.pv (.int .i64 n6))]], [])) (sc := t_.ev) (.k0 t_.pf (by kernel_rfl))) ⟨.eq rfl, .eq rfl, trivial⟩ ⟨⟨.eq rfl, .eq rfl, trivial⟩, trivial⟩ trivial rfl
           ·have h := zad h
            subst h
            have t_ := tR (zaw 2 l n _ h1) <| tT h2 <| tL q_3 <| tF (zan h4) <| tF h5 <| tR (zak _ h6) <| tR (zak _ h6) <| tL q_7 <| tL q_8 <| tF h9 <| tF (rfl : false = false) <| tT h10 <| tT (za7 h11) <| tT (rfl : true = true) <| tR (zak _ h6) <| tN
            exact zah (C := cfg) (sc := t_.ev) (.k0 t_.pf (by kernel_rfl))
          ·rcases zaj h with ⟨h11, h⟩ | ⟨h11, h⟩
           ·rcases zaj h with ⟨h12, h⟩ | ⟨h12, h⟩
            ·have h := zad h
             subst h
             have t_ := tR (zaw 2 l n _ h1) <| tT h2 <| tL q_3 <| tF (zan h4) <| tF h5 <| tR (zak _ h6) <| tR (zak _ h6) <| tL q_7 <| tL q_8 <| tF h9 <| tF (rfl : false = false) <| tF h10 <| tF (rfl : false = false) <| tT h11 <| tT h12 <| tR (zak _ h6) <| tN
             exact zah (C := cfg) (sc := t_.ev) (.k0 t_.pf (by kernel_rfl))
            ·have h := zad h
             subst h
             have t_ := tR (zaw 2 l n _ h1) <| tT h2 <| tL q_3 <| tF (zan h4) <| tF h5 <| tR (zak _ h6) <| tR (zak _ h6) <| tL q_7 <| tL q_8 <| tF h9 <| tF (rfl : false = false) <| tF h10 <| tF (rfl : false = false) <| tT h11 <| tF h12 <| tN
             exact Runs.out (zah (C := cfg) (res := ([(.one (.pv (.imm [(.int .i64 2), (zai.pv (zai.mk n7 t4 t5)), (zai.pv (zai.mk n8 t6 t7))] 0))), (.one (.pv (.int .i64 0)))], [[(.pv (.bools l_4 false)), (.pv (.int .i64 n6))]], [])) (sc := t_.ev) (.k0 t_.pf (by kernel_rfl))) ⟨.eq rfl, .eq rfl, trivial⟩ ⟨⟨.eq rfl, .eq rfl, trivial⟩, trivial⟩ trivial rfl
           ·have h := zad h
            subst h
            have t_ := tR (zaw 2 l n _ h1) <| tT h2 <| tL q_3 <| tF (zan h4) <| tF h5 <| tR (zak _ h6) <| tR (zak _ h6) <| tL q_7 <| tL q_8 <| tF h9 <| tF (rfl : false = false) <| tF h10 <| tF (rfl : false = false) <| tF h11 <| tF (rfl : false = false) <| tN
            exact Runs.out (zah (C := cfg) (res := ([(.one (.pv (.imm [(.int .i64 2), (zai.pv (zai.mk n7 t4 t5)), (zai.pv (zai.mk n8 t6 t7))] 0))), (.one (.pv (.int .i64 0)))], [[(.pv (.bools l_4 false)), (.pv (.int .i64 n6))]], [])) (sc := t_.ev) (.k0 t_.pf (by kernel_rfl))) ⟨.eq rfl, .eq rfl, trivial⟩ ⟨⟨.eq rfl, .eq rfl, trivial⟩, trivial⟩ trivial rfl
      ·have h := zad h
       subst h
       have t_ := tR (zaw 2 l n _ h1) <| tT h2 <| tL q_3 <| tF (zan h4) <| tF h5 <| tR (zak _ h6) <| tR (zak _ h6) <| tL q_7 <| tL (zd3 rec_kr07_GetID_4 hrec_kr07_GetID_4 depth n2 t2 t (!(decide ((n2 : Int) = 2))) l_3 n5 _ h8) <| tN
       exact zah (C := cfg) (sc := t_.ev) (.k0 t_.pf (by kernel_rfl))
     ·have h := zad h
      subst h
      have t_ := tR (zaw 2 l n _ h1) <| tT h2 <| tL q_3 <| tF (zan h4) <| tF h5 <| tR (zak _ h6) <| tR (zak _ h6) <| tL (zgB rec_kr07_GetID_4 hrec_kr07_GetID_4 depth n2 t t (!(decide ((n2 : Int) = 1))) l_2 n4 _ h7) <| tN
      exact zah (C := cfg) (sc := t_.ev) (.k0 t_.pf (by kernel_rfl))
   ·obtain ⟨t, h5, h⟩ := zaf h
    have h := zad h
    subst h
    have t_ := tR (zaw 2 l n _ h1) <| tT h2 <| tL q_3 <| tT (za7 h4) <| tR (zak _ h5) <| tN
    exact zah (C := cfg) (sc := t_.ev) (.k0 t_.pf (by kernel_rfl))
 ·obtain ⟨t, h3, h⟩ := zaf h
  have h := zad h
  subst h
  have t_ := tR (zaw 2 l n _ h1) <| tF h2 <| tF (rfl : false = false) <| tT (za7 h2) <| tR (zak _ h3) <| tN
  exact zah (C := cfg) (sc := t_.ev) (.k0 t_.pf (by kernel_rfl))
noncomputable def zba : Nat → Int → List Bool → Int → Option (zai × Int × List Bool × Int)
 | 0, _, _, _ => none
 | N + 1, depth, l, n => zbW (zba N) depth l n
theorem zeQ : ∀ (N : Nat) (depth : Int) (l : List Bool) (n : Int) (r_ : zai × Int × List Bool × Int), zba N depth l n = some r_ → Runs Tryz.prog 130 [(.one (.ref 0 0)), (.one (.pv (.int .i64 depth)))] [[(.pv (.bools l false)), (.pv (.int .i64 n))]] [] (zeb depth l n r_)
 | 0, _, _, _, _, h => by cases h
 | N + 1, depth, l, n, r_, h => zkV (zba N) (zeQ N) depth l n r_ h
def zif (depth kind : Int) (x y : zai) (b : Bool) (l : List Bool) (n : Int) : (zai × List Bool × Int) ⊕ (zai × Int × List Bool × Int) → Ex × St
 | .inl (r1, r2, r3) => (.normal, ⟨[(0, (.av (.one (.ref 0 0)))), (1, (.av (.one (.pv (.int .i64 depth))))), (6, (.av (.one (.pv (.int .u64 kind))))), (8, (.av (.one (.pv (zai.pv r1))))), (9, (.av (.one (.pv (zai.pv y)))))], [(0, [(.pv (.bools r2 false)), (.pv (.int .i64 r3))])], []⟩)
 | .inr (r1, r2, r3, r4) => (.ret, ⟨[(4, (.av (.one (.pv (zai.pv r1))))), (5, (.av (.one (.pv (.int .i64 r2)))))], [(0, [(.pv (.bools r3 false)), (.pv (.int .i64 r4))])], []⟩)
noncomputable def zhJ (N : Nat) (depth kind : Int) (x y : zai) (b : Bool) (l : List Bool) (n : Int) : Option ((zai × List Bool × Int) ⊕ (zai × Int × List Bool × Int)) :=
 bif b then
  (zba N (iadd .i64 depth 1) l n).bind fun (t, n2, l_, n3) =>
  bif (decide ((n2 : Int) = 0)) then
   some (.inl (t, l_, n3))
  else
   (zbN).bind fun t2 =>
   some (.inr (t2, n2, l_, n3))
 else
  some (.inl (x, l, n))
theorem zhd (N : Nat) (depth kind : Int) (x y : zai) (b : Bool) (l : List Bool) (n : Int) (r_ : (zai × List Bool × Int) ⊕ (zai × Int × List Bool × Int)) (h : zhJ N depth kind x y b l n = some r_) : zaT Tryz.prog (lEnv Tryz.prog cfg 130 1).nt 1 (.cond (.tmp 45) (zgM Tryz.prog 130 45).1 (zgM Tryz.prog 130 45).2) ⟨[(0, (.av (.one (.ref 0 0)))), (1, (.av (.one (.pv (.int .i64 depth))))), (6, (.av (.one (.pv (.int .u64 kind))))), (8, (.av (.one (.pv (zai.pv x))))), (9, (.av (.one (.pv (zai.pv y))))), (45, (.av (.one (.pv (.bool b)))))], [(0, [(.pv (.bools l false)), (.pv (.int .i64 n))])], []⟩ (zif depth kind x y b l n r_).1 (zif depth kind x y b l n r_).2 := by
 unfold zhJ at h
 rcases zaj h with ⟨h1, h⟩ | ⟨h1, h⟩
 ·obtain ⟨⟨t, n2, l_, n3⟩, h2, h⟩ := zaf h
  have q_2 := (zeQ N (iadd .i64 depth 1) l n _ h2)
  rcases zaj h with ⟨h3, h⟩ | ⟨h3, h⟩
  ·have h := zad h
   subst h
   have t_ := tT h1 <| tR q_2 <| tF (zan h3) <| tN
   exact zcG (C := cfg) (sc := t_.ev) (.k0 t_.pf (by kernel_rfl))
  ·obtain ⟨t2, h4, h⟩ := zaf h
   have h := zad h
   subst h
   have t_ := tT h1 <| tR q_2 <| tT (za7 h3) <| tR (zak _ h4) <| tN
   exact zcG (C := cfg) (sc := t_.ev) (.k0 t_.pf (by kernel_rfl))
 ·have h := zad h
  subst h
  have t_ := tF h1 <| tN
  exact zcG (C := cfg) (sc := t_.ev) (.k0 t_.pf (by kernel_rfl))
noncomputable def zgA (N : Nat) (depth n : Int) (l : List Bool) : Option (zai × Int × List Bool × Int) :=
 (zjW 2 n l).bind fun (n2, l_, n3) =>
 bif (decide ((n3 : Int) = 0)) then
  (zdC depth n2 (decide ((n2 : Int) = 0)) l_ n3).bind fun z_ => match z_ with
  | .inl (t, l_2, n4) =>
   some (t, 0, l_2, n4)
  | .inr (l_2, n4) =>
   bif (decide ((n4 : Int) = 0)) then
    bif (decide ((depth : Int) = 16)) then
     (zbN).bind fun t =>
     some (t, 3, l_2, n4)
    else
     (zbN).bind fun t =>
     (zhJ N depth n2 t t (!(decide ((n2 : Int) = 1))) l_2 n4).bind fun z_ => match z_ with
     | .inl (t2, l_3, n5) =>
      (zee (zba N) depth n2 t2 t (!(decide ((n2 : Int) = 2))) l_3 n5).bind fun z_ => match z_ with
      | .inl (t3, l_4, n6) =>
       match t2 with
       | .nil =>
        none
       | .mk n7 t4 t5 =>
        bif (decide ((n7 : Int) = 0)) then
         bif (decide ((n2 : Int) = 1)) then
          match t3 with
          | .nil =>
           none
          | .mk n8 t6 t7 =>
           bif (decide ((n8 : Int) = 0)) then
            bif (decide ((n2 : Int) = 2)) then
             bif (decide ((n7 : Int) = 1)) then
              bif (decide ((n8 : Int) = 1)) then
               some (t, 6, l_4, n6)
              else
               some ((zai.mk 2 t2 t3), 0, l_4, n6)
             else
              some ((zai.mk 2 t2 t3), 0, l_4, n6)
            else
             some (t, 6, l_4, n6)
           else
            bif (decide ((n7 : Int) = 1)) then
             bif (decide ((n8 : Int) = 1)) then
              some (t, 6, l_4, n6)
             else
              some ((zai.mk 2 t2 t3), 0, l_4, n6)
            else
             some ((zai.mk 2 t2 t3), 0, l_4, n6)
         else
          some (t, 6, l_4, n6)
        else
         match t3 with
         | .nil =>
          none
         | .mk n8 t6 t7 =>
          bif (decide ((n8 : Int) = 0)) then
           bif (decide ((n2 : Int) = 2)) then
            bif (decide ((n7 : Int) = 1)) then
             bif (decide ((n8 : Int) = 1)) then
              some (t, 6, l_4, n6)
             else
              some ((zai.mk 2 t2 t3), 0, l_4, n6)
            else
             some ((zai.mk 2 t2 t3), 0, l_4, n6)
           else
            some (t, 6, l_4, n6)
          else
           bif (decide ((n7 : Int) = 1)) then
            bif (decide ((n8 : Int) = 1)) then
             some (t, 6, l_4, n6)
            else
             some ((zai.mk 2 t2 t3), 0, l_4, n6)
           else
            some ((zai.mk 2 t2 t3), 0, l_4, n6)
      | .inr (t3, n6, l_4, n7) =>
       some (t3, n6, l_4, n7)
     | .inr (t2, n5, l_3, n6) =>
      some (t2, n5, l_3, n6)
   else
    (zbN).bind fun t =>
    some (t, 6, l_2, n4)
 else
  (zbN).bind fun t =>
  some (t, 6, l_, n3)
theorem zf5 (N : Nat) (depth n : Int) (l : List Bool) (r_ : zai × Int × List Bool × Int) (h : zgA N depth n l = some r_) : Runs Tryz.prog 130 [(.one (.ref 0 0)), (.one (.pv (.int .i64 depth)))] [[(.own 0 0 (l).length false), (.pv (.int .i64 n))]] [(.bools l)] (zm0 depth n l r_) := by
 unfold zgA at h
 obtain ⟨⟨n2, l_, n3⟩, h1, h⟩ := zaf h
 rcases zaj h with ⟨h2, h⟩ | ⟨h2, h⟩
 ·obtain ⟨z_, h3, h⟩ := zaf h
  rcases z_ with ⟨t, l_2, n4⟩ | ⟨l_2, n4⟩
  ·have h := zad h
   subst h
   have t_ := tR (zaL 2 n l _ h1) <| tT h2 <| tL (zd2 depth n2 (decide ((n2 : Int) = 0)) l_ n3 _ h3) <| tN
   exact zah (C := cfg) (sc := t_.ev) (.k0 t_.pf (by kernel_rfl))
  ·have q_3 := (zd2 depth n2 (decide ((n2 : Int) = 0)) l_ n3 _ h3)
   rcases zaj h with ⟨h4, h⟩ | ⟨h4, h⟩
   ·rcases zaj h with ⟨h5, h⟩ | ⟨h5, h⟩
    ·obtain ⟨t, h6, h⟩ := zaf h
     have h := zad h
     subst h
     have t_ := tR (zaL 2 n l _ h1) <| tT h2 <| tL q_3 <| tF (zan h4) <| tT h5 <| tR (zak _ h6) <| tN
     exact zah (C := cfg) (sc := t_.ev) (.k0 t_.pf (by kernel_rfl))
    ·obtain ⟨t, h6, h⟩ := zaf h
     obtain ⟨z_, h7, h⟩ := zaf h
     rcases z_ with ⟨t2, l_3, n5⟩ | ⟨t2, n5, l_3, n6⟩
     ·have q_7 := (zhd N depth n2 t t (!(decide ((n2 : Int) = 1))) l_2 n4 _ h7)
      obtain ⟨z_, h8, h⟩ := zaf h
      rcases z_ with ⟨t3, l_4, n6⟩ | ⟨t3, n6, l_4, n7⟩
      ·have q_8 := (zd3 (zba N) (zeQ N) depth n2 t2 t (!(decide ((n2 : Int) = 2))) l_3 n5 _ h8)
       cases t2 with
       | nil =>
        cases h
       | mk n7 t4 t5 =>
        rcases zaj h with ⟨h9, h⟩ | ⟨h9, h⟩
        ·rcases zaj h with ⟨h10, h⟩ | ⟨h10, h⟩
         ·cases t3 with
          | nil =>
           cases h
          | mk n8 t6 t7 =>
           rcases zaj h with ⟨h11, h⟩ | ⟨h11, h⟩
           ·rcases zaj h with ⟨h12, h⟩ | ⟨h12, h⟩
            ·rcases zaj h with ⟨h13, h⟩ | ⟨h13, h⟩
             ·rcases zaj h with ⟨h14, h⟩ | ⟨h14, h⟩
              ·have h := zad h
               subst h
               have t_ := tR (zaL 2 n l _ h1) <| tT h2 <| tL q_3 <| tF (zan h4) <| tF h5 <| tR (zak _ h6) <| tR (zak _ h6) <| tL q_7 <| tL q_8 <| tT h9 <| tF (zan h10) <| tT h11 <| tF (zan h12) <| tT h13 <| tT h14 <| tR (zak _ h6) <| tN
               exact zah (C := cfg) (sc := t_.ev) (.k0 t_.pf (by kernel_rfl))
              ·have h := zad h
               subst h
               have t_ := tR (zaL 2 n l _ h1) <| tT h2 <| tL q_3 <| tF (zan h4) <| tF h5 <| tR (zak _ h6) <| tR (zak _ h6) <| tL q_7 <| tL q_8 <| tT h9 <| tF (zan h10) <| tT h11 <| tF (zan h12) <| tT h13 <| tF h14 <| tN
               exact Runs.out (zah (C := cfg) (res := ([(.one (.pv (.imm [(.int .i64 2), (zai.pv (zai.mk n7 t4 t5)), (zai.pv (zai.mk n8 t6 t7))] 0))), (.one (.pv (.int .i64 0)))], [[(.pv (.bools l_4 false)), (.pv (.int .i64 n6))]], [])) (sc := t_.ev) (.k0 t_.pf (by kernel_rfl))) ⟨.eq rfl, .eq rfl, trivial⟩ ⟨⟨.eq rfl, .eq rfl, trivial⟩, trivial⟩ trivial rfl
             ·have h := zad h
              subst h
              have t_ := tR (zaL 2 n l _ h1) <| tT h2 <| tL q_3 <| tF (zan h4) <| tF h5 <| tR (zak _ h6) <| tR (zak _ h6) <| tL q_7 <| tL q_8 <| tT h9 <| tF (zan h10) <| tT h11 <| tF (zan h12) <| tF h13 <| tF (rfl : false = false) <| tN
              exact Runs.out (zah (C := cfg) (res := ([(.one (.pv (.imm [(.int .i64 2), (zai.pv (zai.mk n7 t4 t5)), (zai.pv (zai.mk n8 t6 t7))] 0))), (.one (.pv (.int .i64 0)))], [[(.pv (.bools l_4 false)), (.pv (.int .i64 n6))]], [])) (sc := t_.ev) (.k0 t_.pf (by kernel_rfl))) ⟨.eq rfl, .eq rfl, trivial⟩ ⟨⟨.eq rfl, .eq rfl, trivial⟩, trivial⟩ trivial rfl
            ·have h := zad h
             subst h
             have t_ := tR (zaL 2 n l _ h1) <| tT h2 <| tL q_3 <| tF (zan h4) <| tF h5 <| tR (zak _ h6) <| tR (zak _ h6) <| tL q_7 <| tL q_8 <| tT h9 <| tF (zan h10) <| tT h11 <| tT (za7 h12) <| tT (rfl : true = true) <| tR (zak _ h6) <| tN
             exact zah (C := cfg) (sc := t_.ev) (.k0 t_.pf (by kernel_rfl))
           ·rcases zaj h with ⟨h12, h⟩ | ⟨h12, h⟩
            ·rcases zaj h with ⟨h13, h⟩ | ⟨h13, h⟩
             ·have h := zad h
              subst h
              have t_ := tR (zaL 2 n l _ h1) <| tT h2 <| tL q_3 <| tF (zan h4) <| tF h5 <| tR (zak _ h6) <| tR (zak _ h6) <| tL q_7 <| tL q_8 <| tT h9 <| tF (zan h10) <| tF h11 <| tF (rfl : false = false) <| tT h12 <| tT h13 <| tR (zak _ h6) <| tN
              exact zah (C := cfg) (sc := t_.ev) (.k0 t_.pf (by kernel_rfl))
             ·have h := zad h
              subst h
              have t_ := tR (zaL 2 n l _ h1) <| tT h2 <| tL q_3 <| tF (zan h4) <| tF h5 <| tR (zak _ h6) <| tR (zak _ h6) <| tL q_7 <| tL q_8 <| tT h9 <| tF (zan h10) <| tF h11 <| tF (rfl : false = false) <| tT h12 <| tF h13 <| tN
              exact Runs.out (zah (C := cfg) (res := ([(.one (.pv (.imm [(.int .i64 2), (zai.pv (zai.mk n7 t4 t5)), (zai.pv (zai.mk n8 t6 t7))] 0))), (.one (.pv (.int .i64 0)))], [[(.pv (.bools l_4 false)), (.pv (.int .i64 n6))]], [])) (sc := t_.ev) (.k0 t_.pf (by kernel_rfl))) ⟨.eq rfl, .eq rfl, trivial⟩ ⟨⟨.eq rfl, .eq rfl, trivial⟩, trivial⟩ trivial rfl
            ·have h := zad h
             subst h
             have t_ := tR (zaL 2 n l _ h1) <| tT h2 <| tL q_3 <| tF (zan h4) <| tF h5 <| tR (zak _ h6) <| tR (zak _ h6) <| tL q_7 <| tL q_8 <| tT h9 <| tF (zan h10) <| tF h11 <| tF (rfl : false = false) <| tF h12 <| tF (rfl : false = false) <| tN
             exact Runs.out (zah (C := cfg) (res := ([(.one (.pv (.imm [(.int .i64 2), (zai.pv (zai.mk n7 t4 t5)), (zai.pv (zai.mk n8 t6 t7))] 0))), (.one (.pv (.int .i64 0)))], [[(.pv (.bools l_4 false)), (.pv (.int .i64 n6))]], [])) (sc := t_.ev) (.k0 t_.pf (by kernel_rfl))) ⟨.eq rfl, .eq rfl, trivial⟩ ⟨⟨.eq rfl, .eq rfl, trivial⟩, trivial⟩ trivial rfl
         ·have h := zad h
          subst h
          have t_ := tR (zaL 2 n l _ h1) <| tT h2 <| tL q_3 <| tF (zan h4) <| tF h5 <| tR (zak _ h6) <| tR (zak _ h6) <| tL q_7 <| tL q_8 <| tT h9 <| tT (za7 h10) <| tT (rfl : true = true) <| tT (rfl : true = true) <| tR (zak _ h6) <| tN
          exact zah (C := cfg) (sc := t_.ev) (.k0 t_.pf (by kernel_rfl))
        ·cases t3 with
         | nil =>
          cases h
         | mk n8 t6 t7 =>
          rcases zaj h with ⟨h10, h⟩ | ⟨h10, h⟩
          ·rcases zaj h with ⟨h11, h⟩ | ⟨h11, h⟩
           ·rcases zaj h with ⟨h12, h⟩ | ⟨h12, h⟩
            ·rcases zaj h with ⟨h13, h⟩ | ⟨h13, h⟩
             ·have h := zad h
              subst h
              have t_ := tR (zaL 2 n l _ h1) <| tT h2 <| tL q_3 <| tF (zan h4) <| tF h5 <| tR (zak _ h6) <| tR (zak _ h6) <| tL q_7 <| tL q_8 <| tF h9 <| tF (rfl : false = false) <| tT h10 <| tF (zan h11) <| tT h12 <| tT h13 <| tR (zak _ h6) <| tN
              exact zah (C := cfg) (sc := t_.ev) (.k0 t_.pf (by kernel_rfl))
             ·have h := zad h
              subst h
              have t_ := tR (zaL 2 n l _ h1) <| tT h2 <| tL q_3 <| tF (zan h4) <| tF h5 <| tR (zak _ h6) <| tR (zak _ h6) <| tL q_7 <| tL q_8 <| tF h9 <| tF (rfl : false = false) <| tT h10 <| tF (zan h11) <| tT h12 <| tF h13 <| tN
              exact Runs.out (zah (C := cfg) (res := ([(.one (.pv (.imm [(.int .i64 2), (zai.pv (zai.mk n7 t4 t5)), (zai.pv (zai.mk n8 t6 t7))] 0))), (.one (.pv (.int .i64 0)))], [[(.pv (.bools l_4 false)), (.pv (.int .i64 n6))]], [])) (sc := t_.ev) (.k0 t_.pf (by kernel_rfl))) ⟨.eq rfl, .eq rfl, trivial⟩ ⟨⟨.eq rfl, .eq rfl, trivial⟩, trivial⟩ trivial rfl
            ·have h := zad h
             subst h
             have t_ := tR (zaL 2 n l _ h1) <| tT h2 <| tL q_3 <| tF (zan h4) <| tF h5 <| tR (zak _ h6) <| tR (zak _ h6) <| tL q_7 <| tL q_8 <| tF h9 <| tF (rfl : false = false) <| tT h10 <| tF (zan h11) <| tF h12 <| tF (rfl : false = false) <| tN
             exact Runs.out (zah (C := cfg) (res := ([(.one (.pv (.imm [(.int .i64 2), (zai.pv (zai.mk n7 t4 t5)), (zai.pv (zai.mk n8 t6 t7))] 0))), (.one (.pv (.int .i64 0)))], [[(.pv (.bools l_4 false)), (.pv (.int .i64 n6))]], [])) (sc := t_.ev) (.k0 t_.pf (by kernel_rfl))) ⟨.eq rfl, .eq rfl, trivial⟩ ⟨⟨.eq rfl, .eq rfl, trivial⟩, trivial⟩ trivial rfl
           ·have h := zad h
            subst h
            have t_ := tR (zaL 2 n l _ h1) <| tT h2 <| tL q_3 <| tF (zan h4) <| tF h5 <| tR (zak _ h6) <| tR (zak _ h6) <| tL q_7 <| tL q_8 <| tF h9 <| tF (rfl : false = false) <| tT h10 <| tT (za7 h11) <| tT (rfl : true = true) <| tR (zak _ h6) <| tN
            exact zah (C := cfg) (sc := t_.ev) (.k0 t_.pf (by kernel_rfl))
          ·rcases zaj h with ⟨h11, h⟩ | ⟨h11, h⟩
           ·rcases zaj h with ⟨h12, h⟩ | ⟨h12, h⟩
            ·have h := zad h
             subst h
             have t_ := tR (zaL 2 n l _ h1) <| tT h2 <| tL q_3 <| tF (zan h4) <| tF h5 <| tR (zak _ h6) <| tR (zak _ h6) <| tL q_7 <| tL q_8 <| tF h9 <| tF (rfl : false = false) <| tF h10 <| tF (rfl : false = false) <| tT h11 <| tT h12 <| tR (zak _ h6) <| tN
             exact zah (C := cfg) (sc := t_.ev) (.k0 t_.pf (by kernel_rfl))
            ·have h := zad h
             subst h
             have t_ := tR (zaL 2 n l _ h1) <| tT h2 <| tL q_3 <| tF (zan h4) <| tF h5 <| tR (zak _ h6) <| tR (zak _ h6) <| tL q_7 <| tL q_8 <| tF h9 <| tF (rfl : false = false) <| tF h10 <| tF (rfl : false = false) <| tT h11 <| tF h12 <| tN
             exact Runs.out (zah (C := cfg) (res := ([(.one (.pv (.imm [(.int .i64 2), (zai.pv (zai.mk n7 t4 t5)), (zai.pv (zai.mk n8 t6 t7))] 0))), (.one (.pv (.int .i64 0)))], [[(.pv (.bools l_4 false)), (.pv (.int .i64 n6))]], [])) (sc := t_.ev) (.k0 t_.pf (by kernel_rfl))) ⟨.eq rfl, .eq rfl, trivial⟩ ⟨⟨.eq rfl, .eq rfl, trivial⟩, trivial⟩ trivial rfl
           ·have h := zad h
            subst h
            have t_ := tR (zaL 2 n l _ h1) <| tT h2 <| tL q_3 <| tF (zan h4) <| tF h5 <| tR (zak _ h6) <| tR (zak _ h6) <| tL q_7 <| tL q_8 <| tF h9 <| tF (rfl : false = false) <| tF h10 <| tF (rfl : false = false) <| tF h11 <| tF (rfl : false = false) <| tN
            exact Runs.out (zah (C := cfg) (res := ([(.one (.pv (.imm [(.int .i64 2), (zai.pv (zai.mk n7 t4 t5)), (zai.pv (zai.mk n8 t6 t7))] 0))), (.one (.pv (.int .i64 0)))], [[(.pv (.bools l_4 false)), (.pv (.int .i64 n6))]], [])) (sc := t_.ev) (.k0 t_.pf (by kernel_rfl))) ⟨.eq rfl, .eq rfl, trivial⟩ ⟨⟨.eq rfl, .eq rfl, trivial⟩, trivial⟩ trivial rfl
      ·have h := zad h
       subst h
       have t_ := tR (zaL 2 n l _ h1) <| tT h2 <| tL q_3 <| tF (zan h4) <| tF h5 <| tR (zak _ h6) <| tR (zak _ h6) <| tL q_7 <| tL (zd3 (zba N) (zeQ N) depth n2 t2 t (!(decide ((n2 : Int) = 2))) l_3 n5 _ h8) <| tN
       exact zah (C := cfg) (sc := t_.ev) (.k0 t_.pf (by kernel_rfl))
     ·have h := zad h
      subst h
      have t_ := tR (zaL 2 n l _ h1) <| tT h2 <| tL q_3 <| tF (zan h4) <| tF h5 <| tR (zak _ h6) <| tR (zak _ h6) <| tL (zhd N depth n2 t t (!(decide ((n2 : Int) = 1))) l_2 n4 _ h7) <| tN
      exact zah (C := cfg) (sc := t_.ev) (.k0 t_.pf (by kernel_rfl))
   ·obtain ⟨t, h5, h⟩ := zaf h
    have h := zad h
    subst h
    have t_ := tR (zaL 2 n l _ h1) <| tT h2 <| tL q_3 <| tT (za7 h4) <| tR (zak _ h5) <| tN
    exact zah (C := cfg) (sc := t_.ev) (.k0 t_.pf (by kernel_rfl))
 ·obtain ⟨t, h3, h⟩ := zaf h
  have h := zad h
  subst h
  have t_ := tR (zaL 2 n l _ h1) <| tF h2 <| tF (rfl : false = false) <| tT (za7 h2) <| tR (zak _ h3) <| tN
  exact zah (C := cfg) (sc := t_.ev) (.k0 t_.pf (by kernel_rfl))
def zqU (l : List Bool) (n : Int) : Int × Int → Res
 | (r1, r2) => ([(.one (.pv (.int .i64 r1)))], [[(.pv (.bools l false)), (.pv (.int .i64 r2))]], [])
def zgk (l : List Bool) (n : Int) (l2 : List Bool) : Int → St
 | n2 => ⟨[(0, (.av (.one (.ref 0 0)))), (22, (.av (.one (.pv (.bools l false))))), (23, (.av (.one (.pv (.int .i64 n))))), (24, (.av (.one (.pv (.int .i64 n2)))))], [(0, [(.pv (.bools l2 false)), (.pv (.int .i64 6))])], []⟩
def zgj (l : List Bool) (n : Int) (l2 : List Bool) : Unit → Ex × St
 | _ => ((.exit 0), ⟨[(0, (.av (.one (.ref 0 0))))], [(0, [(.pv (.bools l2 false)), (.pv (.int .i64 6))])], []⟩)
noncomputable def zcJ (l : List Bool) (n : Int) (l2 : List Bool) : Int → Option ((Int) ⊕ (Unit))
 | n2 =>
 bif (decide ((n2 : Int) < n)) then
  bif decide ((0 : Int) ≤ n2) && decide ((n2 : Int) < ((l).length : Int)) then
  bif (l.getD (n2).toNat false) then
   some (.inl (iadd .i64 n2 1))
  else
   some (.inl (iadd .i64 n2 1))
  else none
 else
  some (.inr ())
theorem zo3 (l : List Bool) (n : Int) (l2 : List Bool) (n2 : Int) (z_ : (Int) ⊕ (Unit)) (h : zcJ l n l2 n2 = some z_) : zaP Tryz.prog cfg 131 1 (zax Tryz.prog 131 0) (zgk l n l2) (zgj l n l2) n2 z_ := by
 rcases zaj h with ⟨h1, h⟩ | ⟨h1, h⟩
 ·obtain ⟨h2, h⟩ := zaq h
  rcases zaj h with ⟨h3, h⟩ | ⟨h3, h⟩
  ·have h := zad h
   subst h
   have t_ := tT h1 <| tO h2 <| tT h3 <| tN
   exact ⟨t_.ev, zgk l n l2 (iadd .i64 n2 1), .k0 t_.pf (by kernel_rfl), .same (by kernel_rfl)⟩
  ·have h := zad h
   subst h
   have t_ := tT h1 <| tO h2 <| tF h3 <| tN
   exact ⟨t_.ev, zgk l n l2 (iadd .i64 n2 1), .k0 t_.pf (by kernel_rfl), .same (by kernel_rfl)⟩
 ·have h := zad h
  subst h
  have t_ := tF h1 <| tN
  exact ⟨t_.ev, ⟨[(25, (.av (.one (.pv (.bool false))))), (0, (.av (.one (.ref 0 0)))), (22, (.av (.one (.pv (.bools l false))))), (23, (.av (.one (.pv (.int .i64 n))))), (24, (.av (.one (.pv (.int .i64 n2))))), (25, (.av (.one (.pv (.bool (decide ((n2 : Int) < n)))))))], [(0, [(.pv (.bools l2 false)), (.pv (.int .i64 6))])], []⟩, .k0 t_.pf (by kernel_rfl), ⟨⟨⟨_, rfl, .eq rfl⟩, trivial⟩, ⟨⟨rfl, ⟨.eq rfl, .eq rfl, trivial⟩⟩, trivial⟩, trivial⟩⟩
theorem zmW (l : List Bool) (n : Int) (l2 : List Bool) (s_ : Int) (r_ : Unit) (h : runL (zcJ l n l2) s_ = some r_) : zaT Tryz.prog (lEnv Tryz.prog cfg 131 1).nt 1 (.loop (zax Tryz.prog 131 0)) (zgk l n l2 s_) (zgj l n l2 r_).1 (zgj l n l2 r_).2 :=
 zaJ h (zo3 l n l2) (by intro r_; rcases r_ with _ <;> simp [zgj])
def ze8 (l : List Bool) (n : Int) (l2 : List Bool) : Int × Int → St
 | (n3, n2) => ⟨[(0, (.av (.one (.ref 0 0)))), (22, (.av (.one (.pv (.bools l false))))), (23, (.av (.one (.pv (.int .i64 n))))), (24, (.av (.one (.pv (.int .i64 n3)))))], [(0, [(.pv (.bools l2 false)), (.pv (.int .i64 n2))])], []⟩
def ze7 (l : List Bool) (n : Int) (l2 : List Bool) : Int → Ex × St
 | r1 => ((.exit 0), ⟨[(0, (.av (.one (.ref 0 0))))], [(0, [(.pv (.bools l2 false)), (.pv (.int .i64 r1))])], []⟩)
noncomputable def zca (l : List Bool) (n : Int) (l2 : List Bool) : Int × Int → Option ((Int × Int) ⊕ (Int))
 | (n3, n2) =>
 bif (decide ((n3 : Int) < n)) then
  bif decide ((0 : Int) ≤ n3) && decide ((n3 : Int) < ((l).length : Int)) then
  bif (l.getD (n3).toNat false) then
   some (.inl ((iadd .i64 n3 1), 6))
  else
   some (.inl ((iadd .i64 n3 1), n2))
  else none
 else
  some (.inr n2)
theorem zmV (l : List Bool) (n : Int) (l2 : List Bool) (s_ : Int × Int) (z_ : (Int × Int) ⊕ (Int)) (h : zca l n l2 s_ = some z_) : zaP Tryz.prog cfg 131 1 (zax Tryz.prog 131 0) (ze8 l n l2) (ze7 l n l2) s_ z_ := by
 rcases s_ with ⟨n3, n2⟩
 rcases zaj h with ⟨h1, h⟩ | ⟨h1, h⟩
 ·obtain ⟨h2, h⟩ := zaq h
  rcases zaj h with ⟨h3, h⟩ | ⟨h3, h⟩
  ·have h := zad h
   subst h
   have t_ := tT h1 <| tO h2 <| tT h3 <| tN
   exact ⟨t_.ev, ze8 l n l2 ((iadd .i64 n3 1), 6), .k0 t_.pf (by kernel_rfl), .same (by kernel_rfl)⟩
  ·have h := zad h
   subst h
   have t_ := tT h1 <| tO h2 <| tF h3 <| tN
   exact ⟨t_.ev, ze8 l n l2 ((iadd .i64 n3 1), n2), .k0 t_.pf (by kernel_rfl), .same (by kernel_rfl)⟩
 ·have h := zad h
  subst h
  have t_ := tF h1 <| tN
  exact ⟨t_.ev, ⟨[(25, (.av (.one (.pv (.bool false))))), (0, (.av (.one (.ref 0 0)))), (22, (.av (.one (.pv (.bools l false))))), (23, (.av (.one (.pv (.int .i64 n))))), (24, (.av (.one (.pv (.int .i64 n3))))), (25, (.av (.one (.pv (.bool (decide ((n3 : Int) < n)))))))], [(0, [(.pv (.bools l2 false)), (.pv (.int .i64 n2))])], []⟩, .k0 t_.pf (by kernel_rfl), ⟨⟨⟨_, rfl, .eq rfl⟩, trivial⟩, ⟨⟨rfl, ⟨.eq rfl, .eq rfl, trivial⟩⟩, trivial⟩, trivial⟩⟩
theorem zlp (l : List Bool) (n : Int) (l2 : List Bool) (s_ : Int × Int) (r_ : Int) (h : runL (zca l n l2) s_ = some r_) : zaT Tryz.prog (lEnv Tryz.prog cfg 131 1).nt 1 (.loop (zax Tryz.prog 131 0)) (ze8 l n l2 s_) (ze7 l n l2 r_).1 (ze7 l n l2 r_).2 :=
 zaJ h (zmV l n l2) (by intro r_; rcases r_ with r1 <;> simp [ze7])
noncomputable def zlo (l : List Bool) (n : Int) : Option (Int × Int) :=
 bif (decide ((n : Int) = 0)) then
  bif (decide ((8 : Int) ≤ ((l).length : Int))) then
   (runL (zcJ l ((l).length : Int) l) 0).bind fun _ =>
   some (6, 6)
  else
   (runL (zca l ((l).length : Int) l) (0, n)).bind fun n2 =>
   some (n2, n2)
 else
  some (n, n)
theorem zlq (l : List Bool) (n : Int) (r_ : Int × Int) (h : zlo l n = some r_) : Runs Tryz.prog 131 [(.one (.ref 0 0))] [[(.pv (.bools l false)), (.pv (.int .i64 n))]] [] (zqU l n r_) := by
 unfold zlo at h
 rcases zaj h with ⟨h1, h⟩ | ⟨h1, h⟩
 ·rcases zaj h with ⟨h2, h⟩ | ⟨h2, h⟩
  ·obtain ⟨_, h3, h⟩ := zaf h
   have h := zad h
   subst h
   have t_ := tT h1 <| tT h2 <| tL (zmW l ((l).length : Int) l _ _ h3) <| tN
   exact zah (C := cfg) (sc := t_.ev) (.k0 t_.pf (by kernel_rfl))
  ·obtain ⟨n2, h3, h⟩ := zaf h
   have h := zad h
   subst h
   have t_ := tT h1 <| tF h2 <| tL (zlp l ((l).length : Int) l _ _ h3) <| tN
   exact zah (C := cfg) (sc := t_.ev) (.k0 t_.pf (by kernel_rfl))
 ·have h := zad h
  subst h
  have t_ := tF h1 <| tN
  exact zah (C := cfg) (sc := t_.ev) (.k0 t_.pf (by kernel_rfl))
noncomputable def zhf (N : Nat) (p : List Int) : Option (zai × Int) :=
 (zjD p).bind fun l_ =>
 (zgA N 0 0 l_).bind fun (t, n, l_2, n2) =>
 bif (decide ((n : Int) = 0)) then
  (zlo l_2 n2).bind fun (n3, n4) =>
  bif (decide ((n3 : Int) = 0)) then
   some (t, 0)
  else
   (zbN).bind fun t2 =>
   some (t2, n3)
 else
  (zbN).bind fun t2 =>
  some (t2, n)
theorem zm2 (N : Nat) (p : List Int) (r_ : zai × Int) (h : zhf N p = some r_) : Runs Tryz.prog 108 [(.one (.pv (.ints .u8 p false)))] [] [] (znZ p r_) := by
 unfold zhf at h
 obtain ⟨l_, h1, h⟩ := zaf h
 obtain ⟨⟨t, n, l_2, n2⟩, h2, h⟩ := zaf h
 rcases zaj h with ⟨h3, h⟩ | ⟨h3, h⟩
 ·obtain ⟨⟨n3, n4⟩, h4, h⟩ := zaf h
  rcases zaj h with ⟨h5, h⟩ | ⟨h5, h⟩
  ·have h := zad h
   subst h
   have t_ := tR (zhI p _ h1) <| tR (zf5 N 0 0 l_ _ h2) <| tT h3 <| tR (zlq l_2 n2 _ h4) <| tF (zan h5) <| tN
   exact zah (C := cfg) (sc := t_.ev) (.k0 t_.pf (by kernel_rfl))
  ·obtain ⟨t2, h6, h⟩ := zaf h
   have h := zad h
   subst h
   have t_ := tR (zhI p _ h1) <| tR (zf5 N 0 0 l_ _ h2) <| tT h3 <| tR (zlq l_2 n2 _ h4) <| tT (za7 h5) <| tR (zak _ h6) <| tN
   exact zah (C := cfg) (sc := t_.ev) (.k0 t_.pf (by kernel_rfl))
 ·obtain ⟨t2, h4, h⟩ := zaf h
  have h := zad h
  subst h
  have t_ := tR (zhI p _ h1) <| tR (zf5 N 0 0 l_ _ h2) <| tF h3 <| tT (za7 h3) <| tR (zak _ h4) <| tN
  exact zah (C := cfg) (sc := t_.ev) (.k0 t_.pf (by kernel_rfl))
noncomputable def zgC (N : Nat) (l : List Int) (n n2 : Int) : Option (Int × Int × Int × zai × Int × Int) :=
 (zcc l n n2).bind fun (n3, n4, n5) =>
 (zdD l n4 n5).bind fun (n6, n7, n8) =>
 (zdD l n7 n8).bind fun (n9, n10, n11) =>
 (zfi 4096 l n10 n11).bind fun (s, n12, n13) =>
 bif (decide ((n13 : Int) = 0)) then
  bif decide (s.size ≤ 140737488355328) then
  (zhf N (zcn s)).bind fun (t, n14) =>
  bif (decide ((n14 : Int) = 0)) then
   some (n3, n6, n9, t, n12, n13)
  else
   (zbN).bind fun t2 =>
   some (0, 0, 0, t2, n12, n14)
  else none
 else
  (zbN).bind fun t =>
  some (0, 0, 0, t, n12, n13)
theorem zii (N : Nat) (l : List Int) (n n2 : Int) (r_ : Int × Int × Int × zai × Int × Int) (h : zgC N l n n2 = some r_) : Runs Tryz.prog 66 [(.one (.ref 0 0))] [[(.pv (.ints .u8 l false)), (.pv (.int .i64 n)), (.pv (.int .i64 n2))]] [] (zm1 l n n2 r_) := by
 unfold zgC at h
 obtain ⟨⟨n3, n4, n5⟩, h1, h⟩ := zaf h
 obtain ⟨⟨n6, n7, n8⟩, h2, h⟩ := zaf h
 obtain ⟨⟨n9, n10, n11⟩, h3, h⟩ := zaf h
 obtain ⟨⟨s, n12, n13⟩, h4, h⟩ := zaf h
 rcases zaj h with ⟨h5, h⟩ | ⟨h5, h⟩
 ·obtain ⟨h6, h⟩ := zaq h
  obtain ⟨⟨t, n14⟩, h7, h⟩ := zaf h
  have q_7 := (Runs.coe (as' := [(.one (.pv (.ints .u8 (List.take (zcn s).length (zcn s)) false)))]) (objs' := []) (rows' := []) (zm2 N (zcn s) _ h7) ⟨.pv (.ints (by first | rfl | (simp only [List.take_length]; done) | (simp; done) | (simp only [List.map_take, List.map_drop, List.map_append, List.take_length, List.nil_append]; done) | (simp only [List.length_map, List.take_length, List.length_append, List.drop_zero, List.map_append, List.map_take, List.map_drop, List.map_replicate, List.map_cons, List.map_nil, List.append_nil, List.nil_append]; done))), trivial⟩ trivial trivial)
  rcases zaj h with ⟨h8, h⟩ | ⟨h8, h⟩
  ·have h := zad h
   subst h
   have t_ := tR (zbi l n n2 _ h1) <| tR (zbw l n4 n5 _ h2) <| tR (zbw l n7 n8 _ h3) <| tR (zf1 4096 l n10 n11 _ h4) <| tF (zan h5) <| tO h6 <| tR q_7 <| tF (zan h8) <| tN
   exact zah (C := cfg) (sc := t_.ev) (.k0 t_.pf (by kernel_rfl))
  ·obtain ⟨t2, h9, h⟩ := zaf h
   have h := zad h
   subst h
   have t_ := tR (zbi l n n2 _ h1) <| tR (zbw l n4 n5 _ h2) <| tR (zbw l n7 n8 _ h3) <| tR (zf1 4096 l n10 n11 _ h4) <| tF (zan h5) <| tO h6 <| tR q_7 <| tT (za7 h8) <| tR (zak _ h9) <| tN
   exact zah (C := cfg) (sc := t_.ev) (.k0 t_.pf (by kernel_rfl))
 ·obtain ⟨t, h6, h⟩ := zaf h
  have h := zad h
  subst h
  have t_ := tR (zbi l n n2 _ h1) <| tR (zbw l n4 n5 _ h2) <| tR (zbw l n7 n8 _ h3) <| tR (zf1 4096 l n10 n11 _ h4) <| tT (za7 h5) <| tR (zak _ h6) <| tN
  exact zah (C := cfg) (sc := t_.ev) (.k0 t_.pf (by kernel_rfl))
def zjG (l : List Int) (n4 n5 : Int) : Int × Int × Int × List zae → St
 | (n, n2, n3, r) => ⟨[(4, (.av (.one (.ref 0 0)))), (5, (.av (.one (.ref 1 0)))), (6, (.av (.one (.pv (.int .u64 n)))))], [(0, [(.pv (.ints .u8 l false)), (.pv (.int .i64 n2)), (.pv (.int .i64 n3))]), (1, [(.pv (.int .i64 n4)), (.pv (.int .u64 n5)), (.own 0 0 ((List.map zae.pv r)).length false), (.pv .nils), (.pv .nils)])], [(0, (.live (.recs 4 (List.map zae.pv r))))]⟩
def zfA (l : List Int) (n4 n5 : Int) : Int × Int × List zae → Ex × St
 | (r1, r2, r3) => ((.exit 0), ⟨[(4, (.av (.one (.ref 0 0)))), (5, (.av (.one (.ref 1 0))))], [(0, [(.pv (.ints .u8 l false)), (.pv (.int .i64 r1)), (.pv (.int .i64 r2))]), (1, [(.pv (.int .i64 n4)), (.pv (.int .u64 n5)), (.own 0 0 ((List.map zae.pv r3)).length false), (.pv .nils), (.pv .nils)])], [(0, (.live (.recs 4 (List.map zae.pv r3))))]⟩)
noncomputable def zbC (N : Nat) (l : List Int) (n4 n5 : Int) : Int × Int × Int × List zae → Option ((Int × Int × Int × List zae) ⊕ (Int × Int × List zae))
 | (n, n2, n3, r) =>
 bif (decide ((0 : Int) < n)) then
  bif (decide ((n3 : Int) = 0)) then
   (zgC N l n2 n3).bind fun (n6, n7, n8, t, n9, n10) =>
   bif fits (((List.map zae.pv r) ++ ([[(.int .u64 n6), (.int .i64 n7), (.int .i64 n8), (zai.pv t)]] : List (List PV)))).length then
   some (.inl ((isub .u64 n 1), n9, n10, (r ++ [(zae.mk n6 n7 n8 t)])))
   else none
  else
   some (.inr (n2, n3, r))
 else
  some (.inr (n2, n3, r))
theorem zn0 (N : Nat) (l : List Int) (n4 n5 : Int) (s_ : Int × Int × Int × List zae) (z_ : (Int × Int × Int × List zae) ⊕ (Int × Int × List zae)) (h : zbC N l n4 n5 s_ = some z_) : zaP Tryz.prog cfg 29 0 (zax Tryz.prog 29 0) (zjG l n4 n5) (zfA l n4 n5) s_ z_ := by
 rcases s_ with ⟨n, n2, n3, r⟩
 rcases zaj h with ⟨h1, h⟩ | ⟨h1, h⟩
 ·rcases zaj h with ⟨h2, h⟩ | ⟨h2, h⟩
  ·obtain ⟨⟨n6, n7, n8, t, n9, n10⟩, h3, h⟩ := zaf h
   obtain ⟨h4, h⟩ := zaq h
   have h := zad h
   subst h
   have t_ := tT h1 <| tT h2 <| tR (zii N l n2 n3 _ h3) <| tR (zii N l n2 n3 _ h3) <| tO (show (Nat.beq ((List.map zae.pv r)).length ((List.map zae.pv r)).length) = true from Nat.beq_refl _) <| tO h4 <| tN
   exact ⟨t_.ev, ⟨[(4, (.av (.one (.ref 0 0)))), (5, (.av (.one (.ref 1 0)))), (6, (.av (.one (.pv (.int .u64 (isub .u64 n 1))))))], [(0, [(.pv (.ints .u8 l false)), (.pv (.int .i64 n9)), (.pv (.int .i64 n10))]), (1, [(.pv (.int .i64 n4)), (.pv (.int .u64 n5)), (.own 0 0 (((List.map zae.pv r) ++ ([[(.int .u64 n6), (.int .i64 n7), (.int .i64 n8), (zai.pv t)]] : List (List PV)))).length false), (.pv .nils), (.pv .nils)])], [(0, (.live (.recs 4 ((List.map zae.pv r) ++ ([[(.int .u64 n6), (.int .i64 n7), (.int .i64 n8), (zai.pv t)]] : List (List PV))))))]⟩, .k1 t_.pf (by kernel_rfl) (by kernel_rfl), ⟨⟨⟨_, rfl, .eq rfl⟩, ⟨_, rfl, .eq rfl⟩, ⟨_, rfl, .eq rfl⟩, trivial⟩, ⟨⟨rfl, ⟨.eq rfl, .eq rfl, .eq rfl, trivial⟩⟩, ⟨rfl, ⟨.eq rfl, .eq rfl, .own (by first | rfl | (simp only [List.take_length]; done) | (simp; done) | (simp only [List.map_take, List.map_drop, List.map_append, List.take_length, List.nil_append]; done) | (simp only [List.length_map, List.take_length, List.length_append, List.drop_zero, List.map_append, List.map_take, List.map_drop, List.map_replicate, List.map_cons, List.map_nil, List.append_nil, List.nil_append]; done)), .eq rfl, .eq rfl, trivial⟩⟩, trivial⟩, ⟨⟨rfl, .recs (.app (.eq rfl) (.cons (.cons (.eq rfl) (.cons (.eq rfl) (.cons (.eq rfl) (.cons (.eq rfl) (.nil))))) (.nil)))⟩, trivial⟩⟩⟩
  ·have h := zad h
   subst h
   have t_ := tT h1 <| tF h2 <| tN
   exact ⟨t_.ev, ⟨[(40, (.av (.one (.pv (.bool false))))), (4, (.av (.one (.ref 0 0)))), (5, (.av (.one (.ref 1 0)))), (6, (.av (.one (.pv (.int .u64 n))))), (40, (.av (.one (.pv (.bool (decide ((n3 : Int) = 0)))))))], [(0, [(.pv (.ints .u8 l false)), (.pv (.int .i64 n2)), (.pv (.int .i64 n3))]), (1, [(.pv (.int .i64 n4)), (.pv (.int .u64 n5)), (.own 0 0 ((List.map zae.pv r)).length false), (.pv .nils), (.pv .nils)])], [(0, (.live (.recs 4 (List.map zae.pv r))))]⟩, .k0 t_.pf (by kernel_rfl), ⟨⟨⟨_, rfl, .eq rfl⟩, ⟨_, rfl, .eq rfl⟩, trivial⟩, ⟨⟨rfl, ⟨.eq rfl, .eq rfl, .eq rfl, trivial⟩⟩, ⟨rfl, ⟨.eq rfl, .eq rfl, .eq rfl, .eq rfl, .eq rfl, trivial⟩⟩, trivial⟩, ⟨⟨rfl, .eq rfl⟩, trivial⟩⟩⟩
 ·have h := zad h
  subst h
  have t_ := tF h1 <| tF (rfl : false = false) <| tN
  exact ⟨t_.ev, ⟨[(40, (.av (.one (.pv (.bool false))))), (4, (.av (.one (.ref 0 0)))), (5, (.av (.one (.ref 1 0)))), (6, (.av (.one (.pv (.int .u64 n))))), (40, (.av (.one (.pv (.bool false)))))], [(0, [(.pv (.ints .u8 l false)), (.pv (.int .i64 n2)), (.pv (.int .i64 n3))]), (1, [(.pv (.int .i64 n4)), (.pv (.int .u64 n5)), (.own 0 0 ((List.map zae.pv r)).length false), (.pv .nils), (.pv .nils)])], [(0, (.live (.recs 4 (List.map zae.pv r))))]⟩, .k0 t_.pf (by kernel_rfl), ⟨⟨⟨_, rfl, .eq rfl⟩, ⟨_, rfl, .eq rfl⟩, trivial⟩, ⟨⟨rfl, ⟨.eq rfl, .eq rfl, .eq rfl, trivial⟩⟩, ⟨rfl, ⟨.eq rfl, .eq rfl, .eq rfl, .eq rfl, .eq rfl, trivial⟩⟩, trivial⟩, ⟨⟨rfl, .eq rfl⟩, trivial⟩⟩⟩
theorem zmb (N : Nat) (l : List Int) (n4 n5 : Int) (s_ : Int × Int × Int × List zae) (r_ : Int × Int × List zae) (h : runL (zbC N l n4 n5) s_ = some r_) : zaT Tryz.prog (lEnv Tryz.prog cfg 29 0).nt 0 (.loop (zax Tryz.prog 29 0)) (zjG l n4 n5 s_) (zfA l n4 n5 r_).1 (zfA l n4 n5 r_).2 :=
 zaJ h (zn0 N l n4 n5) (by intro r_; rcases r_ with ⟨r1, r2, r3⟩ <;> simp [zfA])
def zhg (l : List Int) (n4 n5 : Int) (r : List zae) : Int × Int × Int × List Int → St
 | (n, n2, n3, l2) => ⟨[(4, (.av (.one (.ref 0 0)))), (5, (.av (.one (.ref 1 0)))), (7, (.av (.one (.pv (.int .u64 n)))))], [(0, [(.pv (.ints .u8 l false)), (.pv (.int .i64 n2)), (.pv (.int .i64 n3))]), (1, [(.pv (.int .i64 n4)), (.pv (.int .u64 n5)), (.own 0 0 ((List.map zae.pv r)).length false), (.own 1 0 (l2).length false), (.pv .nils)])], [(0, (.live (.recs 4 (List.map zae.pv r)))), (1, (.live (.ints .i64 l2)))]⟩
def zfB (l : List Int) (n4 n5 : Int) (r : List zae) : Int × Int × List Int → Ex × St
 | (r1, r2, r3) => ((.exit 2), ⟨[(4, (.av (.one (.ref 0 0)))), (5, (.av (.one (.ref 1 0))))], [(0, [(.pv (.ints .u8 l false)), (.pv (.int .i64 r1)), (.pv (.int .i64 r2))]), (1, [(.pv (.int .i64 n4)), (.pv (.int .u64 n5)), (.own 0 0 ((List.map zae.pv r)).length false), (.own 1 0 (r3).length false), (.pv .nils)])], [(0, (.live (.recs 4 (List.map zae.pv r)))), (1, (.live (.ints .i64 r3)))]⟩)
noncomputable def zbD (l : List Int) (n4 n5 : Int) (r : List zae) : Int × Int × Int × List Int → Option ((Int × Int × Int × List Int) ⊕ (Int × Int × List Int))
 | (n, n2, n3, l2) =>
 bif (decide ((0 : Int) < n)) then
  bif (decide ((n3 : Int) = 0)) then
   (zdD l n2 n3).bind fun (n6, n7, n8) =>
   bif fits ((l2 ++ [n6])).length then
   some (.inl ((isub .u64 n 1), n7, n8, (l2 ++ [n6])))
   else none
  else
   some (.inr (n2, n3, l2))
 else
  some (.inr (n2, n3, l2))
theorem zn1 (l : List Int) (n4 n5 : Int) (r : List zae) (s_ : Int × Int × Int × List Int) (z_ : (Int × Int × Int × List Int) ⊕ (Int × Int × List Int)) (h : zbD l n4 n5 r s_ = some z_) : zaP Tryz.prog cfg 29 0 (zax Tryz.prog 29 1) (zhg l n4 n5 r) (zfB l n4 n5 r) s_ z_ := by
 rcases s_ with ⟨n, n2, n3, l2⟩
 rcases zaj h with ⟨h1, h⟩ | ⟨h1, h⟩
 ·rcases zaj h with ⟨h2, h⟩ | ⟨h2, h⟩
  ·obtain ⟨⟨n6, n7, n8⟩, h3, h⟩ := zaf h
   obtain ⟨h4, h⟩ := zaq h
   have h := zad h
   subst h
   have t_ := tT h1 <| tT h2 <| tR (zbw l n2 n3 _ h3) <| tR (zbw l n2 n3 _ h3) <| tO (show (Nat.beq (l2).length (l2).length) = true from Nat.beq_refl _) <| tO h4 <| tN
   exact ⟨t_.ev, zhg l n4 n5 r ((isub .u64 n 1), n7, n8, (l2 ++ [n6])), .k1 t_.pf (by kernel_rfl) (by kernel_rfl), .same (by kernel_rfl)⟩
  ·have h := zad h
   subst h
   have t_ := tT h1 <| tF h2 <| tN
   exact ⟨t_.ev, ⟨[(64, (.av (.one (.pv (.bool false))))), (4, (.av (.one (.ref 0 0)))), (5, (.av (.one (.ref 1 0)))), (7, (.av (.one (.pv (.int .u64 n))))), (64, (.av (.one (.pv (.bool (decide ((n3 : Int) = 0)))))))], [(0, [(.pv (.ints .u8 l false)), (.pv (.int .i64 n2)), (.pv (.int .i64 n3))]), (1, [(.pv (.int .i64 n4)), (.pv (.int .u64 n5)), (.own 0 0 ((List.map zae.pv r)).length false), (.own 1 0 (l2).length false), (.pv .nils)])], [(0, (.live (.recs 4 (List.map zae.pv r)))), (1, (.live (.ints .i64 l2)))]⟩, .k0 t_.pf (by kernel_rfl), ⟨⟨⟨_, rfl, .eq rfl⟩, ⟨_, rfl, .eq rfl⟩, trivial⟩, ⟨⟨rfl, ⟨.eq rfl, .eq rfl, .eq rfl, trivial⟩⟩, ⟨rfl, ⟨.eq rfl, .eq rfl, .eq rfl, .eq rfl, .eq rfl, trivial⟩⟩, trivial⟩, ⟨⟨rfl, .eq rfl⟩, ⟨rfl, .eq rfl⟩, trivial⟩⟩⟩
 ·have h := zad h
  subst h
  have t_ := tF h1 <| tF (rfl : false = false) <| tN
  exact ⟨t_.ev, ⟨[(64, (.av (.one (.pv (.bool false))))), (4, (.av (.one (.ref 0 0)))), (5, (.av (.one (.ref 1 0)))), (7, (.av (.one (.pv (.int .u64 n))))), (64, (.av (.one (.pv (.bool false)))))], [(0, [(.pv (.ints .u8 l false)), (.pv (.int .i64 n2)), (.pv (.int .i64 n3))]), (1, [(.pv (.int .i64 n4)), (.pv (.int .u64 n5)), (.own 0 0 ((List.map zae.pv r)).length false), (.own 1 0 (l2).length false), (.pv .nils)])], [(0, (.live (.recs 4 (List.map zae.pv r)))), (1, (.live (.ints .i64 l2)))]⟩, .k0 t_.pf (by kernel_rfl), ⟨⟨⟨_, rfl, .eq rfl⟩, ⟨_, rfl, .eq rfl⟩, trivial⟩, ⟨⟨rfl, ⟨.eq rfl, .eq rfl, .eq rfl, trivial⟩⟩, ⟨rfl, ⟨.eq rfl, .eq rfl, .eq rfl, .eq rfl, .eq rfl, trivial⟩⟩, trivial⟩, ⟨⟨rfl, .eq rfl⟩, ⟨rfl, .eq rfl⟩, trivial⟩⟩⟩
theorem zmc (l : List Int) (n4 n5 : Int) (r : List zae) (s_ : Int × Int × Int × List Int) (r_ : Int × Int × List Int) (h : runL (zbD l n4 n5 r) s_ = some r_) : zaT Tryz.prog (lEnv Tryz.prog cfg 29 0).nt 0 (.loop (zax Tryz.prog 29 1)) (zhg l n4 n5 r s_) (zfB l n4 n5 r r_).1 (zfB l n4 n5 r r_).2 :=
 zaJ h (zn1 l n4 n5 r) (by intro r_; rcases r_ with ⟨r1, r2, r3⟩ <;> simp [zfB])
def zjH (l : List Int) (n4 n5 : Int) (r : List zae) (l2 : List Int) : Int × Int × Int × List zag → St
 | (n, n2, n3, r2) => ⟨[(4, (.av (.one (.ref 0 0)))), (5, (.av (.one (.ref 1 0)))), (8, (.av (.one (.pv (.int .u64 n)))))], [(0, [(.pv (.ints .u8 l false)), (.pv (.int .i64 n2)), (.pv (.int .i64 n3))]), (1, [(.pv (.int .i64 n4)), (.pv (.int .u64 n5)), (.own 0 0 ((List.map zae.pv r)).length false), (.own 1 0 (l2).length false), (.own 2 0 ((List.map zag.pv r2)).length false)])], [(0, (.live (.recs 4 (List.map zae.pv r)))), (1, (.live (.ints .i64 l2))), (2, (.live (.recs 2 (List.map zag.pv r2))))]⟩
def zfC (l : List Int) (n4 n5 : Int) (r : List zae) (l2 : List Int) : Int × Int × List zag → Ex × St
 | (r1, r2, r3) => ((.exit 4), ⟨[(4, (.av (.one (.ref 0 0)))), (5, (.av (.one (.ref 1 0))))], [(0, [(.pv (.ints .u8 l false)), (.pv (.int .i64 r1)), (.pv (.int .i64 r2))]), (1, [(.pv (.int .i64 n4)), (.pv (.int .u64 n5)), (.own 0 0 ((List.map zae.pv r)).length false), (.own 1 0 (l2).length false), (.own 2 0 ((List.map zag.pv r3)).length false)])], [(0, (.live (.recs 4 (List.map zae.pv r)))), (1, (.live (.ints .i64 l2))), (2, (.live (.recs 2 (List.map zag.pv r3))))]⟩)
noncomputable def zbE (l : List Int) (n4 n5 : Int) (r : List zae) (l2 : List Int) : Int × Int × Int × List zag → Option ((Int × Int × Int × List zag) ⊕ (Int × Int × List zag))
 | (n, n2, n3, r2) =>
 bif (decide ((0 : Int) < n)) then
  bif (decide ((n3 : Int) = 0)) then
   (zdD l n2 n3).bind fun (n6, n7, n8) =>
   (zcc l n7 n8).bind fun (n9, n10, n11) =>
   bif fits (((List.map zag.pv r2) ++ ([[(.int .i64 n6), (.int .u64 n9)]] : List (List PV)))).length then
   some (.inl ((isub .u64 n 1), n10, n11, (r2 ++ [(zag.mk n6 n9)])))
   else none
  else
   some (.inr (n2, n3, r2))
 else
  some (.inr (n2, n3, r2))
theorem zn2 (l : List Int) (n4 n5 : Int) (r : List zae) (l2 : List Int) (s_ : Int × Int × Int × List zag) (z_ : (Int × Int × Int × List zag) ⊕ (Int × Int × List zag)) (h : zbE l n4 n5 r l2 s_ = some z_) : zaP Tryz.prog cfg 29 0 (zax Tryz.prog 29 2) (zjH l n4 n5 r l2) (zfC l n4 n5 r l2) s_ z_ := by
 rcases s_ with ⟨n, n2, n3, r2⟩
 rcases zaj h with ⟨h1, h⟩ | ⟨h1, h⟩
 ·rcases zaj h with ⟨h2, h⟩ | ⟨h2, h⟩
  ·obtain ⟨⟨n6, n7, n8⟩, h3, h⟩ := zaf h
   obtain ⟨⟨n9, n10, n11⟩, h4, h⟩ := zaf h
   obtain ⟨h5, h⟩ := zaq h
   have h := zad h
   subst h
   have t_ := tT h1 <| tT h2 <| tR (zbw l n2 n3 _ h3) <| tR (zbi l n7 n8 _ h4) <| tR (zbi l n7 n8 _ h4) <| tO (show (Nat.beq ((List.map zag.pv r2)).length ((List.map zag.pv r2)).length) = true from Nat.beq_refl _) <| tO h5 <| tN
   exact ⟨t_.ev, ⟨[(4, (.av (.one (.ref 0 0)))), (5, (.av (.one (.ref 1 0)))), (8, (.av (.one (.pv (.int .u64 (isub .u64 n 1))))))], [(0, [(.pv (.ints .u8 l false)), (.pv (.int .i64 n10)), (.pv (.int .i64 n11))]), (1, [(.pv (.int .i64 n4)), (.pv (.int .u64 n5)), (.own 0 0 ((List.map zae.pv r)).length false), (.own 1 0 (l2).length false), (.own 2 0 (((List.map zag.pv r2) ++ ([[(.int .i64 n6), (.int .u64 n9)]] : List (List PV)))).length false)])], [(0, (.live (.recs 4 (List.map zae.pv r)))), (1, (.live (.ints .i64 l2))), (2, (.live (.recs 2 ((List.map zag.pv r2) ++ ([[(.int .i64 n6), (.int .u64 n9)]] : List (List PV))))))]⟩, .k1 t_.pf (by kernel_rfl) (by kernel_rfl), ⟨⟨⟨_, rfl, .eq rfl⟩, ⟨_, rfl, .eq rfl⟩, ⟨_, rfl, .eq rfl⟩, trivial⟩, ⟨⟨rfl, ⟨.eq rfl, .eq rfl, .eq rfl, trivial⟩⟩, ⟨rfl, ⟨.eq rfl, .eq rfl, .eq rfl, .eq rfl, .own (by first | rfl | (simp only [List.take_length]; done) | (simp; done) | (simp only [List.map_take, List.map_drop, List.map_append, List.take_length, List.nil_append]; done) | (simp only [List.length_map, List.take_length, List.length_append, List.drop_zero, List.map_append, List.map_take, List.map_drop, List.map_replicate, List.map_cons, List.map_nil, List.append_nil, List.nil_append]; done)), trivial⟩⟩, trivial⟩, ⟨⟨rfl, .eq rfl⟩, ⟨rfl, .eq rfl⟩, ⟨rfl, .recs (.app (.eq rfl) (.cons (.cons (.eq rfl) (.cons (.eq rfl) (.nil))) (.nil)))⟩, trivial⟩⟩⟩
  ·have h := zad h
   subst h
   have t_ := tT h1 <| tF h2 <| tN
   exact ⟨t_.ev, ⟨[(88, (.av (.one (.pv (.bool false))))), (4, (.av (.one (.ref 0 0)))), (5, (.av (.one (.ref 1 0)))), (8, (.av (.one (.pv (.int .u64 n))))), (88, (.av (.one (.pv (.bool (decide ((n3 : Int) = 0)))))))], [(0, [(.pv (.ints .u8 l false)), (.pv (.int .i64 n2)), (.pv (.int .i64 n3))]), (1, [(.pv (.int .i64 n4)), (.pv (.int .u64 n5)), (.own 0 0 ((List.map zae.pv r)).length false), (.own 1 0 (l2).length false), (.own 2 0 ((List.map zag.pv r2)).length false)])], [(0, (.live (.recs 4 (List.map zae.pv r)))), (1, (.live (.ints .i64 l2))), (2, (.live (.recs 2 (List.map zag.pv r2))))]⟩, .k0 t_.pf (by kernel_rfl), ⟨⟨⟨_, rfl, .eq rfl⟩, ⟨_, rfl, .eq rfl⟩, trivial⟩, ⟨⟨rfl, ⟨.eq rfl, .eq rfl, .eq rfl, trivial⟩⟩, ⟨rfl, ⟨.eq rfl, .eq rfl, .eq rfl, .eq rfl, .eq rfl, trivial⟩⟩, trivial⟩, ⟨⟨rfl, .eq rfl⟩, ⟨rfl, .eq rfl⟩, ⟨rfl, .eq rfl⟩, trivial⟩⟩⟩
 ·have h := zad h
  subst h
  have t_ := tF h1 <| tF (rfl : false = false) <| tN
  exact ⟨t_.ev, ⟨[(88, (.av (.one (.pv (.bool false))))), (4, (.av (.one (.ref 0 0)))), (5, (.av (.one (.ref 1 0)))), (8, (.av (.one (.pv (.int .u64 n))))), (88, (.av (.one (.pv (.bool false)))))], [(0, [(.pv (.ints .u8 l false)), (.pv (.int .i64 n2)), (.pv (.int .i64 n3))]), (1, [(.pv (.int .i64 n4)), (.pv (.int .u64 n5)), (.own 0 0 ((List.map zae.pv r)).length false), (.own 1 0 (l2).length false), (.own 2 0 ((List.map zag.pv r2)).length false)])], [(0, (.live (.recs 4 (List.map zae.pv r)))), (1, (.live (.ints .i64 l2))), (2, (.live (.recs 2 (List.map zag.pv r2))))]⟩, .k0 t_.pf (by kernel_rfl), ⟨⟨⟨_, rfl, .eq rfl⟩, ⟨_, rfl, .eq rfl⟩, trivial⟩, ⟨⟨rfl, ⟨.eq rfl, .eq rfl, .eq rfl, trivial⟩⟩, ⟨rfl, ⟨.eq rfl, .eq rfl, .eq rfl, .eq rfl, .eq rfl, trivial⟩⟩, trivial⟩, ⟨⟨rfl, .eq rfl⟩, ⟨rfl, .eq rfl⟩, ⟨rfl, .eq rfl⟩, trivial⟩⟩⟩
theorem zmd (l : List Int) (n4 n5 : Int) (r : List zae) (l2 : List Int) (s_ : Int × Int × Int × List zag) (r_ : Int × Int × List zag) (h : runL (zbE l n4 n5 r l2) s_ = some r_) : zaT Tryz.prog (lEnv Tryz.prog cfg 29 0).nt 0 (.loop (zax Tryz.prog 29 2)) (zjH l n4 n5 r l2 s_) (zfC l n4 n5 r l2 r_).1 (zfC l n4 n5 r l2 r_).2 :=
 zaJ h (zn2 l n4 n5 r l2) (by intro r_; rcases r_ with ⟨r1, r2, r3⟩ <;> simp [zfC])
def zqW (l : List Int) (n n2 : Int) : Int × Int → Res
 | (r1, r2) => ([(.one (.pv (.int .i64 r1)))], [[(.pv (.ints .u8 l false)), (.pv (.int .i64 n)), (.pv (.int .i64 r2))]], [])
noncomputable def zls (l : List Int) (n n2 : Int) : Option (Int × Int) :=
 bif (decide ((n : Int) < ((l).length : Int))) then
  (zic 6 l n n2).bind fun n3 =>
  some (n3, n3)
 else
  some (n2, n2)
theorem zp9 (l : List Int) (n n2 : Int) (r_ : Int × Int) (h : zls l n n2 = some r_) : Runs Tryz.prog 67 [(.one (.ref 0 0))] [[(.pv (.ints .u8 l false)), (.pv (.int .i64 n)), (.pv (.int .i64 n2))]] [] (zqW l n n2 r_) := by
 unfold zls at h
 rcases zaj h with ⟨h1, h⟩ | ⟨h1, h⟩
 ·obtain ⟨n3, h2, h⟩ := zaf h
  have h := zad h
  subst h
  have t_ := tT h1 <| tR (zks 6 l n n2 _ h2) <| tN
  exact zah (C := cfg) (sc := t_.ev) (.k1 t_.pf (by kernel_rfl) (by kernel_rfl))
 ·have h := zad h
  subst h
  have t_ := tF h1 <| tN
  exact zah (C := cfg) (sc := t_.ev) (.k1 t_.pf (by kernel_rfl) (by kernel_rfl))
def zo7 (g g2 g3 : Int) (g4 : zai) : Bool → Res
 | r1 => ([(.one (.pv (.bool r1)))], [], [])
noncomputable def zij (g g2 g3 : Int) (g4 : zai) : Option (Bool) :=
 bif (decide ((0 : Int) < g)) then
  bif (decide ((g : Int) < 4611686018427387904)) then
   bif (decide ((0 : Int) ≤ g2)) then
    bif (decide ((g2 : Int) < 12)) then
     bif (decide ((0 : Int) ≤ g3)) then
      bif (decide ((g3 : Int) < 12)) then
       bif (decide ((g2 : Int) = g3)) then
        some false
       else
        match g4 with
        | .nil =>
         none
        | .mk n t t2 =>
         some (!(decide ((n : Int) = 0)))
      else
       some false
     else
      some false
    else
     some false
   else
    some false
  else
   some false
 else
  some false
theorem zdP (g g2 g3 : Int) (g4 : zai) (r_ : Bool) (h : zij g g2 g3 g4 = some r_) : Runs Tryz.prog 68 [(.agg [(.pv (.int .u64 g)), (.pv (.int .i64 g2)), (.pv (.int .i64 g3)), (.pv (zai.pv g4))])] [] [] (zo7 g g2 g3 g4 r_) := by
 unfold zij at h
 rcases zaj h with ⟨h1, h⟩ | ⟨h1, h⟩
 ·rcases zaj h with ⟨h2, h⟩ | ⟨h2, h⟩
  ·rcases zaj h with ⟨h3, h⟩ | ⟨h3, h⟩
   ·rcases zaj h with ⟨h4, h⟩ | ⟨h4, h⟩
    ·rcases zaj h with ⟨h5, h⟩ | ⟨h5, h⟩
     ·rcases zaj h with ⟨h6, h⟩ | ⟨h6, h⟩
      ·rcases zaj h with ⟨h7, h⟩ | ⟨h7, h⟩
       ·have h := zad h
        subst h
        have t_ := tT h1 <| tT h2 <| tT h3 <| tT h4 <| tT h5 <| tT h6 <| tF (zan h7) <| tN
        exact zah (C := cfg) (sc := t_.ev) (.k0 t_.pf (by kernel_rfl))
       ·cases g4 with
        | nil =>
         cases h
        | mk n t t2 =>
         have h := zad h
         subst h
         have t_ := tT h1 <| tT h2 <| tT h3 <| tT h4 <| tT h5 <| tT h6 <| tT (za7 h7) <| tN
         exact zah (C := cfg) (sc := t_.ev) (.k0 t_.pf (by kernel_rfl))
      ·have h := zad h
       subst h
       have t_ := tT h1 <| tT h2 <| tT h3 <| tT h4 <| tT h5 <| tF h6 <| tF (rfl : false = false) <| tN
       exact zah (C := cfg) (sc := t_.ev) (.k0 t_.pf (by kernel_rfl))
     ·have h := zad h
      subst h
      have t_ := tT h1 <| tT h2 <| tT h3 <| tT h4 <| tF h5 <| tF (rfl : false = false) <| tF (rfl : false = false) <| tN
      exact zah (C := cfg) (sc := t_.ev) (.k0 t_.pf (by kernel_rfl))
    ·have h := zad h
     subst h
     have t_ := tT h1 <| tT h2 <| tT h3 <| tF h4 <| tF (rfl : false = false) <| tF (rfl : false = false) <| tF (rfl : false = false) <| tN
     exact zah (C := cfg) (sc := t_.ev) (.k0 t_.pf (by kernel_rfl))
   ·have h := zad h
    subst h
    have t_ := tT h1 <| tT h2 <| tF h3 <| tF (rfl : false = false) <| tF (rfl : false = false) <| tF (rfl : false = false) <| tF (rfl : false = false) <| tN
    exact zah (C := cfg) (sc := t_.ev) (.k0 t_.pf (by kernel_rfl))
  ·have h := zad h
   subst h
   have t_ := tT h1 <| tF h2 <| tF (rfl : false = false) <| tF (rfl : false = false) <| tF (rfl : false = false) <| tF (rfl : false = false) <| tF (rfl : false = false) <| tN
   exact zah (C := cfg) (sc := t_.ev) (.k0 t_.pf (by kernel_rfl))
 ·have h := zad h
  subst h
  have t_ := tF h1 <| tF (rfl : false = false) <| tF (rfl : false = false) <| tF (rfl : false = false) <| tF (rfl : false = false) <| tF (rfl : false = false) <| tF (rfl : false = false) <| tN
  exact zah (C := cfg) (sc := t_.ev) (.k0 t_.pf (by kernel_rfl))
def zqc (to n n2 : Int) (r : List zae) (l : List Int) (r2 : List zag) : Bool → Res
 | r1 => ([(.one (.pv (.bool r1)))], [[(.pv (.int .i64 n)), (.pv (.int .u64 n2)), (.pv (.recs 4 (List.map zae.pv r) false)), (.pv (.ints .i64 l false)), (.pv (.recs 2 (List.map zag.pv r2) false))]], [])
def zhe (to : Int) (l : List Int) (n n2 n3 : Int) (r : List zae) (l2 : List Int) (r2 : List zag) : Int → St
 | n4 => ⟨[(1, (.av (.one (.pv (.int .i64 to))))), (10, (.av (.one (.pv (.ints .i64 l false))))), (11, (.av (.one (.pv (.int .i64 n))))), (12, (.av (.one (.pv (.int .i64 n4)))))], [(0, [(.pv (.int .i64 n2)), (.pv (.int .u64 n3)), (.pv (.recs 4 (List.map zae.pv r) false)), (.pv (.ints .i64 l2 false)), (.pv (.recs 2 (List.map zag.pv r2) false))])], []⟩
def zeE (to : Int) (l : List Int) (n n2 n3 : Int) (r : List zae) (l2 : List Int) (r2 : List zag) : (Unit) ⊕ (Unit) → Ex × St
 | .inl _ => (.ret, ⟨[(4, (.av (.one (.pv (.bool true)))))], [(0, [(.pv (.int .i64 n2)), (.pv (.int .u64 n3)), (.pv (.recs 4 (List.map zae.pv r) false)), (.pv (.ints .i64 l2 false)), (.pv (.recs 2 (List.map zag.pv r2) false))])], []⟩)
 | .inr _ => ((.exit 0), ⟨[], [(0, [(.pv (.int .i64 n2)), (.pv (.int .u64 n3)), (.pv (.recs 4 (List.map zae.pv r) false)), (.pv (.ints .i64 l2 false)), (.pv (.recs 2 (List.map zag.pv r2) false))])], []⟩)
noncomputable def zc1 (to : Int) (l : List Int) (n n2 n3 : Int) (r : List zae) (l2 : List Int) (r2 : List zag) : Int → Option ((Int) ⊕ ((Unit) ⊕ (Unit)))
 | n4 =>
 bif (decide ((n4 : Int) < n)) then
  bif decide ((0 : Int) ≤ n4) && decide ((n4 : Int) < ((l).length : Int)) then
  bif (decide (((l.getD (n4).toNat 0) : Int) = to)) then
   some (.inr (.inl ()))
  else
   some (.inl (iadd .i64 n4 1))
  else none
 else
  some (.inr (.inr ()))
theorem znY (to : Int) (l : List Int) (n n2 n3 : Int) (r : List zae) (l2 : List Int) (r2 : List zag) (n4 : Int) (z_ : (Int) ⊕ ((Unit) ⊕ (Unit))) (h : zc1 to l n n2 n3 r l2 r2 n4 = some z_) : zaP Tryz.prog cfg 37 1 (zax Tryz.prog 37 0) (zhe to l n n2 n3 r l2 r2) (zeE to l n n2 n3 r l2 r2) n4 z_ := by
 rcases zaj h with ⟨h1, h⟩ | ⟨h1, h⟩
 ·obtain ⟨h2, h⟩ := zaq h
  rcases zaj h with ⟨h3, h⟩ | ⟨h3, h⟩
  ·have h := zad h
   subst h
   have t_ := tT h1 <| tO h2 <| tT h3 <| tN
   exact ⟨t_.ev, (zeE to l n n2 n3 r l2 r2 (.inl ())).2, .k0 t_.pf (by kernel_rfl), .same (by kernel_rfl)⟩
  ·have h := zad h
   subst h
   have t_ := tT h1 <| tO h2 <| tF h3 <| tN
   exact ⟨t_.ev, zhe to l n n2 n3 r l2 r2 (iadd .i64 n4 1), .k0 t_.pf (by kernel_rfl), .same (by kernel_rfl)⟩
 ·have h := zad h
  subst h
  have t_ := tF h1 <| tN
  exact ⟨t_.ev, ⟨[(13, (.av (.one (.pv (.bool false))))), (1, (.av (.one (.pv (.int .i64 to))))), (10, (.av (.one (.pv (.ints .i64 l false))))), (11, (.av (.one (.pv (.int .i64 n))))), (12, (.av (.one (.pv (.int .i64 n4))))), (13, (.av (.one (.pv (.bool (decide ((n4 : Int) < n)))))))], [(0, [(.pv (.int .i64 n2)), (.pv (.int .u64 n3)), (.pv (.recs 4 (List.map zae.pv r) false)), (.pv (.ints .i64 l2 false)), (.pv (.recs 2 (List.map zag.pv r2) false))])], []⟩, .k0 t_.pf (by kernel_rfl), ⟨trivial, ⟨⟨rfl, ⟨.eq rfl, .eq rfl, .eq rfl, .eq rfl, .eq rfl, trivial⟩⟩, trivial⟩, trivial⟩⟩
theorem zih (to : Int) (l : List Int) (n n2 n3 : Int) (r : List zae) (l2 : List Int) (r2 : List zag) (s_ : Int) (r_ : (Unit) ⊕ (Unit)) (h : runL (zc1 to l n n2 n3 r l2 r2) s_ = some r_) : zaT Tryz.prog (lEnv Tryz.prog cfg 37 1).nt 1 (.loop (zax Tryz.prog 37 0)) (zhe to l n n2 n3 r l2 r2 s_) (zeE to l n n2 n3 r l2 r2 r_).1 (zeE to l n n2 n3 r l2 r2 r_).2 :=
 zaJ h (znY to l n n2 n3 r l2 r2) (by intro r_; rcases r_ with _ | _ <;> simp [zeE])
noncomputable def zjF (to n n2 : Int) (r : List zae) (l : List Int) (r2 : List zag) : Option (Bool) :=
 (runL (zc1 to l ((l).length : Int) n n2 r l r2) 0).bind fun z_ => match z_ with
 | .inl _ =>
  some true
 | .inr _ =>
  some false
theorem zhK (to n n2 : Int) (r : List zae) (l : List Int) (r2 : List zag) (r_ : Bool) (h : zjF to n n2 r l r2 = some r_) : Runs Tryz.prog 37 [(.one (.ref 0 0)), (.one (.pv (.int .i64 to)))] [[(.pv (.int .i64 n)), (.pv (.int .u64 n2)), (.pv (.recs 4 (List.map zae.pv r) false)), (.pv (.ints .i64 l false)), (.pv (.recs 2 (List.map zag.pv r2) false))]] [] (zqc to n n2 r l r2 r_) := by
 unfold zjF at h
 obtain ⟨z_, h1, h⟩ := zaf h
 rcases z_ with _ | _
 ·have h := zad h
  subst h
  have t_ := tL (zih to l ((l).length : Int) n n2 r l r2 _ _ h1) <| tN
  exact zah (C := cfg) (sc := t_.ev) (.k0 t_.pf (by kernel_rfl))
 ·have h := zad h
  subst h
  have t_ := tL (zih to l ((l).length : Int) n n2 r l r2 _ _ h1) <| tN
  exact zah (C := cfg) (sc := t_.ev) (.k0 t_.pf (by kernel_rfl))
def zrZ (to n n2 : Int) (r : List zae) (l : List Int) (r2 : List zag) : Int → Res
 | r1 => ([(.one (.pv (.int .i64 r1)))], [[(.pv (.int .i64 n)), (.pv (.int .u64 n2)), (.pv (.recs 4 (List.map zae.pv r) false)), (.pv (.ints .i64 l false)), (.pv (.recs 2 (List.map zag.pv r2) false))]], [])
def ziI (to : Int) (r : List zae) (n n2 n3 : Int) (r2 : List zae) (l : List Int) (r3 : List zag) : Int → St
 | n4 => ⟨[(1, (.av (.one (.pv (.int .i64 to))))), (10, (.av (.one (.pv (.recs 4 (List.map zae.pv r) false))))), (11, (.av (.one (.pv (.int .i64 n))))), (12, (.av (.one (.pv (.int .i64 n4)))))], [(0, [(.pv (.int .i64 n2)), (.pv (.int .u64 n3)), (.pv (.recs 4 (List.map zae.pv r2) false)), (.pv (.ints .i64 l false)), (.pv (.recs 2 (List.map zag.pv r3) false))])], []⟩
def zfG (to : Int) (r : List zae) (n n2 n3 : Int) (r2 : List zae) (l : List Int) (r3 : List zag) : (Int) ⊕ (Unit) → Ex × St
 | .inl r1 => (.ret, ⟨[(4, (.av (.one (.pv (.int .i64 r1)))))], [(0, [(.pv (.int .i64 n2)), (.pv (.int .u64 n3)), (.pv (.recs 4 (List.map zae.pv r2) false)), (.pv (.ints .i64 l false)), (.pv (.recs 2 (List.map zag.pv r3) false))])], []⟩)
 | .inr _ => ((.exit 0), ⟨[], [(0, [(.pv (.int .i64 n2)), (.pv (.int .u64 n3)), (.pv (.recs 4 (List.map zae.pv r2) false)), (.pv (.ints .i64 l false)), (.pv (.recs 2 (List.map zag.pv r3) false))])], []⟩)
noncomputable def zdQ (to : Int) (r : List zae) (n n2 n3 : Int) (r2 : List zae) (l : List Int) (r3 : List zag) : Int → Option ((Int) ⊕ ((Int) ⊕ (Unit)))
 | n4 =>
 bif (decide ((n4 : Int) < n)) then
  bif decide ((0 : Int) ≤ n4) && decide ((n4 : Int) < (((List.map zae.pv r)).length : Int)) then
  (r[(n4).toNat]?).bind fun e_ => match e_ with
  | .mk n5 n6 n7 t =>
  bif (decide ((n7 : Int) = to)) then
   some (.inr (.inl n4))
  else
   some (.inl (iadd .i64 n4 1))
  else none
 else
  some (.inr (.inr ()))
theorem zqe (to : Int) (r : List zae) (n n2 n3 : Int) (r2 : List zae) (l : List Int) (r3 : List zag) (n4 : Int) (z_ : (Int) ⊕ ((Int) ⊕ (Unit))) (h : zdQ to r n n2 n3 r2 l r3 n4 = some z_) : zaP Tryz.prog cfg 36 1 (zax Tryz.prog 36 0) (ziI to r n n2 n3 r2 l r3) (zfG to r n n2 n3 r2 l r3) n4 z_ := by
 rcases zaj h with ⟨h1, h⟩ | ⟨h1, h⟩
 ·obtain ⟨h2, h⟩ := zaq h
  obtain ⟨⟨n5, n6, n7, t⟩, h3, h⟩ := zaf h
  rcases zaj h with ⟨h4, h⟩ | ⟨h4, h⟩
  ·have h := zad h
   subst h
   have t_ := tT h1 <| tO h2 <| tE (.el [(.int .u64 n5), (.int .i64 n6), (.int .i64 n7), (zai.pv t)]) <| tO (zc0 (f := zae.pv) h3) <| tT h4 <| tN
   exact ⟨t_.ev, (zfG to r n n2 n3 r2 l r3 (.inl n4)).2, .k0 t_.pf (by kernel_rfl), .same (by kernel_rfl)⟩
  ·have h := zad h
   subst h
   have t_ := tT h1 <| tO h2 <| tE (.el [(.int .u64 n5), (.int .i64 n6), (.int .i64 n7), (zai.pv t)]) <| tO (zc0 (f := zae.pv) h3) <| tF h4 <| tN
   exact ⟨t_.ev, ziI to r n n2 n3 r2 l r3 (iadd .i64 n4 1), .k0 t_.pf (by kernel_rfl), .same (by kernel_rfl)⟩
 ·have h := zad h
  subst h
  have t_ := tF h1 <| tN
  exact ⟨t_.ev, ⟨[(13, (.av (.one (.pv (.bool false))))), (1, (.av (.one (.pv (.int .i64 to))))), (10, (.av (.one (.pv (.recs 4 (List.map zae.pv r) false))))), (11, (.av (.one (.pv (.int .i64 n))))), (12, (.av (.one (.pv (.int .i64 n4))))), (13, (.av (.one (.pv (.bool (decide ((n4 : Int) < n)))))))], [(0, [(.pv (.int .i64 n2)), (.pv (.int .u64 n3)), (.pv (.recs 4 (List.map zae.pv r2) false)), (.pv (.ints .i64 l false)), (.pv (.recs 2 (List.map zag.pv r3) false))])], []⟩, .k0 t_.pf (by kernel_rfl), ⟨trivial, ⟨⟨rfl, ⟨.eq rfl, .eq rfl, .eq rfl, .eq rfl, .eq rfl, trivial⟩⟩, trivial⟩, trivial⟩⟩
theorem zjI (to : Int) (r : List zae) (n n2 n3 : Int) (r2 : List zae) (l : List Int) (r3 : List zag) (s_ : Int) (r_ : (Int) ⊕ (Unit)) (h : runL (zdQ to r n n2 n3 r2 l r3) s_ = some r_) : zaT Tryz.prog (lEnv Tryz.prog cfg 36 1).nt 1 (.loop (zax Tryz.prog 36 0)) (ziI to r n n2 n3 r2 l r3 s_) (zfG to r n n2 n3 r2 l r3 r_).1 (zfG to r n n2 n3 r2 l r3 r_).2 :=
 zaJ h (zqe to r n n2 n3 r2 l r3) (by intro r_; rcases r_ with r1 | _ <;> simp [zfG])
noncomputable def zkZ (to n n2 : Int) (r : List zae) (l : List Int) (r2 : List zag) : Option (Int) :=
 (runL (zdQ to r (((List.map zae.pv r)).length : Int) n n2 r l r2) 0).bind fun z_ => match z_ with
 | .inl n3 =>
  some n3
 | .inr _ =>
  some (-1)
theorem zmB (to n n2 : Int) (r : List zae) (l : List Int) (r2 : List zag) (r_ : Int) (h : zkZ to n n2 r l r2 = some r_) : Runs Tryz.prog 36 [(.one (.ref 0 0)), (.one (.pv (.int .i64 to)))] [[(.pv (.int .i64 n)), (.pv (.int .u64 n2)), (.pv (.recs 4 (List.map zae.pv r) false)), (.pv (.ints .i64 l false)), (.pv (.recs 2 (List.map zag.pv r2) false))]] [] (zrZ to n n2 r l r2 r_) := by
 unfold zkZ at h
 obtain ⟨z_, h1, h⟩ := zaf h
 rcases z_ with n3 | _
 ·have h := zad h
  subst h
  have t_ := tL (zjI to r (((List.map zae.pv r)).length : Int) n n2 r l r2 _ _ h1) <| tN
  exact zah (C := cfg) (sc := t_.ev) (.k0 t_.pf (by kernel_rfl))
 ·have h := zad h
  subst h
  have t_ := tL (zjI to r (((List.map zae.pv r)).length : Int) n n2 r l r2 _ _ h1) <| tN
  exact zah (C := cfg) (sc := t_.ev) (.k0 t_.pf (by kernel_rfl))
def zbX (r : List zae) (n n2 n3 : Int) (r2 : List zae) (l : List Int) (r3 : List zag) : Bool × Int → St
 | (ok, n4) => ⟨[(5, (.av (.one (.ref 0 0)))), (11, (.av (.one (.pv (.bool ok))))), (126, (.av (.one (.pv (.recs 4 (List.map zae.pv r) false))))), (127, (.av (.one (.pv (.int .i64 n))))), (128, (.av (.one (.pv (.int .i64 n4)))))], [(0, [(.pv (.int .i64 n2)), (.pv (.int .u64 n3)), (.pv (.recs 4 (List.map zae.pv r2) false)), (.pv (.ints .i64 l false)), (.pv (.recs 2 (List.map zag.pv r3) false))])], []⟩
def zfD (r : List zae) (n n2 n3 : Int) (r2 : List zae) (l : List Int) (r3 : List zag) : Bool → Ex × St
 | r1 => ((.exit 6), ⟨[(5, (.av (.one (.ref 0 0)))), (11, (.av (.one (.pv (.bool r1)))))], [(0, [(.pv (.int .i64 n2)), (.pv (.int .u64 n3)), (.pv (.recs 4 (List.map zae.pv r2) false)), (.pv (.ints .i64 l false)), (.pv (.recs 2 (List.map zag.pv r3) false))])], []⟩)
noncomputable def zbF (r : List zae) (n n2 n3 : Int) (r2 : List zae) (l : List Int) (r3 : List zag) : Bool × Int → Option ((Bool × Int) ⊕ (Bool))
 | (ok, n4) =>
 bif (decide ((n4 : Int) < n)) then
  bif decide ((0 : Int) ≤ n4) && decide ((n4 : Int) < (((List.map zae.pv r)).length : Int)) then
  (r[(n4).toNat]?).bind fun e_ => match e_ with
  | .mk n5 n6 n7 t =>
  bif ok then
   (zij n5 n6 n7 t).bind fun b =>
   bif b then
    bif (decide ((n6 : Int) = n2)) then
     bif (decide ((n5 : Int) ≤ n3)) then
      (zjF n7 n2 n3 r2 l r3).bind fun b2 =>
      bif b2 then
       bif (decide ((n4 : Int) = 0)) then
        (zkZ n7 n2 n3 r2 l r3).bind fun n8 =>
        some (.inl ((decide ((n8 : Int) = n4)), (iadd .i64 n4 1)))
       else
        bif decide ((0 : Int) ≤ (isub .i64 n4 1)) && decide (((isub .i64 n4 1) : Int) < (((List.map zae.pv r2)).length : Int)) then
        (r2[((isub .i64 n4 1)).toNat]?).bind fun e_ => match e_ with
        | .mk n8 n9 n10 t2 =>
        bif (decide ((n8 : Int) < n5)) then
         (zkZ n7 n2 n3 r2 l r3).bind fun n11 =>
         some (.inl ((decide ((n11 : Int) = n4)), (iadd .i64 n4 1)))
        else
         some (.inl (false, (iadd .i64 n4 1)))
        else none
      else
       some (.inl (false, (iadd .i64 n4 1)))
     else
      some (.inl (false, (iadd .i64 n4 1)))
    else
     some (.inl (false, (iadd .i64 n4 1)))
   else
    some (.inl (false, (iadd .i64 n4 1)))
  else
   some (.inl (false, (iadd .i64 n4 1)))
  else none
 else
  some (.inr ok)
theorem zn3 (r : List zae) (n n2 n3 : Int) (r2 : List zae) (l : List Int) (r3 : List zag) (s_ : Bool × Int) (z_ : (Bool × Int) ⊕ (Bool)) (h : zbF r n n2 n3 r2 l r3 s_ = some z_) : zaP Tryz.prog cfg 29 0 (zax Tryz.prog 29 3) (zbX r n n2 n3 r2 l r3) (zfD r n n2 n3 r2 l r3) s_ z_ := by
 rcases s_ with ⟨ok, n4⟩
 rcases zaj h with ⟨h1, h⟩ | ⟨h1, h⟩
 ·obtain ⟨h2, h⟩ := zaq h
  obtain ⟨⟨n5, n6, n7, t⟩, h3, h⟩ := zaf h
  rcases zaj h with ⟨h4, h⟩ | ⟨h4, h⟩
  ·obtain ⟨b, h5, h⟩ := zaf h
   rcases zaj h with ⟨h6, h⟩ | ⟨h6, h⟩
   ·rcases zaj h with ⟨h7, h⟩ | ⟨h7, h⟩
    ·rcases zaj h with ⟨h8, h⟩ | ⟨h8, h⟩
     ·obtain ⟨b2, h9, h⟩ := zaf h
      rcases zaj h with ⟨h10, h⟩ | ⟨h10, h⟩
      ·rcases zaj h with ⟨h11, h⟩ | ⟨h11, h⟩
       ·obtain ⟨n8, h12, h⟩ := zaf h
        have h := zad h
        subst h
        have t_ := tT h1 <| tO h2 <| tE (.el [(.int .u64 n5), (.int .i64 n6), (.int .i64 n7), (zai.pv t)]) <| tO (zc0 (f := zae.pv) h3) <| tT h4 <| tR (zdP n5 n6 n7 t _ h5) <| tT h6 <| tT h7 <| tT h8 <| tR (zhK n7 n2 n3 r2 l r3 _ h9) <| tT h10 <| tT h11 <| tT (rfl : true = true) <| tR (zmB n7 n2 n3 r2 l r3 _ h12) <| tN
        exact ⟨t_.ev, zbX r n n2 n3 r2 l r3 ((decide ((n8 : Int) = n4)), (iadd .i64 n4 1)), .k1 t_.pf (by kernel_rfl) (by kernel_rfl), .same (by kernel_rfl)⟩
       ·obtain ⟨h12, h⟩ := zaq h
        obtain ⟨⟨n8, n9, n10, t2⟩, h13, h⟩ := zaf h
        have p13_ := fun {sc_ : List Ev} {Q_ : Prop} (t_ : Tell sc_ Q_) => tT h1 <| tO h2 <| tE (.el [(.int .u64 n5), (.int .i64 n6), (.int .i64 n7), (zai.pv t)]) <| tO (zc0 (f := zae.pv) h3) <| tT h4 <| tR (zdP n5 n6 n7 t _ h5) <| tT h6 <| tT h7 <| tT h8 <| tR (zhK n7 n2 n3 r2 l r3 _ h9) <| tT h10 <| tF h11 <| tO h12 <| tO h12 <| tE (.el [(.int .u64 n8), (.int .i64 n9), (.int .i64 n10), (zai.pv t2)]) <| tO (zc0 (f := zae.pv) h13) <| tE (.el [(.int .u64 n8), (.int .i64 n9), (.int .i64 n10), (zai.pv t2)]) <| tO (zc0 (f := zae.pv) h13) <| t_
        rcases zaj h with ⟨h14, h⟩ | ⟨h14, h⟩
        ·obtain ⟨n11, h15, h⟩ := zaf h
         have h := zad h
         subst h
         have t_ := p13_ <| tT h14 <| tR (zmB n7 n2 n3 r2 l r3 _ h15) <| tN
         exact ⟨t_.ev, zbX r n n2 n3 r2 l r3 ((decide ((n11 : Int) = n4)), (iadd .i64 n4 1)), .k1 t_.pf (by kernel_rfl) (by kernel_rfl), .same (by kernel_rfl)⟩
        ·have h := zad h
         subst h
         have t_ := p13_ <| tF h14 <| tN
         exact ⟨t_.ev, zbX r n n2 n3 r2 l r3 (false, (iadd .i64 n4 1)), .k1 t_.pf (by kernel_rfl) (by kernel_rfl), .same (by kernel_rfl)⟩
      ·have h := zad h
       subst h
       have t_ := tT h1 <| tO h2 <| tE (.el [(.int .u64 n5), (.int .i64 n6), (.int .i64 n7), (zai.pv t)]) <| tO (zc0 (f := zae.pv) h3) <| tT h4 <| tR (zdP n5 n6 n7 t _ h5) <| tT h6 <| tT h7 <| tT h8 <| tR (zhK n7 n2 n3 r2 l r3 _ h9) <| tF h10 <| tF (rfl : false = false) <| tN
       exact ⟨t_.ev, zbX r n n2 n3 r2 l r3 (false, (iadd .i64 n4 1)), .k1 t_.pf (by kernel_rfl) (by kernel_rfl), .same (by kernel_rfl)⟩
     ·have h := zad h
      subst h
      have t_ := tT h1 <| tO h2 <| tE (.el [(.int .u64 n5), (.int .i64 n6), (.int .i64 n7), (zai.pv t)]) <| tO (zc0 (f := zae.pv) h3) <| tT h4 <| tR (zdP n5 n6 n7 t _ h5) <| tT h6 <| tT h7 <| tF h8 <| tF (rfl : false = false) <| tF (rfl : false = false) <| tN
      exact ⟨t_.ev, zbX r n n2 n3 r2 l r3 (false, (iadd .i64 n4 1)), .k1 t_.pf (by kernel_rfl) (by kernel_rfl), .same (by kernel_rfl)⟩
    ·have h := zad h
     subst h
     have t_ := tT h1 <| tO h2 <| tE (.el [(.int .u64 n5), (.int .i64 n6), (.int .i64 n7), (zai.pv t)]) <| tO (zc0 (f := zae.pv) h3) <| tT h4 <| tR (zdP n5 n6 n7 t _ h5) <| tT h6 <| tF h7 <| tF (rfl : false = false) <| tF (rfl : false = false) <| tF (rfl : false = false) <| tN
     exact ⟨t_.ev, zbX r n n2 n3 r2 l r3 (false, (iadd .i64 n4 1)), .k1 t_.pf (by kernel_rfl) (by kernel_rfl), .same (by kernel_rfl)⟩
   ·have h := zad h
    subst h
    have t_ := tT h1 <| tO h2 <| tE (.el [(.int .u64 n5), (.int .i64 n6), (.int .i64 n7), (zai.pv t)]) <| tO (zc0 (f := zae.pv) h3) <| tT h4 <| tR (zdP n5 n6 n7 t _ h5) <| tF h6 <| tF (rfl : false = false) <| tF (rfl : false = false) <| tF (rfl : false = false) <| tF (rfl : false = false) <| tN
    exact ⟨t_.ev, zbX r n n2 n3 r2 l r3 (false, (iadd .i64 n4 1)), .k1 t_.pf (by kernel_rfl) (by kernel_rfl), .same (by kernel_rfl)⟩
  ·have h := zad h
   subst h
   have t_ := tT h1 <| tO h2 <| tE (.el [(.int .u64 n5), (.int .i64 n6), (.int .i64 n7), (zai.pv t)]) <| tO (zc0 (f := zae.pv) h3) <| tF h4 <| tF (rfl : false = false) <| tF (rfl : false = false) <| tF (rfl : false = false) <| tF (rfl : false = false) <| tF (rfl : false = false) <| tN
   exact ⟨t_.ev, zbX r n n2 n3 r2 l r3 (false, (iadd .i64 n4 1)), .k1 t_.pf (by kernel_rfl) (by kernel_rfl), .same (by kernel_rfl)⟩
 ·have h := zad h
  subst h
  have t_ := tF h1 <| tN
  exact ⟨t_.ev, ⟨[(129, (.av (.one (.pv (.bool false))))), (5, (.av (.one (.ref 0 0)))), (11, (.av (.one (.pv (.bool ok))))), (126, (.av (.one (.pv (.recs 4 (List.map zae.pv r) false))))), (127, (.av (.one (.pv (.int .i64 n))))), (128, (.av (.one (.pv (.int .i64 n4))))), (129, (.av (.one (.pv (.bool (decide ((n4 : Int) < n)))))))], [(0, [(.pv (.int .i64 n2)), (.pv (.int .u64 n3)), (.pv (.recs 4 (List.map zae.pv r2) false)), (.pv (.ints .i64 l false)), (.pv (.recs 2 (List.map zag.pv r3) false))])], []⟩, .k0 t_.pf (by kernel_rfl), ⟨⟨⟨_, rfl, .eq rfl⟩, ⟨_, rfl, .eq rfl⟩, trivial⟩, ⟨⟨rfl, ⟨.eq rfl, .eq rfl, .eq rfl, .eq rfl, .eq rfl, trivial⟩⟩, trivial⟩, trivial⟩⟩
theorem zmf (r : List zae) (n n2 n3 : Int) (r2 : List zae) (l : List Int) (r3 : List zag) (s_ : Bool × Int) (r_ : Bool) (h : runL (zbF r n n2 n3 r2 l r3) s_ = some r_) : zaT Tryz.prog (lEnv Tryz.prog cfg 29 0).nt 0 (.loop (zax Tryz.prog 29 3)) (zbX r n n2 n3 r2 l r3 s_) (zfD r n n2 n3 r2 l r3 r_).1 (zfD r n n2 n3 r2 l r3 r_).2 :=
 zaJ h (zn3 r n n2 n3 r2 l r3) (by intro r_; rcases r_ with r1 <;> simp [zfD])
def zc4 (l : List Int) (n n2 n3 : Int) (r : List zae) (l2 : List Int) (r2 : List zag) : Bool × Int → St
 | (ok, n4) => ⟨[(5, (.av (.one (.ref 0 0)))), (11, (.av (.one (.pv (.bool ok))))), (192, (.av (.one (.pv (.ints .i64 l false))))), (193, (.av (.one (.pv (.int .i64 n))))), (194, (.av (.one (.pv (.int .i64 n4)))))], [(0, [(.pv (.int .i64 n2)), (.pv (.int .u64 n3)), (.pv (.recs 4 (List.map zae.pv r) false)), (.pv (.ints .i64 l2 false)), (.pv (.recs 2 (List.map zag.pv r2) false))])], []⟩
def zfE (l : List Int) (n n2 n3 : Int) (r : List zae) (l2 : List Int) (r2 : List zag) : Bool → Ex × St
 | r1 => ((.exit 8), ⟨[(5, (.av (.one (.ref 0 0)))), (11, (.av (.one (.pv (.bool r1)))))], [(0, [(.pv (.int .i64 n2)), (.pv (.int .u64 n3)), (.pv (.recs 4 (List.map zae.pv r) false)), (.pv (.ints .i64 l2 false)), (.pv (.recs 2 (List.map zag.pv r2) false))])], []⟩)
noncomputable def zbG (l : List Int) (n n2 n3 : Int) (r : List zae) (l2 : List Int) (r2 : List zag) : Bool × Int → Option ((Bool × Int) ⊕ (Bool))
 | (ok, n4) =>
 bif (decide ((n4 : Int) < n)) then
  bif decide ((0 : Int) ≤ n4) && decide ((n4 : Int) < ((l).length : Int)) then
  bif ok then
   bif (decide (((l.getD (n4).toNat 0) : Int) < 12)) then
    bif (decide (((l.getD (n4).toNat 0) : Int) = n2)) then
     some (.inl (false, (iadd .i64 n4 1)))
    else
     bif (decide ((n4 : Int) = 0)) then
      some (.inl (true, (iadd .i64 n4 1)))
     else
      bif decide ((0 : Int) ≤ (isub .i64 n4 1)) && decide (((isub .i64 n4 1) : Int) < ((l2).length : Int)) then
      some (.inl ((decide (((l2.getD ((isub .i64 n4 1)).toNat 0) : Int) < (l.getD (n4).toNat 0))), (iadd .i64 n4 1)))
      else none
   else
    some (.inl (false, (iadd .i64 n4 1)))
  else
   some (.inl (false, (iadd .i64 n4 1)))
  else none
 else
  some (.inr ok)
theorem zn4 (l : List Int) (n n2 n3 : Int) (r : List zae) (l2 : List Int) (r2 : List zag) (s_ : Bool × Int) (z_ : (Bool × Int) ⊕ (Bool)) (h : zbG l n n2 n3 r l2 r2 s_ = some z_) : zaP Tryz.prog cfg 29 0 (zax Tryz.prog 29 4) (zc4 l n n2 n3 r l2 r2) (zfE l n n2 n3 r l2 r2) s_ z_ := by
 rcases s_ with ⟨ok, n4⟩
 rcases zaj h with ⟨h1, h⟩ | ⟨h1, h⟩
 ·obtain ⟨h2, h⟩ := zaq h
  rcases zaj h with ⟨h3, h⟩ | ⟨h3, h⟩
  ·rcases zaj h with ⟨h4, h⟩ | ⟨h4, h⟩
   ·rcases zaj h with ⟨h5, h⟩ | ⟨h5, h⟩
    ·have h := zad h
     subst h
     have t_ := tT h1 <| tO h2 <| tT h3 <| tT h4 <| tF (zan h5) <| tN
     exact ⟨t_.ev, zc4 l n n2 n3 r l2 r2 (false, (iadd .i64 n4 1)), .k0 t_.pf (by kernel_rfl), .same (by kernel_rfl)⟩
    ·rcases zaj h with ⟨h6, h⟩ | ⟨h6, h⟩
     ·have h := zad h
      subst h
      have t_ := tT h1 <| tO h2 <| tT h3 <| tT h4 <| tT (za7 h5) <| tT h6 <| tN
      exact ⟨t_.ev, zc4 l n n2 n3 r l2 r2 (true, (iadd .i64 n4 1)), .k0 t_.pf (by kernel_rfl), .same (by kernel_rfl)⟩
     ·obtain ⟨h7, h⟩ := zaq h
      have h := zad h
      subst h
      have t_ := tT h1 <| tO h2 <| tT h3 <| tT h4 <| tT (za7 h5) <| tF h6 <| tO h7 <| tN
      exact ⟨t_.ev, zc4 l n n2 n3 r l2 r2 ((decide (((l2.getD ((isub .i64 n4 1)).toNat 0) : Int) < (l.getD (n4).toNat 0))), (iadd .i64 n4 1)), .k0 t_.pf (by kernel_rfl), .same (by kernel_rfl)⟩
   ·have h := zad h
    subst h
    have t_ := tT h1 <| tO h2 <| tT h3 <| tF h4 <| tF (rfl : false = false) <| tN
    exact ⟨t_.ev, zc4 l n n2 n3 r l2 r2 (false, (iadd .i64 n4 1)), .k0 t_.pf (by kernel_rfl), .same (by kernel_rfl)⟩
  ·have h := zad h
   subst h
   have t_ := tT h1 <| tO h2 <| tF h3 <| tF (rfl : false = false) <| tF (rfl : false = false) <| tN
   exact ⟨t_.ev, zc4 l n n2 n3 r l2 r2 (false, (iadd .i64 n4 1)), .k0 t_.pf (by kernel_rfl), .same (by kernel_rfl)⟩
 ·have h := zad h
  subst h
  have t_ := tF h1 <| tN
  exact ⟨t_.ev, ⟨[(195, (.av (.one (.pv (.bool false))))), (5, (.av (.one (.ref 0 0)))), (11, (.av (.one (.pv (.bool ok))))), (192, (.av (.one (.pv (.ints .i64 l false))))), (193, (.av (.one (.pv (.int .i64 n))))), (194, (.av (.one (.pv (.int .i64 n4))))), (195, (.av (.one (.pv (.bool (decide ((n4 : Int) < n)))))))], [(0, [(.pv (.int .i64 n2)), (.pv (.int .u64 n3)), (.pv (.recs 4 (List.map zae.pv r) false)), (.pv (.ints .i64 l2 false)), (.pv (.recs 2 (List.map zag.pv r2) false))])], []⟩, .k0 t_.pf (by kernel_rfl), ⟨⟨⟨_, rfl, .eq rfl⟩, ⟨_, rfl, .eq rfl⟩, trivial⟩, ⟨⟨rfl, ⟨.eq rfl, .eq rfl, .eq rfl, .eq rfl, .eq rfl, trivial⟩⟩, trivial⟩, trivial⟩⟩
theorem zmh (l : List Int) (n n2 n3 : Int) (r : List zae) (l2 : List Int) (r2 : List zag) (s_ : Bool × Int) (r_ : Bool) (h : runL (zbG l n n2 n3 r l2 r2) s_ = some r_) : zaT Tryz.prog (lEnv Tryz.prog cfg 29 0).nt 0 (.loop (zax Tryz.prog 29 4)) (zc4 l n n2 n3 r l2 r2 s_) (zfE l n n2 n3 r l2 r2 r_).1 (zfE l n n2 n3 r l2 r2 r_).2 :=
 zaJ h (zn4 l n n2 n3 r l2 r2) (by intro r_; rcases r_ with r1 <;> simp [zfE])
def zn6 (a a2 b b2 : Int) : Bool → Res
 | r1 => ([(.one (.pv (.bool r1)))], [], [])
noncomputable def zhh (a a2 b b2 : Int) : Option (Bool) :=
 bif (decide ((a : Int) < b)) then
  some true
 else
  bif (decide ((a : Int) = b)) then
   some (decide ((a2 : Int) < b2))
  else
   some false
theorem zm3 (a a2 b b2 : Int) (r_ : Bool) (h : zhh a a2 b b2 = some r_) : Runs Tryz.prog 69 [(.agg [(.pv (.int .i64 a)), (.pv (.int .u64 a2))]), (.agg [(.pv (.int .i64 b)), (.pv (.int .u64 b2))])] [] [] (zn6 a a2 b b2 r_) := by
 unfold zhh at h
 rcases zaj h with ⟨h1, h⟩ | ⟨h1, h⟩
 ·have h := zad h
  subst h
  have t_ := tT h1 <| tN
  exact zah (C := cfg) (sc := t_.ev) (.k0 t_.pf (by kernel_rfl))
 ·rcases zaj h with ⟨h2, h⟩ | ⟨h2, h⟩
  ·have h := zad h
   subst h
   have t_ := tF h1 <| tT h2 <| tN
   exact zah (C := cfg) (sc := t_.ev) (.k0 t_.pf (by kernel_rfl))
  ·have h := zad h
   subst h
   have t_ := tF h1 <| tF h2 <| tN
   exact zah (C := cfg) (sc := t_.ev) (.k0 t_.pf (by kernel_rfl))
end Go.Proofs.YtjjcmgdgifcmgaaGreat
