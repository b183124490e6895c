/- What functions compute, and that they do. -/
import Derived.Test.YtjjcmgdgifcmgaaGreatA2
set_option linter.unusedVariables false
set_option linter.unusedSimpArgs false
set_option maxRecDepth 100000
namespace Go.Proofs.YtjjcmgdgifcmgaaGreat
open Go.Ev
def zgr (depth kind : Int) (b : Bool) (n : Int) (l : List Int) (n2 n3 : Int) : Int × Int × Int × Bool × zab → Ex × St
 | (r1, r2, r3, r4, r5) => (.normal, ⟨[(0, (.av (.one (.ref 0 0)))), (1, (.av (.one (.pv (.int .i64 depth))))), (4, (.av (.one (.ref 2 0)))), (5, (.av (.one (.ref 3 0)))), (6, (.av (.one (.ref 4 0)))), (7, (.av (.one (.pv (.int .u64 kind)))))], [(0, [(.ref 1 0), (.pv (.int .i64 r1))]), (1, [(.pv (.ints .u8 l false)), (.pv (.int .i64 r2)), (.pv (.int .i64 r3))]), (2, [(.pv (.bool false)), (.pv (zab.pv zab.nil))]), (3, [(.pv (.bool r4)), (.pv (zab.pv r5))]), (4, [(.pv (.bool false)), (.pv (zab.pv zab.nil))])], []⟩)
noncomputable def zdu (rec_code_source_id_2 : Int → Int → List Int → Int → Int → Option (Bool × zab × Int × Int × Int)) (depth kind : Int) (b : Bool) (n : Int) (l : List Int) (n2 n3 : Int) : Option (Int × Int × Int × Bool × zab) :=
 bif b then
  (rec_code_source_id_2 (iadd .i64 depth 1) n l n2 n3).bind fun (b2, t, n4, n5, n6) =>
  some (n4, n5, n6, b2, t)
 else
  some (n, n2, n3, false, zab.nil)
theorem ziB (rec_code_source_id_2 : Int → Int → List Int → Int → Int → Option (Bool × zab × Int × Int × Int)) (hrec_code_source_id_2 : ∀ depth n l n2 n3 r_, rec_code_source_id_2 depth n l n2 n3 = some r_ → Runs Tryz.prog 155 [(.one (.ref 0 0)), (.one (.pv (.int .i64 depth)))] [[(.ref 1 0), (.pv (.int .i64 n))], [(.pv (.ints .u8 l false)), (.pv (.int .i64 n2)), (.pv (.int .i64 n3))]] [] (zcg depth n l n2 n3 r_)) (depth kind : Int) (b : Bool) (n : Int) (l : List Int) (n2 n3 : Int) (r_ : Int × Int × Int × Bool × zab) (h : zdu rec_code_source_id_2 depth kind b n l n2 n3 = some r_) : zaT Tryz.prog (lEnv Tryz.prog cfg 155 2).nt 2 (.cond (.tmp 30) (zgM Tryz.prog 155 30).1 (zgM Tryz.prog 155 30).2) ⟨[(0, (.av (.one (.ref 0 0)))), (1, (.av (.one (.pv (.int .i64 depth))))), (4, (.av (.one (.ref 2 0)))), (5, (.av (.one (.ref 3 0)))), (6, (.av (.one (.ref 4 0)))), (7, (.av (.one (.pv (.int .u64 kind))))), (30, (.av (.one (.pv (.bool b)))))], [(0, [(.ref 1 0), (.pv (.int .i64 n))]), (1, [(.pv (.ints .u8 l false)), (.pv (.int .i64 n2)), (.pv (.int .i64 n3))]), (2, [(.pv (.bool false)), (.pv (zab.pv zab.nil))]), (3, [(.pv (.bool false)), (.pv (zab.pv zab.nil))]), (4, [(.pv (.bool false)), (.pv (zab.pv zab.nil))])], []⟩ (zgr depth kind b n l n2 n3 r_).1 (zgr depth kind b n l n2 n3 r_).2 := by
 unfold zdu at h
 rcases zaj h with ⟨h1, h⟩ | ⟨h1, h⟩
 ·obtain ⟨⟨b2, t, n4, n5, n6⟩, h2, h⟩ := zaf h
  have h := zad h
  subst h
  have t_ := tT h1 <| tR (hrec_code_source_id_2 (iadd .i64 depth 1) n l n2 n3 _ h2) <| tN
  exact zcG (C := cfg) (sc := t_.ev) (.k0 t_.pf (by kernel_rfl))
 ·have h := zad h
  subst h
  have t_ := tF h1 <| tN
  exact zcG (C := cfg) (sc := t_.ev) (.k0 t_.pf (by kernel_rfl))
def zgs (depth kind : Int) (b : Bool) (n : Int) (l : List Int) (n2 n3 : Int) (b2 : Bool) (t : zab) : Int × Int × Int × Bool × zab → Ex × St
 | (r1, r2, r3, r4, r5) => (.normal, ⟨[(0, (.av (.one (.ref 0 0)))), (4, (.av (.one (.ref 2 0)))), (5, (.av (.one (.ref 3 0)))), (6, (.av (.one (.ref 4 0)))), (7, (.av (.one (.pv (.int .u64 kind)))))], [(0, [(.ref 1 0), (.pv (.int .i64 r1))]), (1, [(.pv (.ints .u8 l false)), (.pv (.int .i64 r2)), (.pv (.int .i64 r3))]), (2, [(.pv (.bool false)), (.pv (zab.pv zab.nil))]), (3, [(.pv (.bool b2)), (.pv (zab.pv t))]), (4, [(.pv (.bool r4)), (.pv (zab.pv r5))])], []⟩)
noncomputable def zdv (rec_code_source_id_2 : Int → Int → List Int → Int → Int → Option (Bool × zab × Int × Int × Int)) (depth kind : Int) (b : Bool) (n : Int) (l : List Int) (n2 n3 : Int) (b2 : Bool) (t : zab) : Option (Int × Int × Int × Bool × zab) :=
 bif b then
  (rec_code_source_id_2 (iadd .i64 depth 1) n l n2 n3).bind fun (b3, t2, n4, n5, n6) =>
  some (n4, n5, n6, b3, t2)
 else
  some (n, n2, n3, false, zab.nil)
theorem ziC (rec_code_source_id_2 : Int → Int → List Int → Int → Int → Option (Bool × zab × Int × Int × Int)) (hrec_code_source_id_2 : ∀ depth n l n2 n3 r_, rec_code_source_id_2 depth n l n2 n3 = some r_ → Runs Tryz.prog 155 [(.one (.ref 0 0)), (.one (.pv (.int .i64 depth)))] [[(.ref 1 0), (.pv (.int .i64 n))], [(.pv (.ints .u8 l false)), (.pv (.int .i64 n2)), (.pv (.int .i64 n3))]] [] (zcg depth n l n2 n3 r_)) (depth kind : Int) (b : Bool) (n : Int) (l : List Int) (n2 n3 : Int) (b2 : Bool) (t : zab) (r_ : Int × Int × Int × Bool × zab) (h : zdv rec_code_source_id_2 depth kind b n l n2 n3 b2 t = some r_) : zaT Tryz.prog (lEnv Tryz.prog cfg 155 2).nt 2 (.cond (.tmp 40) (zgM Tryz.prog 155 40).1 (zgM Tryz.prog 155 40).2) ⟨[(0, (.av (.one (.ref 0 0)))), (1, (.av (.one (.pv (.int .i64 depth))))), (4, (.av (.one (.ref 2 0)))), (5, (.av (.one (.ref 3 0)))), (6, (.av (.one (.ref 4 0)))), (7, (.av (.one (.pv (.int .u64 kind))))), (40, (.av (.one (.pv (.bool b)))))], [(0, [(.ref 1 0), (.pv (.int .i64 n))]), (1, [(.pv (.ints .u8 l false)), (.pv (.int .i64 n2)), (.pv (.int .i64 n3))]), (2, [(.pv (.bool false)), (.pv (zab.pv zab.nil))]), (3, [(.pv (.bool b2)), (.pv (zab.pv t))]), (4, [(.pv (.bool false)), (.pv (zab.pv zab.nil))])], []⟩ (zgs depth kind b n l n2 n3 b2 t r_).1 (zgs depth kind b n l n2 n3 b2 t r_).2 := by
 unfold zdv at h
 rcases zaj h with ⟨h1, h⟩ | ⟨h1, h⟩
 ·obtain ⟨⟨b3, t2, n4, n5, n6⟩, h2, h⟩ := zaf h
  have h := zad h
  subst h
  have t_ := tT h1 <| tR (hrec_code_source_id_2 (iadd .i64 depth 1) n l n2 n3 _ h2) <| tN
  exact zcG (C := cfg) (sc := t_.ev) (.k0 t_.pf (by kernel_rfl))
 ·have h := zad h
  subst h
  have t_ := tF h1 <| tN
  exact zcG (C := cfg) (sc := t_.ev) (.k0 t_.pf (by kernel_rfl))
def zfo (depth kind : Int) (b : Bool) (n : Int) (l : List Int) (n2 n3 : Int) : Int × Int × Int × Bool × zab → Ex × St
 | (r1, r2, r3, r4, r5) => (.normal, ⟨[(0, (.av (.one (.ref 0 0)))), (4, (.av (.one (.ref 2 0)))), (5, (.av (.one (.ref 3 0)))), (6, (.av (.one (.ref 4 0)))), (7, (.av (.one (.pv (.int .u64 kind)))))], [(0, [(.ref 1 0), (.pv (.int .i64 r1))]), (1, [(.pv (.ints .u8 l false)), (.pv (.int .i64 r2)), (.pv (.int .i64 r3))]), (2, [(.pv (.bool false)), (.pv (zab.pv zab.nil))]), (3, [(.pv (.bool false)), (.pv (zab.pv zab.nil))]), (4, [(.pv (.bool r4)), (.pv (zab.pv r5))])], []⟩)
noncomputable def zeW (rec_code_source_id_2 : Int → Int → List Int → Int → Int → Option (Bool × zab × Int × Int × Int)) (depth kind : Int) (b : Bool) (n : Int) (l : List Int) (n2 n3 : Int) : Option (Int × Int × Int × Bool × zab) :=
 bif b then
  (rec_code_source_id_2 (iadd .i64 depth 1) n l n2 n3).bind fun (b2, t, n4, n5, n6) =>
  some (n4, n5, n6, b2, t)
 else
  some (n, n2, n3, false, zab.nil)
theorem zhF (rec_code_source_id_2 : Int → Int → List Int → Int → Int → Option (Bool × zab × Int × Int × Int)) (hrec_code_source_id_2 : ∀ depth n l n2 n3 r_, rec_code_source_id_2 depth n l n2 n3 = some r_ → Runs Tryz.prog 155 [(.one (.ref 0 0)), (.one (.pv (.int .i64 depth)))] [[(.ref 1 0), (.pv (.int .i64 n))], [(.pv (.ints .u8 l false)), (.pv (.int .i64 n2)), (.pv (.int .i64 n3))]] [] (zcg depth n l n2 n3 r_)) (depth kind : Int) (b : Bool) (n : Int) (l : List Int) (n2 n3 : Int) (r_ : Int × Int × Int × Bool × zab) (h : zeW rec_code_source_id_2 depth kind b n l n2 n3 = some r_) : zaT Tryz.prog (lEnv Tryz.prog cfg 155 2).nt 2 (.cond (.tmp 40) (zgM Tryz.prog 155 40).1 (zgM Tryz.prog 155 40).2) ⟨[(0, (.av (.one (.ref 0 0)))), (1, (.av (.one (.pv (.int .i64 depth))))), (4, (.av (.one (.ref 2 0)))), (5, (.av (.one (.ref 3 0)))), (6, (.av (.one (.ref 4 0)))), (7, (.av (.one (.pv (.int .u64 kind))))), (40, (.av (.one (.pv (.bool b)))))], [(0, [(.ref 1 0), (.pv (.int .i64 n))]), (1, [(.pv (.ints .u8 l false)), (.pv (.int .i64 n2)), (.pv (.int .i64 n3))]), (2, [(.pv (.bool false)), (.pv (zab.pv zab.nil))]), (3, [(.pv (.bool false)), (.pv (zab.pv zab.nil))]), (4, [(.pv (.bool false)), (.pv (zab.pv zab.nil))])], []⟩ (zfo depth kind b n l n2 n3 r_).1 (zfo depth kind b n l n2 n3 r_).2 := by
 unfold zeW at h
 rcases zaj h with ⟨h1, h⟩ | ⟨h1, h⟩
 ·obtain ⟨⟨b2, t, n4, n5, n6⟩, h2, h⟩ := zaf h
  have h := zad h
  subst h
  have t_ := tT h1 <| tR (hrec_code_source_id_2 (iadd .i64 depth 1) n l n2 n3 _ h2) <| tN
  exact zcG (C := cfg) (sc := t_.ev) (.k0 t_.pf (by kernel_rfl))
 ·have h := zad h
  subst h
  have t_ := tF h1 <| tN
  exact zcG (C := cfg) (sc := t_.ev) (.k0 t_.pf (by kernel_rfl))
noncomputable def zbo (N : Nat) (rec_code_source_id_2 : Int → Int → List Int → Int → Int → Option (Bool × zab × Int × Int × Int)) (depth n : Int) (l : List Int) (n2 n3 : Int) : Option (Bool × zab × Int × Int × Int) :=
 (zfy).bind fun _ =>
 (zaU 2 n l n2 n3).bind fun (n4, n5, n6, n7) =>
 bif (decide ((n4 : Int) = 0)) then
  (zaU 1 n5 l n6 n7).bind fun (n8, n9, n10, n11) =>
  bif (decide ((n8 : Int) = 1)) then
   (zkr).bind fun _ =>
   some (true, zab.nil, n9, n10, n11)
  else
   some (false, zab.nil, n9, n10, n11)
 else
  (zem depth n4 (decide ((depth : Int) = 16)) n5 l n6 n7).bind fun n8 =>
  (zb4 n8 l n6 n7).bind fun (b, n9) =>
  bif b then
   (zdu rec_code_source_id_2 depth n4 (!(decide ((n4 : Int) = 1))) n9 l n6 n7).bind fun (n10, n11, n12, b2, t) =>
   (zb4 n10 l n11 n12).bind fun (b3, n13) =>
   bif b3 then
    (zdv rec_code_source_id_2 depth n4 (!(decide ((n4 : Int) = 2))) n13 l n11 n12 b2 t).bind fun (n14, n15, n16, b4, t2) =>
    (za0 b2 t).bind fun b5 =>
    bif (b5 == (decide ((n4 : Int) = 1))) then
     (za0 b4 t2).bind fun b6 =>
     bif (b6 == (decide ((n4 : Int) = 2))) then
      (zbf b2 t).bind fun _ =>
      bif b2 then
       (zbf b4 t2).bind fun _ =>
       (zaE (!b4) n14 l n15 n16).bind fun n17 =>
       (zdk N b2 t b4 t2).bind fun (b7, t3, n18) =>
       some (b7, t3, n17, n15, n16)
      else
       (zaE true n14 l n15 n16).bind fun n17 =>
       (zdk N b2 t b4 t2).bind fun (b7, t3, n18) =>
       some (b7, t3, n17, n15, n16)
     else
      (zaE false n14 l n15 n16).bind fun n17 =>
      (zdk N b2 t b4 t2).bind fun (b7, t3, n18) =>
      some (b7, t3, n17, n15, n16)
    else
     (zaE false n14 l n15 n16).bind fun n17 =>
     (zdk N b2 t b4 t2).bind fun (b6, t3, n18) =>
     some (b6, t3, n17, n15, n16)
   else
    (za0 b2 t).bind fun b4 =>
    bif (b4 == (decide ((n4 : Int) = 1))) then
     (za0 false zab.nil).bind fun b5 =>
     bif (b5 == (decide ((n4 : Int) = 2))) then
      (zbf b2 t).bind fun _ =>
      bif b2 then
       (zbf false zab.nil).bind fun _ =>
       (zaE true n13 l n11 n12).bind fun n14 =>
       (zdk N b2 t false zab.nil).bind fun (b6, t2, n15) =>
       some (b6, t2, n14, n11, n12)
      else
       (zaE true n13 l n11 n12).bind fun n14 =>
       (zdk N b2 t false zab.nil).bind fun (b6, t2, n15) =>
       some (b6, t2, n14, n11, n12)
     else
      (zaE false n13 l n11 n12).bind fun n14 =>
      (zdk N b2 t false zab.nil).bind fun (b6, t2, n15) =>
      some (b6, t2, n14, n11, n12)
    else
     (zaE false n13 l n11 n12).bind fun n14 =>
     (zdk N b2 t false zab.nil).bind fun (b5, t2, n15) =>
     some (b5, t2, n14, n11, n12)
  else
   (zb4 n9 l n6 n7).bind fun (b2, n10) =>
   bif b2 then
    (zeW rec_code_source_id_2 depth n4 (!(decide ((n4 : Int) = 2))) n10 l n6 n7).bind fun (n11, n12, n13, b3, t) =>
    (za0 false zab.nil).bind fun b4 =>
    bif (b4 == (decide ((n4 : Int) = 1))) then
     (za0 b3 t).bind fun b5 =>
     bif (b5 == (decide ((n4 : Int) = 2))) then
      (zbf false zab.nil).bind fun _ =>
      (zaE true n11 l n12 n13).bind fun n14 =>
      (zdk N false zab.nil b3 t).bind fun (b6, t2, n15) =>
      some (b6, t2, n14, n12, n13)
     else
      (zaE false n11 l n12 n13).bind fun n14 =>
      (zdk N false zab.nil b3 t).bind fun (b6, t2, n15) =>
      some (b6, t2, n14, n12, n13)
    else
     (zaE false n11 l n12 n13).bind fun n14 =>
     (zdk N false zab.nil b3 t).bind fun (b5, t2, n15) =>
     some (b5, t2, n14, n12, n13)
   else
    (za0 false zab.nil).bind fun b3 =>
    bif (b3 == (decide ((n4 : Int) = 1))) then
     bif (b3 == (decide ((n4 : Int) = 2))) then
      (zbf false zab.nil).bind fun _ =>
      (zaE true n10 l n6 n7).bind fun n11 =>
      (zdk N false zab.nil false zab.nil).bind fun (b4, t, n12) =>
      some (b4, t, n11, n6, n7)
     else
      (zaE false n10 l n6 n7).bind fun n11 =>
      (zdk N false zab.nil false zab.nil).bind fun (b4, t, n12) =>
      some (b4, t, n11, n6, n7)
    else
     (zaE false n10 l n6 n7).bind fun n11 =>
     (zdk N false zab.nil false zab.nil).bind fun (b4, t, n12) =>
     some (b4, t, n11, n6, n7)
theorem ziz (N : Nat) (rec_code_source_id_2 : Int → Int → List Int → Int → Int → Option (Bool × zab × Int × Int × Int)) (hrec_code_source_id_2 : ∀ depth n l n2 n3 r_, rec_code_source_id_2 depth n l n2 n3 = some r_ → Runs Tryz.prog 155 [(.one (.ref 0 0)), (.one (.pv (.int .i64 depth)))] [[(.ref 1 0), (.pv (.int .i64 n))], [(.pv (.ints .u8 l false)), (.pv (.int .i64 n2)), (.pv (.int .i64 n3))]] [] (zcg depth n l n2 n3 r_)) (depth n : Int) (l : List Int) (n2 n3 : Int) (r_ : Bool × zab × Int × Int × Int) (h : zbo N rec_code_source_id_2 depth n l n2 n3 = some r_) : Runs Tryz.prog 155 [(.one (.ref 0 0)), (.one (.pv (.int .i64 depth)))] [[(.ref 1 0), (.pv (.int .i64 n))], [(.pv (.ints .u8 l false)), (.pv (.int .i64 n2)), (.pv (.int .i64 n3))]] [] (zcg depth n l n2 n3 r_) := by
 unfold zbo at h
 obtain ⟨_, h1, h⟩ := zaf h
 obtain ⟨⟨n4, n5, n6, n7⟩, h2, h⟩ := zaf h
 rcases zaj h with ⟨h3, h⟩ | ⟨h3, h⟩
 ·obtain ⟨⟨n8, n9, n10, n11⟩, h4, h⟩ := zaf h
  rcases zaj h with ⟨h5, h⟩ | ⟨h5, h⟩
  ·obtain ⟨_, h6, h⟩ := zaf h
   have h := zad h
   subst h
   have t_ := tR (zaR _ h1) <| tR (zaR _ h1) <| tR (za2 2 n l n2 n3 _ h2) <| tT h3 <| tR (za2 1 n5 l n6 n7 _ h4) <| tT h5 <| tR (zd0 _ h6) <| tN
   exact zah (C := cfg) (sc := t_.ev) (.k0 t_.pf (by kernel_rfl))
  ·have h := zad h
   subst h
   have t_ := tR (zaR _ h1) <| tR (zaR _ h1) <| tR (za2 2 n l n2 n3 _ h2) <| tT h3 <| tR (za2 1 n5 l n6 n7 _ h4) <| tF h5 <| tR (zaR _ h1) <| tN
   exact zah (C := cfg) (sc := t_.ev) (.k0 t_.pf (by kernel_rfl))
 ·obtain ⟨n8, h4, h⟩ := zaf h
  have q_4 := (zaT.coe (s0 := ⟨[(0, (.av (.one (.ref 0 0)))), (1, (.av (.one (.pv (.int .i64 depth))))), (4, (.av (.one (.ref 2 0)))), (5, (.av (.one (.ref 3 0)))), (6, (.av (.one (.ref 4 0)))), (7, (.av (.one (.pv (.int .u64 n4))))), (22, (.av (.one (.pv (.bool (decide ((depth : Int) = 16)))))))], [(0, [(.ref 1 0), (.pv (.int .i64 n5))]), (1, [(.pv (.ints .u8 l false)), (.pv (.int .i64 n6)), (.pv (.int .i64 n7))]), (2, [(.pv (.bool false)), (.pv .nilp)]), (3, [(.pv (.bool false)), (.pv (zab.pv zab.nil))]), (4, [(.pv (.bool false)), (.pv (zab.pv zab.nil))])], []⟩) (ziA depth n4 (decide ((depth : Int) = 16)) n5 l n6 n7 _ h4) ⟨⟨⟨_, rfl, .eq rfl⟩, ⟨_, rfl, .eq rfl⟩, ⟨_, rfl, .eq rfl⟩, ⟨_, rfl, .eq rfl⟩, ⟨_, rfl, .eq rfl⟩, ⟨_, rfl, .eq rfl⟩, ⟨_, rfl, .eq rfl⟩, trivial⟩, ⟨⟨rfl, ⟨.eq rfl, .eq rfl, trivial⟩⟩, ⟨rfl, ⟨.eq rfl, .eq rfl, .eq rfl, trivial⟩⟩, ⟨rfl, ⟨.eq rfl, .eq rfl, trivial⟩⟩, ⟨rfl, ⟨.eq rfl, .eq rfl, trivial⟩⟩, ⟨rfl, ⟨.eq rfl, .eq rfl, trivial⟩⟩, trivial⟩, trivial⟩)
  obtain ⟨⟨b, n9⟩, h5, h⟩ := zaf h
  rcases zaj h with ⟨h6, h⟩ | ⟨h6, h⟩
  ·obtain ⟨⟨n10, n11, n12, b2, t⟩, h7, h⟩ := zaf h
   have q_7 := (ziB rec_code_source_id_2 hrec_code_source_id_2 depth n4 (!(decide ((n4 : Int) = 1))) n9 l n6 n7 _ h7)
   obtain ⟨⟨b3, n13⟩, h8, h⟩ := zaf h
   rcases zaj h with ⟨h9, h⟩ | ⟨h9, h⟩
   ·obtain ⟨⟨n14, n15, n16, b4, t2⟩, h10, h⟩ := zaf h
    have q_10 := (ziC rec_code_source_id_2 hrec_code_source_id_2 depth n4 (!(decide ((n4 : Int) = 2))) n13 l n11 n12 b2 t _ h10)
    obtain ⟨b5, h11, h⟩ := zaf h
    rcases zaj h with ⟨h12, h⟩ | ⟨h12, h⟩
    ·obtain ⟨b6, h13, h⟩ := zaf h
     have p13_ := fun {sc_ : List Ev} {Q_ : Prop} (t_ : Tell sc_ Q_) => tR (zaR _ h1) <| tR (zaR _ h1) <| tR (za2 2 n l n2 n3 _ h2) <| tF h3 <| tL q_4 <| tR (zaF n8 l n6 n7 _ h5) <| tT h6 <| tL q_7 <| tR (zaF n10 l n11 n12 _ h8) <| tT h9 <| tL q_10 <| tR (zap b2 t _ h11) <| tT h12 <| tR (zap b4 t2 _ h13) <| t_
     rcases zaj h with ⟨h14, h⟩ | ⟨h14, h⟩
     ·obtain ⟨_, h15, h⟩ := zaf h
      rcases zaj h with ⟨h16, h⟩ | ⟨h16, h⟩
      ·obtain ⟨_, h17, h⟩ := zaf h
       obtain ⟨n17, h18, h⟩ := zaf h
       obtain ⟨⟨b7, t3, n18⟩, h19, h⟩ := zaf h
       have h := zad h
       subst h
       have t_ := p13_ <| tT h14 <| tR (zas b2 t _ h15) <| tT h16 <| tR (zas b4 t2 _ h17) <| tR (zaD (!b4) n14 l n15 n16 _ h18) <| tR (zbS N b2 t b4 t2 _ h19) <| tN
       exact zah (C := cfg) (sc := t_.ev) (.k0 t_.pf (by kernel_rfl))
      ·obtain ⟨n17, h17, h⟩ := zaf h
       obtain ⟨⟨b7, t3, n18⟩, h18, h⟩ := zaf h
       have h := zad h
       subst h
       have t_ := p13_ <| tT h14 <| tR (zas b2 t _ h15) <| tF h16 <| tR (zaD true n14 l n15 n16 _ h17) <| tR (zbS N b2 t b4 t2 _ h18) <| tN
       exact zah (C := cfg) (sc := t_.ev) (.k0 t_.pf (by kernel_rfl))
     ·obtain ⟨n17, h15, h⟩ := zaf h
      obtain ⟨⟨b7, t3, n18⟩, h16, h⟩ := zaf h
      have h := zad h
      subst h
      have t_ := p13_ <| tF h14 <| tR (zaD false n14 l n15 n16 _ h15) <| tR (zbS N b2 t b4 t2 _ h16) <| tN
      exact zah (C := cfg) (sc := t_.ev) (.k0 t_.pf (by kernel_rfl))
    ·obtain ⟨n17, h13, h⟩ := zaf h
     obtain ⟨⟨b6, t3, n18⟩, h14, h⟩ := zaf h
     have h := zad h
     subst h
     have t_ := tR (zaR _ h1) <| tR (zaR _ h1) <| tR (za2 2 n l n2 n3 _ h2) <| tF h3 <| tL q_4 <| tR (zaF n8 l n6 n7 _ h5) <| tT h6 <| tL q_7 <| tR (zaF n10 l n11 n12 _ h8) <| tT h9 <| tL q_10 <| tR (zap b2 t _ h11) <| tF h12 <| tF (rfl : false = false) <| tR (zaD false n14 l n15 n16 _ h13) <| tR (zbS N b2 t b4 t2 _ h14) <| tN
     exact zah (C := cfg) (sc := t_.ev) (.k0 t_.pf (by kernel_rfl))
   ·obtain ⟨b4, h10, h⟩ := zaf h
    rcases zaj h with ⟨h11, h⟩ | ⟨h11, h⟩
    ·obtain ⟨b5, h12, h⟩ := zaf h
     have p12_ := fun {sc_ : List Ev} {Q_ : Prop} (t_ : Tell sc_ Q_) => tR (zaR _ h1) <| tR (zaR _ h1) <| tR (za2 2 n l n2 n3 _ h2) <| tF h3 <| tL q_4 <| tR (zaF n8 l n6 n7 _ h5) <| tT h6 <| tL q_7 <| tR (zaF n10 l n11 n12 _ h8) <| tF h9 <| tF (rfl : false = false) <| tR (zap b2 t _ h10) <| tT h11 <| tR (zap false zab.nil _ h12) <| t_
     rcases zaj h with ⟨h13, h⟩ | ⟨h13, h⟩
     ·obtain ⟨_, h14, h⟩ := zaf h
      rcases zaj h with ⟨h15, h⟩ | ⟨h15, h⟩
      ·obtain ⟨_, h16, h⟩ := zaf h
       obtain ⟨n14, h17, h⟩ := zaf h
       obtain ⟨⟨b6, t2, n15⟩, h18, h⟩ := zaf h
       have h := zad h
       subst h
       have t_ := p12_ <| tT h13 <| tR (zas b2 t _ h14) <| tT h15 <| tR (zas false zab.nil _ h16) <| tR (zaD true n13 l n11 n12 _ h17) <| tR (zbS N b2 t false zab.nil _ h18) <| tN
       exact zah (C := cfg) (sc := t_.ev) (.k0 t_.pf (by kernel_rfl))
      ·obtain ⟨n14, h16, h⟩ := zaf h
       obtain ⟨⟨b6, t2, n15⟩, h17, h⟩ := zaf h
       have h := zad h
       subst h
       have t_ := p12_ <| tT h13 <| tR (zas b2 t _ h14) <| tF h15 <| tR (zaD true n13 l n11 n12 _ h16) <| tR (zbS N b2 t false zab.nil _ h17) <| tN
       exact zah (C := cfg) (sc := t_.ev) (.k0 t_.pf (by kernel_rfl))
     ·obtain ⟨n14, h14, h⟩ := zaf h
      obtain ⟨⟨b6, t2, n15⟩, h15, h⟩ := zaf h
      have h := zad h
      subst h
      have t_ := p12_ <| tF h13 <| tR (zaD false n13 l n11 n12 _ h14) <| tR (zbS N b2 t false zab.nil _ h15) <| tN
      exact zah (C := cfg) (sc := t_.ev) (.k0 t_.pf (by kernel_rfl))
    ·obtain ⟨n14, h12, h⟩ := zaf h
     obtain ⟨⟨b5, t2, n15⟩, h13, h⟩ := zaf h
     have h := zad h
     subst h
     have t_ := tR (zaR _ h1) <| tR (zaR _ h1) <| tR (za2 2 n l n2 n3 _ h2) <| tF h3 <| tL q_4 <| tR (zaF n8 l n6 n7 _ h5) <| tT h6 <| tL q_7 <| tR (zaF n10 l n11 n12 _ h8) <| tF h9 <| tF (rfl : false = false) <| tR (zap b2 t _ h10) <| tF h11 <| tF (rfl : false = false) <| tR (zaD false n13 l n11 n12 _ h12) <| tR (zbS N b2 t false zab.nil _ h13) <| tN
     exact zah (C := cfg) (sc := t_.ev) (.k0 t_.pf (by kernel_rfl))
  ·obtain ⟨⟨b2, n10⟩, h7, h⟩ := zaf h
   rcases zaj h with ⟨h8, h⟩ | ⟨h8, h⟩
   ·obtain ⟨⟨n11, n12, n13, b3, t⟩, h9, h⟩ := zaf h
    have q_9 := (zhF rec_code_source_id_2 hrec_code_source_id_2 depth n4 (!(decide ((n4 : Int) = 2))) n10 l n6 n7 _ h9)
    obtain ⟨b4, h10, h⟩ := zaf h
    have p10_ := fun {sc_ : List Ev} {Q_ : Prop} (t_ : Tell sc_ Q_) => tR (zaR _ h1) <| tR (zaR _ h1) <| tR (za2 2 n l n2 n3 _ h2) <| tF h3 <| tL q_4 <| tR (zaF n8 l n6 n7 _ h5) <| tF h6 <| tF (rfl : false = false) <| tR (zaF n9 l n6 n7 _ h7) <| tT h8 <| tL q_9 <| tR (zap false zab.nil _ h10) <| t_
    rcases zaj h with ⟨h11, h⟩ | ⟨h11, h⟩
    ·obtain ⟨b5, h12, h⟩ := zaf h
     rcases zaj h with ⟨h13, h⟩ | ⟨h13, h⟩
     ·obtain ⟨_, h14, h⟩ := zaf h
      obtain ⟨n14, h15, h⟩ := zaf h
      obtain ⟨⟨b6, t2, n15⟩, h16, h⟩ := zaf h
      have h := zad h
      subst h
      have t_ := p10_ <| tT h11 <| tR (zap b3 t _ h12) <| tT h13 <| tR (zas false zab.nil _ h14) <| tF (rfl : false = false) <| tR (zaD true n11 l n12 n13 _ h15) <| tR (zbS N false zab.nil b3 t _ h16) <| tN
      exact zah (C := cfg) (sc := t_.ev) (.k0 t_.pf (by kernel_rfl))
     ·obtain ⟨n14, h14, h⟩ := zaf h
      obtain ⟨⟨b6, t2, n15⟩, h15, h⟩ := zaf h
      have h := zad h
      subst h
      have t_ := p10_ <| tT h11 <| tR (zap b3 t _ h12) <| tF h13 <| tR (zaD false n11 l n12 n13 _ h14) <| tR (zbS N false zab.nil b3 t _ h15) <| tN
      exact zah (C := cfg) (sc := t_.ev) (.k0 t_.pf (by kernel_rfl))
    ·obtain ⟨n14, h12, h⟩ := zaf h
     obtain ⟨⟨b5, t2, n15⟩, h13, h⟩ := zaf h
     have h := zad h
     subst h
     have t_ := p10_ <| tF h11 <| tF (rfl : false = false) <| tR (zaD false n11 l n12 n13 _ h12) <| tR (zbS N false zab.nil b3 t _ h13) <| tN
     exact zah (C := cfg) (sc := t_.ev) (.k0 t_.pf (by kernel_rfl))
   ·obtain ⟨b3, h9, h⟩ := zaf h
    have p9_ := fun {sc_ : List Ev} {Q_ : Prop} (t_ : Tell sc_ Q_) => tR (zaR _ h1) <| tR (zaR _ h1) <| tR (za2 2 n l n2 n3 _ h2) <| tF h3 <| tL q_4 <| tR (zaF n8 l n6 n7 _ h5) <| tF h6 <| tF (rfl : false = false) <| tR (zaF n9 l n6 n7 _ h7) <| tF h8 <| tF (rfl : false = false) <| tR (zap false zab.nil _ h9) <| t_
    rcases zaj h with ⟨h10, h⟩ | ⟨h10, h⟩
    ·rcases zaj h with ⟨h11, h⟩ | ⟨h11, h⟩
     ·obtain ⟨_, h12, h⟩ := zaf h
      obtain ⟨n11, h13, h⟩ := zaf h
      obtain ⟨⟨b4, t, n12⟩, h14, h⟩ := zaf h
      have h := zad h
      subst h
      have t_ := p9_ <| tT h10 <| tR (zap false zab.nil _ h9) <| tT h11 <| tR (zas false zab.nil _ h12) <| tF (rfl : false = false) <| tR (zaD true n10 l n6 n7 _ h13) <| tR (zbS N false zab.nil false zab.nil _ h14) <| tN
      exact zah (C := cfg) (sc := t_.ev) (.k0 t_.pf (by kernel_rfl))
     ·obtain ⟨n11, h12, h⟩ := zaf h
      obtain ⟨⟨b4, t, n12⟩, h13, h⟩ := zaf h
      have h := zad h
      subst h
      have t_ := p9_ <| tT h10 <| tR (zap false zab.nil _ h9) <| tF h11 <| tR (zaD false n10 l n6 n7 _ h12) <| tR (zbS N false zab.nil false zab.nil _ h13) <| tN
      exact zah (C := cfg) (sc := t_.ev) (.k0 t_.pf (by kernel_rfl))
    ·obtain ⟨n11, h11, h⟩ := zaf h
     obtain ⟨⟨b4, t, n12⟩, h12, h⟩ := zaf h
     have h := zad h
     subst h
     have t_ := p9_ <| tF h10 <| tF (rfl : false = false) <| tR (zaD false n10 l n6 n7 _ h11) <| tR (zbS N false zab.nil false zab.nil _ h12) <| tN
     exact zah (C := cfg) (sc := t_.ev) (.k0 t_.pf (by kernel_rfl))
noncomputable def zbh : Nat → Int → Int → List Int → Int → Int → Option (Bool × zab × Int × Int × Int)
 | 0, _, _, _, _, _ => none
 | N + 1, depth, n, l, n2, n3 => zbo N (zbh N) depth n l n2 n3
theorem zez : ∀ (N : Nat) (depth : Int) (n : Int) (l : List Int) (n2 : Int) (n3 : Int) (r_ : Bool × zab × Int × Int × Int), zbh N depth n l n2 n3 = some r_ → Runs Tryz.prog 155 [(.one (.ref 0 0)), (.one (.pv (.int .i64 depth)))] [[(.ref 1 0), (.pv (.int .i64 n))], [(.pv (.ints .u8 l false)), (.pv (.int .i64 n2)), (.pv (.int .i64 n3))]] [] (zcg depth n l n2 n3 r_)
 | 0, _, _, _, _, _, _, h => by cases h
 | N + 1, depth, n, l, n2, n3, r_, h => ziz N (zbh N) (zez N) depth n l n2 n3 r_ h
noncomputable def zjU (N : Nat) (l : List Int) (n n2 : Int) : Option (Bool × zab × Int × Int × Int) :=
 (zbh N 0 0 l n n2).bind fun (b, t, n3, n4, n5) =>
 bif (decide ((n3 : Int) = 0)) then
  some (b, t, 0, n4, n5)
 else
  (zfy).bind fun _ =>
  some (false, zab.nil, n3, n4, n5)
theorem znq (N : Nat) (l : List Int) (n n2 : Int) (r_ : Bool × zab × Int × Int × Int) (h : zjU N l n n2 = some r_) : Runs Tryz.prog 126 [(.one (.ref 0 0))] [[(.pv (.ints .u8 l false)), (.pv (.int .i64 n)), (.pv (.int .i64 n2))]] [] (zoT l n n2 r_) := by
 unfold zjU at h
 obtain ⟨⟨b, t, n3, n4, n5⟩, h1, h⟩ := zaf h
 rcases zaj h with ⟨h2, h⟩ | ⟨h2, h⟩
 ·have h := zad h
  subst h
  have t_ := tR (zez N 0 0 l n n2 _ h1) <| tF (zan h2) <| tN
  exact zah (C := cfg) (sc := t_.ev) (.k0 t_.pf (by kernel_rfl))
 ·obtain ⟨_, h3, h⟩ := zaf h
  have h := zad h
  subst h
  have t_ := tR (zez N 0 0 l n n2 _ h1) <| tT (za7 h2) <| tR (zaR _ h3) <| tR (zaR _ h3) <| tN
  exact zah (C := cfg) (sc := t_.ev) (.k1 t_.pf (by kernel_rfl) (by kernel_rfl))
def zkd (x : Bool) (x2 : zab) (e : Int) (l : List Int) (n n2 : Int) : Bool × zab × Int × Int → Res
 | (r1, r2, r3, r4) => ([(.agg [(.pv (.bool r1)), (.pv (zab.pv r2))]), (.one (.pv (.int .i64 r3)))], [[(.pv (.ints .u8 l false)), (.pv (.int .i64 n)), (.pv (.int .i64 r4))]], [])
def zkD (l : List Int) (n n2 : Int) : Int × Int → Res
 | (r1, r2) => ([(.one (.pv (.int .i64 r1)))], [[(.pv (.ints .u8 l false)), (.pv (.int .i64 n)), (.pv (.int .i64 r2))]], [])
noncomputable def zev (l : List Int) (n n2 : Int) : Option (Int × Int) :=
 (zb6 l n n2).bind fun _ =>
 bif (decide ((n2 : Int) = 0)) then
  (zcH l n n2).bind fun n3 =>
  bif (decide ((8 : Int) ≤ n3)) then
   (zci l n n2).bind fun n4 =>
   some (n4, n4)
  else
   (zb7 n3 l n n2).bind fun (n4, n5, n6) =>
   bif (decide ((n4 : Int) = 0)) then
    some (0, n6)
   else
    (zci l n n6).bind fun n7 =>
    some (n7, n7)
 else
  some (n2, n2)
theorem zgL (l : List Int) (n n2 : Int) (r_ : Int × Int) (h : zev l n n2 = some r_) : Runs Tryz.prog 156 [(.one (.ref 0 0))] [[(.pv (.ints .u8 l false)), (.pv (.int .i64 n)), (.pv (.int .i64 n2))]] [] (zkD l n n2 r_) := by
 unfold zev at h
 obtain ⟨_, h1, h⟩ := zaf h
 rcases zaj h with ⟨h2, h⟩ | ⟨h2, h⟩
 ·obtain ⟨n3, h3, h⟩ := zaf h
  rcases zaj h with ⟨h4, h⟩ | ⟨h4, h⟩
  ·obtain ⟨n4, h5, h⟩ := zaf h
   have h := zad h
   subst h
   have t_ := tR (za1 l n n2 _ h1) <| tF (zan h2) <| tR (zbd l n n2 _ h3) <| tR (zbd l n n2 _ h3) <| tT h4 <| tT (rfl : true = true) <| tR (zdr l n n2 _ h5) <| tN
   exact zah (C := cfg) (sc := t_.ev) (.k1 t_.pf (by kernel_rfl) (by kernel_rfl))
  ·obtain ⟨⟨n4, n5, n6⟩, h5, h⟩ := zaf h
   rcases zaj h with ⟨h6, h⟩ | ⟨h6, h⟩
   ·have h := zad h
    subst h
    have t_ := tR (za1 l n n2 _ h1) <| tF (zan h2) <| tR (zbd l n n2 _ h3) <| tR (zbd l n n2 _ h3) <| tF h4 <| tR (zeV n3 l n n2 _ h5) <| tF (zan h6) <| tN
    exact zah (C := cfg) (sc := t_.ev) (.k1 t_.pf (by kernel_rfl) (by kernel_rfl))
   ·obtain ⟨n7, h7, h⟩ := zaf h
    have h := zad h
    subst h
    have t_ := tR (za1 l n n2 _ h1) <| tF (zan h2) <| tR (zbd l n n2 _ h3) <| tR (zbd l n n2 _ h3) <| tF h4 <| tR (zeV n3 l n n2 _ h5) <| tT (za7 h6) <| tR (zdr l n n6 _ h7) <| tN
    exact zah (C := cfg) (sc := t_.ev) (.k1 t_.pf (by kernel_rfl) (by kernel_rfl))
 ·have h := zad h
  subst h
  have t_ := tR (za1 l n n2 _ h1) <| tT (za7 h2) <| tR (za1 l n n2 _ h1) <| tN
  exact zah (C := cfg) (sc := t_.ev) (.k0 t_.pf (by kernel_rfl))
noncomputable def zea (x : Bool) (x2 : zab) (e : Int) (l : List Int) (n n2 : Int) : Option (Bool × zab × Int × Int) :=
 bif (decide ((e : Int) = 0)) then
  (zev l n n2).bind fun (n3, n4) =>
  bif (decide ((n3 : Int) = 0)) then
   some (x, x2, 0, n4)
  else
   some (false, zab.nil, n3, n4)
 else
  some (false, zab.nil, e, n2)
theorem zjr (x : Bool) (x2 : zab) (e : Int) (l : List Int) (n n2 : Int) (r_ : Bool × zab × Int × Int) (h : zea x x2 e l n n2 = some r_) : Runs Tryz.prog 127 [(.one (.ref 0 0)), (.agg [(.pv (.bool x)), (.pv (zab.pv x2))]), (.one (.pv (.int .i64 e)))] [[(.pv (.ints .u8 l false)), (.pv (.int .i64 n)), (.pv (.int .i64 n2))]] [] (zkd x x2 e l n n2 r_) := by
 unfold zea at h
 rcases zaj h with ⟨h1, h⟩ | ⟨h1, h⟩
 ·obtain ⟨⟨n3, n4⟩, h2, h⟩ := zaf h
  rcases zaj h with ⟨h3, h⟩ | ⟨h3, h⟩
  ·have h := zad h
   subst h
   have t_ := tF (zan h1) <| tR (zgL l n n2 _ h2) <| tF (zan h3) <| tN
   exact zah (C := cfg) (sc := t_.ev) (.k0 t_.pf (by kernel_rfl))
  ·have h := zad h
   subst h
   have t_ := tF (zan h1) <| tR (zgL l n n2 _ h2) <| tT (za7 h3) <| tN
   exact Runs.out (zah (C := cfg) (res := ([(.agg [(.pv (.bool false)), (.pv .nilp)]), (.one (.pv (.int .i64 n3)))], [[(.pv (.ints .u8 l false)), (.pv (.int .i64 n)), (.pv (.int .i64 n4))]], [])) (sc := t_.ev) (.k0 t_.pf (by kernel_rfl))) ⟨⟨.eq rfl, .eq rfl, trivial⟩, .eq rfl, trivial⟩ ⟨⟨.eq rfl, .eq rfl, .eq rfl, trivial⟩, trivial⟩ trivial rfl
 ·have h := zad h
  subst h
  have t_ := tT (za7 h1) <| tN
  exact Runs.out (zah (C := cfg) (res := ([(.agg [(.pv (.bool false)), (.pv .nilp)]), (.one (.pv (.int .i64 e)))], [[(.pv (.ints .u8 l false)), (.pv (.int .i64 n)), (.pv (.int .i64 n2))]], [])) (sc := t_.ev) (.k0 t_.pf (by kernel_rfl))) ⟨⟨.eq rfl, .eq rfl, trivial⟩, .eq rfl, trivial⟩ ⟨⟨.eq rfl, .eq rfl, .eq rfl, trivial⟩, trivial⟩ trivial rfl
noncomputable def zg1 (N : Nat) (p : List Int) : Option (Bool × zab × Int) :=
 (zgh p).bind fun _ =>
 (zjU N p 0 0).bind fun (b, t, n, n2, n3) =>
 (zea b t n p n2 n3).bind fun (b2, t2, n4, n5) =>
 some (b2, t2, n4)
theorem zmJ (N : Nat) (p : List Int) (r_ : Bool × zab × Int) (h : zg1 N p = some r_) : Runs Tryz.prog 97 [(.one (.pv (.ints .u8 p false)))] [] [] (zns p r_) := by
 unfold zg1 at h
 obtain ⟨_, h1, h⟩ := zaf h
 obtain ⟨⟨b, t, n, n2, n3⟩, h2, h⟩ := zaf h
 obtain ⟨⟨b2, t2, n4, n5⟩, h3, h⟩ := zaf h
 have h := zad h
 subst h
 have t_ := tR (zkB p _ h1) <| tR (znq N p 0 0 _ h2) <| tR (zjr b t n p n2 n3 _ h3) <| tN
 exact zah (C := cfg) (sc := t_.ev) (.k0 t_.pf (by kernel_rfl))
noncomputable def zgu (N : Nat) (l : List Int) (n : Int) : Option (Int × Int × Int × Bool × zab × List Int × Int) :=
 (zcw l n).bind fun (n2, l_, n3) =>
 (zdY l_ n3).bind fun (n4, l_2, n5) =>
 (zdY l_2 n5).bind fun (n6, l_3, n7) =>
 (zfm 4096 l_3 n7).bind fun (s, l_4, n8) =>
 (zcv l_4 n8).bind fun _ =>
 bif (decide ((n8 : Int) = 0)) then
  bif decide (s.size ≤ 140737488355328) then
  (zg1 N (zcn s)).bind fun (b, t, n9) =>
  bif (decide ((n9 : Int) = 0)) then
   some (n2, n4, n6, b, t, l_4, n8)
  else
   (zcl n9 l_4 n8).bind fun n10 =>
   some (0, 0, 0, false, zab.nil, l_4, n10)
  else none
 else
  some (0, 0, 0, false, zab.nil, l_4, n8)
theorem zhX (N : Nat) (l : List Int) (n : Int) (r_ : Int × Int × Int × Bool × zab × List Int × Int) (h : zgu N l n = some r_) : Runs Tryz.prog 59 [(.one (.ref 0 0))] [[(.pv (.ints .u8 l false)), (.pv (.int .i64 n))]] [] (zmK l n r_) := by
 unfold zgu at h
 obtain ⟨⟨n2, l_, n3⟩, h1, h⟩ := zaf h
 obtain ⟨⟨n4, l_2, n5⟩, h2, h⟩ := zaf h
 obtain ⟨⟨n6, l_3, n7⟩, h3, h⟩ := zaf h
 obtain ⟨⟨s, l_4, n8⟩, h4, h⟩ := zaf h
 obtain ⟨_, h5, h⟩ := zaf h
 rcases zaj h with ⟨h6, h⟩ | ⟨h6, h⟩
 ·obtain ⟨h7, h⟩ := zaq h
  obtain ⟨⟨b, t, n9⟩, h8, h⟩ := zaf h
  have q_8 := (Runs.coe (as' := [(.one (.pv (.ints .u8 (List.take (zcn s).length (zcn s)) false)))]) (objs' := []) (rows' := []) (zmJ N (zcn s) _ h8) ⟨.pv (.ints (by first | rfl | (simp only [List.take_length]; done) | (simp; done) | (simp only [List.map_take, List.map_drop, List.map_append, List.take_length, List.nil_append]; done) | (simp only [List.length_map, List.take_length, List.length_append, List.drop_zero, List.map_append, List.map_take, List.map_drop, List.map_replicate, List.map_cons, List.map_nil, List.append_nil, List.nil_append]; done))), trivial⟩ trivial trivial)
  rcases zaj h with ⟨h9, h⟩ | ⟨h9, h⟩
  ·have h := zad h
   subst h
   have t_ := tR (zau l n _ h1) <| tR (zaB l_ n3 _ h2) <| tR (zaB l_2 n5 _ h3) <| tR (zgf 4096 l_3 n7 _ h4) <| tR (zat l_4 n8 _ h5) <| tF (zan h6) <| tO h7 <| tR q_8 <| tF (zan h9) <| tN
   exact zah (C := cfg) (sc := t_.ev) (.k0 t_.pf (by kernel_rfl))
  ·obtain ⟨n10, h10, h⟩ := zaf h
   have h := zad h
   subst h
   have t_ := tR (zau l n _ h1) <| tR (zaB l_ n3 _ h2) <| tR (zaB l_2 n5 _ h3) <| tR (zgf 4096 l_3 n7 _ h4) <| tR (zat l_4 n8 _ h5) <| tF (zan h6) <| tO h7 <| tR q_8 <| tT (za7 h9) <| tR (zbk n9 l_4 n8 _ h10) <| tN
   exact Runs.out (zah (C := cfg) (res := ([(.agg [(.pv (.int .u64 0)), (.pv (.int .i64 0)), (.pv (.int .i64 0)), (.pv (.bool false)), (.pv .nilp)])], [[(.pv (.ints .u8 l_4 false)), (.pv (.int .i64 n10))]], [])) (sc := t_.ev) (.k0 t_.pf (by kernel_rfl))) ⟨⟨.eq rfl, .eq rfl, .eq rfl, .eq rfl, .eq rfl, trivial⟩, trivial⟩ ⟨⟨.eq rfl, .eq rfl, trivial⟩, trivial⟩ trivial rfl
 ·have h := zad h
  subst h
  have t_ := tR (zau l n _ h1) <| tR (zaB l_ n3 _ h2) <| tR (zaB l_2 n5 _ h3) <| tR (zgf 4096 l_3 n7 _ h4) <| tR (zat l_4 n8 _ h5) <| tT (za7 h6) <| tN
  exact Runs.out (zah (C := cfg) (res := ([(.agg [(.pv (.int .u64 0)), (.pv (.int .i64 0)), (.pv (.int .i64 0)), (.pv (.bool false)), (.pv .nilp)])], [[(.pv (.ints .u8 l_4 false)), (.pv (.int .i64 n8))]], [])) (sc := t_.ev) (.k0 t_.pf (by kernel_rfl))) ⟨⟨.eq rfl, .eq rfl, .eq rfl, .eq rfl, .eq rfl, trivial⟩, trivial⟩ ⟨⟨.eq rfl, .eq rfl, trivial⟩, trivial⟩ trivial rfl
noncomputable def ziD (N : Nat) (n n2 : Int) (l : List Int) (n3 : Int) (r : List zaa) (l2 : List Int) (r2 : List zac) : Option (List Int × Int × List zaa) :=
 (zgu N l n3).bind fun (n4, n5, n6, b, t, l_, n7) =>
 bif fits (((List.map zaa.pv r) ++ ([[(.int .u64 n4), (.int .i64 n5), (.int .i64 n6), (.bool b), (zab.pv t)]] : List (List PV)))).length then
 some (l_, n7, (r ++ [(zaa.mk n4 n5 n6 b t)]))
 else none
theorem zmM (N : Nat) (n n2 : Int) (l : List Int) (n3 : Int) (r : List zaa) (l2 : List Int) (r2 : List zac) (r_ : List Int × Int × List zaa) (h : ziD N n n2 l n3 r l2 r2 = some r_) : Runs Tryz.prog 58 [(.one (.ref 0 0)), (.one (.ref 1 0))] [[(.pv (.int .u64 n)), (.pv (.int .u64 n2)), (.own 0 0 ((List.map zaa.pv r)).length false), (.own 1 0 (l2).length false), (.own 2 0 ((List.map zac.pv r2)).length false)], [(.ref 2 0)], [(.pv (.ints .u8 l false)), (.pv (.int .i64 n3))]] [(.recs 5 (List.map zaa.pv r)), (.ints .i64 l2), (.recs 2 (List.map zac.pv r2))] (znu n n2 l n3 r l2 r2 r_) := by
 unfold ziD at h
 obtain ⟨⟨n4, n5, n6, b, t, l_, n7⟩, h1, h⟩ := zaf h
 obtain ⟨h2, h⟩ := zaq h
 have h := zad h
 subst h
 have t_ := tR (zhX N l n3 _ h1) <| tR (zhX N l n3 _ h1) <| tO (show (Nat.beq ((List.map zaa.pv r)).length ((List.map zaa.pv r)).length) = true from Nat.beq_refl _) <| tO h2 <| tN
 exact Runs.out (zah (C := cfg) (res := ([], [[(.pv (.int .u64 n)), (.pv (.int .u64 n2)), (.own 0 0 (((List.map zaa.pv r) ++ ([[(.int .u64 n4), (.int .i64 n5), (.int .i64 n6), (.bool b), (zab.pv t)]] : List (List PV)))).length false), (.own 1 0 (l2).length false), (.own 2 0 ((List.map zac.pv r2)).length false)], [(.ref 2 0)], [(.pv (.ints .u8 l_ false)), (.pv (.int .i64 n7))]], [(.recs 5 ((List.map zaa.pv r) ++ ([[(.int .u64 n4), (.int .i64 n5), (.int .i64 n6), (.bool b), (zab.pv t)]] : List (List PV)))), (.ints .i64 l2), (.recs 2 (List.map zac.pv r2))])) (sc := t_.ev) (.k1 t_.pf (by kernel_rfl) (by kernel_rfl))) trivial ⟨⟨.eq rfl, .eq rfl, .own (by first | rfl | (simp only [List.take_length]; done) | (simp; done) | (simp only [List.map_take, List.map_drop, List.map_append, List.take_length, List.nil_append]; done) | (simp only [List.length_map, List.take_length, List.length_append, List.drop_zero, List.map_append, List.map_take, List.map_drop, List.map_replicate, List.map_cons, List.map_nil, List.append_nil, List.nil_append]; done)), .eq rfl, .eq rfl, trivial⟩, ⟨.eq rfl, trivial⟩, ⟨.eq rfl, .eq rfl, trivial⟩, trivial⟩ ⟨.recs (.app (.eq rfl) (.cons (.cons (.eq rfl) (.cons (.eq rfl) (.cons (.eq rfl) (.cons (.eq rfl) (.cons (.eq rfl) (.nil)))))) (.nil))), .eq rfl, .eq rfl, trivial⟩ rfl
def ziZ (n3 n4 : Int) : Int × List Int × Int × List zaa → St
 | (n, l, n2, r) => ⟨[(0, (.av (.one (.ref 0 0)))), (1, (.av (.one (.fn 58 [(.ref 1 0), (.ref 2 0)])))), (4, (.av (.one (.pv (.int .u64 n)))))], [(0, [(.pv (.ints .u8 l false)), (.pv (.int .i64 n2))]), (1, [(.pv (.int .u64 n3)), (.pv (.int .u64 n4)), (.own 0 0 ((List.map zaa.pv r)).length false), (.own 1 0 0 false), (.own 2 0 ((List.map zac.pv [])).length false)]), (2, [(.ref 0 0)])], [(0, (.live (.recs 5 (List.map zaa.pv r)))), (1, (.live (.ints .i64 []))), (2, (.live (.recs 2 (List.map zac.pv []))))]⟩
def ze5 (n3 n4 : Int) : List Int × Int × List zaa → Ex × St
 | (r1, r2, r3) => ((.exit 0), ⟨[], [(0, [(.pv (.ints .u8 r1 false)), (.pv (.int .i64 r2))]), (1, [(.pv (.int .u64 n3)), (.pv (.int .u64 n4)), (.own 0 0 ((List.map zaa.pv r3)).length false), (.own 1 0 0 false), (.own 2 0 ((List.map zac.pv [])).length false)]), (2, [(.ref 0 0)])], [(0, (.live (.recs 5 (List.map zaa.pv r3)))), (1, (.live (.ints .i64 []))), (2, (.live (.recs 2 (List.map zac.pv []))))]⟩)
noncomputable def zb9 (N : Nat) (n3 n4 : Int) : Int × List Int × Int × List zaa → Option ((Int × List Int × Int × List zaa) ⊕ (List Int × Int × List zaa))
 | (n, l, n2, r) =>
 bif (decide ((0 : Int) < n)) then
  (zcv l n2).bind fun _ =>
  bif (decide ((n2 : Int) = 0)) then
   (ziD N n3 n4 l n2 r [] []).bind fun (l_, n5, r2) =>
   some (.inl ((isub .u64 n 1), l_, n5, r2))
  else
   some (.inr (l, n2, r))
 else
  some (.inr (l, n2, r))
theorem zmR (N : Nat) (n3 n4 : Int) (s_ : Int × List Int × Int × List zaa) (z_ : (Int × List Int × Int × List zaa) ⊕ (List Int × Int × List zaa)) (h : zb9 N n3 n4 s_ = some z_) : zaP Tryz.prog cfg 57 3 (zax Tryz.prog 57 0) (ziZ n3 n4) (ze5 n3 n4) s_ z_ := by
 rcases s_ with ⟨n, l, n2, r⟩
 rcases zaj h with ⟨h1, h⟩ | ⟨h1, h⟩
 ·obtain ⟨_, h2, h⟩ := zaf h
  rcases zaj h with ⟨h3, h⟩ | ⟨h3, h⟩
  ·obtain ⟨⟨l_, n5, r2⟩, h4, h⟩ := zaf h
   have h := zad h
   subst h
   have t_ := tT h1 <| tR (zat l n2 _ h2) <| tT h3 <| tR (Runs.coe (as' := [(.one (.ref 0 0)), (.one (.ref 1 0))]) (objs' := [[(.pv (.int .u64 n3)), (.pv (.int .u64 n4)), (.own 0 0 ((List.map zaa.pv r)).length false), (.own 1 0 0 false), (.own 2 0 ((List.map zac.pv [])).length false)], [(.ref 2 0)], [(.pv (.ints .u8 l false)), (.pv (.int .i64 n2))]]) (rows' := [(.recs 5 (List.map zaa.pv r)), (.ints .i64 []), (.recs 2 (List.map zac.pv []))]) (zmM N n3 n4 l n2 r [] [] _ h4) ⟨.eq rfl, .eq rfl, trivial⟩ ⟨⟨.eq rfl, .eq rfl, .eq rfl, .own (by first | rfl | (simp only [List.take_length]; done) | (simp; done) | (simp only [List.map_take, List.map_drop, List.map_append, List.take_length, List.nil_append]; done) | (simp only [List.length_map, List.take_length, List.length_append, List.drop_zero, List.map_append, List.map_take, List.map_drop, List.map_replicate, List.map_cons, List.map_nil, List.append_nil, List.nil_append]; done)), .eq rfl, trivial⟩, ⟨.eq rfl, trivial⟩, ⟨.eq rfl, .eq rfl, trivial⟩, trivial⟩ ⟨.eq rfl, .eq rfl, .eq rfl, trivial⟩) <| tN
   exact ⟨t_.ev, ⟨[(0, (.av (.one (.ref 0 0)))), (1, (.av (.one (.fn 58 [(.ref 1 0), (.ref 2 0)])))), (4, (.av (.one (.pv (.int .u64 (isub .u64 n 1))))))], [(0, [(.pv (.ints .u8 l_ false)), (.pv (.int .i64 n5))]), (1, [(.pv (.int .u64 n3)), (.pv (.int .u64 n4)), (.own 0 0 ((List.map zaa.pv r2)).length false), (.own 1 0 0 false), (.own 2 0 ((List.map zac.pv [])).length false)]), (2, [(.ref 0 0)])], [(0, (.live (.recs 5 (List.map zaa.pv r2)))), (1, (.live (.ints .i64 []))), (2, (.live (.recs 2 (List.map zac.pv []))))]⟩, .k0 t_.pf (by kernel_rfl), ⟨⟨⟨_, rfl, .eq rfl⟩, ⟨_, rfl, .eq rfl⟩, ⟨_, rfl, .eq rfl⟩, trivial⟩, ⟨⟨rfl, ⟨.eq rfl, .eq rfl, trivial⟩⟩, ⟨rfl, ⟨.eq rfl, .eq rfl, .eq rfl, .own (by first | rfl | (simp only [List.take_length]; done) | (simp; done) | (simp only [List.map_take, List.map_drop, List.map_append, List.take_length, List.nil_append]; done) | (simp only [List.length_map, List.take_length, List.length_append, List.drop_zero, List.map_append, List.map_take, List.map_drop, List.map_replicate, List.map_cons, List.map_nil, List.append_nil, List.nil_append]; done)), .eq rfl, trivial⟩⟩, ⟨rfl, ⟨.eq rfl, trivial⟩⟩, trivial⟩, ⟨⟨rfl, .eq rfl⟩, ⟨rfl, .eq rfl⟩, ⟨rfl, .eq rfl⟩, trivial⟩⟩⟩
  ·have h := zad h
   subst h
   have t_ := tT h1 <| tR (zat l n2 _ h2) <| tF h3 <| tN
   exact ⟨t_.ev, ⟨[(13, (.av (.one (.pv (.bool false))))), (0, (.av (.one (.ref 0 0)))), (1, (.av (.one (.fn 58 [(.ref 1 0), (.ref 2 0)])))), (4, (.av (.one (.pv (.int .u64 n))))), (13, (.av (.one (.pv (.bool (decide ((n2 : Int) = 0)))))))], [(0, [(.pv (.ints .u8 l false)), (.pv (.int .i64 n2))]), (1, [(.pv (.int .u64 n3)), (.pv (.int .u64 n4)), (.own 0 0 ((List.map zaa.pv r)).length false), (.own 1 0 0 false), (.own 2 0 ((List.map zac.pv [])).length false)]), (2, [(.ref 0 0)])], [(0, (.live (.recs 5 (List.map zaa.pv r)))), (1, (.live (.ints .i64 []))), (2, (.live (.recs 2 (List.map zac.pv []))))]⟩, .k0 t_.pf (by kernel_rfl), ⟨trivial, ⟨⟨rfl, ⟨.eq rfl, .eq rfl, trivial⟩⟩, ⟨rfl, ⟨.eq rfl, .eq rfl, .eq rfl, .eq rfl, .eq rfl, trivial⟩⟩, ⟨rfl, ⟨.eq rfl, trivial⟩⟩, trivial⟩, ⟨⟨rfl, .eq rfl⟩, ⟨rfl, .eq rfl⟩, ⟨rfl, .eq rfl⟩, trivial⟩⟩⟩
 ·have h := zad h
  subst h
  have t_ := tF h1 <| tF (rfl : false = false) <| tN
  exact ⟨t_.ev, ⟨[(13, (.av (.one (.pv (.bool false))))), (0, (.av (.one (.ref 0 0)))), (1, (.av (.one (.fn 58 [(.ref 1 0), (.ref 2 0)])))), (4, (.av (.one (.pv (.int .u64 n))))), (13, (.av (.one (.pv (.bool false)))))], [(0, [(.pv (.ints .u8 l false)), (.pv (.int .i64 n2))]), (1, [(.pv (.int .u64 n3)), (.pv (.int .u64 n4)), (.own 0 0 ((List.map zaa.pv r)).length false), (.own 1 0 0 false), (.own 2 0 ((List.map zac.pv [])).length false)]), (2, [(.ref 0 0)])], [(0, (.live (.recs 5 (List.map zaa.pv r)))), (1, (.live (.ints .i64 []))), (2, (.live (.recs 2 (List.map zac.pv []))))]⟩, .k0 t_.pf (by kernel_rfl), ⟨trivial, ⟨⟨rfl, ⟨.eq rfl, .eq rfl, trivial⟩⟩, ⟨rfl, ⟨.eq rfl, .eq rfl, .eq rfl, .eq rfl, .eq rfl, trivial⟩⟩, ⟨rfl, ⟨.eq rfl, trivial⟩⟩, trivial⟩, ⟨⟨rfl, .eq rfl⟩, ⟨rfl, .eq rfl⟩, ⟨rfl, .eq rfl⟩, trivial⟩⟩⟩
theorem zlh (N : Nat) (n3 n4 : Int) (s_ : Int × List Int × Int × List zaa) (r_ : List Int × Int × List zaa) (h : runL (zb9 N n3 n4) s_ = some r_) : zaT Tryz.prog (lEnv Tryz.prog cfg 57 3).nt 3 (.loop (zax Tryz.prog 57 0)) (ziZ n3 n4 s_) (ze5 n3 n4 r_).1 (ze5 n3 n4 r_).2 :=
 zaJ h (zmR N n3 n4) (by intro r_; rcases r_ with ⟨r1, r2, r3⟩ <;> simp [ze5])
noncomputable def zh7 (N : Nat) (l : List Int) (n n2 n3 : Int) : Option (List Int × Int × List zaa) :=
 (zcw l n).bind fun (n4, l_, n5) =>
 (runL (zb9 N n2 n3) (n4, l_, n5, [])).bind fun (l_2, n6, r) =>
 some (l_2, n6, r)
theorem znA (N : Nat) (l : List Int) (n n2 n3 : Int) (r_ : List Int × Int × List zaa) (h : zh7 N l n n2 n3 = some r_) : Runs Tryz.prog 57 [(.one (.ref 0 0)), (.one (.fn 58 [(.ref 1 0), (.ref 2 0)]))] [[(.pv (.ints .u8 l false)), (.pv (.int .i64 n))], [(.pv (.int .u64 n2)), (.pv (.int .u64 n3)), (.pv .nils), (.pv .nils), (.pv .nils)], [(.ref 0 0)]] [] (zoX l n n2 n3 r_) := by
 unfold zh7 at h
 obtain ⟨⟨n4, l_, n5⟩, h1, h⟩ := zaf h
 obtain ⟨⟨l_2, n6, r⟩, h2, h⟩ := zaf h
 have h := zad h
 subst h
 have t_ := tR (zau l n _ h1) <| tL (zaT.coe (s0 := ⟨[(0, (.av (.one (.ref 0 0)))), (1, (.av (.one (.fn 58 [(.ref 1 0), (.ref 2 0)])))), (4, (.av (.one (.pv (.int .u64 n4)))))], [(0, [(.pv (.ints .u8 l_ false)), (.pv (.int .i64 n5))]), (1, [(.pv (.int .u64 n2)), (.pv (.int .u64 n3)), (.own 0 0 0 false), (.own 1 0 0 false), (.own 2 0 0 false)]), (2, [(.ref 0 0)])], [(0, (.live (.recs 5 []))), (1, (.live (.ints .i64 []))), (2, (.live (.recs 2 [])))]⟩) (zlh N n2 n3 _ _ h2) ⟨⟨⟨_, rfl, .eq rfl⟩, ⟨_, rfl, .eq rfl⟩, ⟨_, rfl, .eq rfl⟩, trivial⟩, ⟨⟨rfl, ⟨.eq rfl, .eq rfl, trivial⟩⟩, ⟨rfl, ⟨.eq rfl, .eq rfl, .own (by first | rfl | (simp only [List.take_length]; done) | (simp; done) | (simp only [List.map_take, List.map_drop, List.map_append, List.take_length, List.nil_append]; done) | (simp only [List.length_map, List.take_length, List.length_append, List.drop_zero, List.map_append, List.map_take, List.map_drop, List.map_replicate, List.map_cons, List.map_nil, List.append_nil, List.nil_append]; done)), .eq rfl, .own (by first | rfl | (simp only [List.take_length]; done) | (simp; done) | (simp only [List.map_take, List.map_drop, List.map_append, List.take_length, List.nil_append]; done) | (simp only [List.length_map, List.take_length, List.length_append, List.drop_zero, List.map_append, List.map_take, List.map_drop, List.map_replicate, List.map_cons, List.map_nil, List.append_nil, List.nil_append]; done)), trivial⟩⟩, ⟨rfl, ⟨.eq rfl, trivial⟩⟩, trivial⟩, ⟨⟨rfl, .recs (.nil)⟩, ⟨rfl, .eq rfl⟩, ⟨rfl, .recs (.nil)⟩, trivial⟩⟩) <| tN
 exact zah (C := cfg) (sc := t_.ev) (.k0 t_.pf (by kernel_rfl))
def zmP (l : List Int) (n n2 n3 : Int) (r : List zaa) (l2 : List Int) (r2 : List zac) : List Int × Int × List Int → Res
 | (r1, r3, r4) => ([], [[(.pv (.ints .u8 r1 false)), (.pv (.int .i64 r3))], [(.pv (.int .u64 n2)), (.pv (.int .u64 n3)), (.own 0 0 ((List.map zaa.pv r)).length false), (.own 1 0 (r4).length false), (.own 2 0 ((List.map zac.pv r2)).length false)], [(.ref 0 0)]], [(.recs 5 (List.map zaa.pv r)), (.ints .i64 r4), (.recs 2 (List.map zac.pv r2))])
def znv (n n2 : Int) (l : List Int) (n3 : Int) (r : List zaa) (l2 : List Int) (r2 : List zac) : List Int × Int × List Int → Res
 | (r1, r3, r4) => ([], [[(.pv (.int .u64 n)), (.pv (.int .u64 n2)), (.own 0 0 ((List.map zaa.pv r)).length false), (.own 1 0 (r4).length false), (.own 2 0 ((List.map zac.pv r2)).length false)], [(.ref 2 0)], [(.pv (.ints .u8 r1 false)), (.pv (.int .i64 r3))]], [(.recs 5 (List.map zaa.pv r)), (.ints .i64 r4), (.recs 2 (List.map zac.pv r2))])
noncomputable def ziE (n n2 : Int) (l : List Int) (n3 : Int) (r : List zaa) (l2 : List Int) (r2 : List zac) : Option (List Int × Int × List Int) :=
 (zdY l n3).bind fun (n4, l_, n5) =>
 bif fits ((l2 ++ [n4])).length then
 some (l_, n5, (l2 ++ [n4]))
 else none
theorem zmN (n n2 : Int) (l : List Int) (n3 : Int) (r : List zaa) (l2 : List Int) (r2 : List zac) (r_ : List Int × Int × List Int) (h : ziE n n2 l n3 r l2 r2 = some r_) : Runs Tryz.prog 60 [(.one (.ref 0 0)), (.one (.ref 1 0))] [[(.pv (.int .u64 n)), (.pv (.int .u64 n2)), (.own 0 0 ((List.map zaa.pv r)).length false), (.own 1 0 (l2).length false), (.own 2 0 ((List.map zac.pv r2)).length false)], [(.ref 2 0)], [(.pv (.ints .u8 l false)), (.pv (.int .i64 n3))]] [(.recs 5 (List.map zaa.pv r)), (.ints .i64 l2), (.recs 2 (List.map zac.pv r2))] (znv n n2 l n3 r l2 r2 r_) := by
 unfold ziE at h
 obtain ⟨⟨n4, l_, n5⟩, h1, h⟩ := zaf h
 obtain ⟨h2, h⟩ := zaq h
 have h := zad h
 subst h
 have t_ := tR (zaB l n3 _ h1) <| tR (zaB l n3 _ h1) <| tO (show (Nat.beq (l2).length (l2).length) = true from Nat.beq_refl _) <| tO h2 <| tN
 exact zah (C := cfg) (sc := t_.ev) (.k1 t_.pf (by kernel_rfl) (by kernel_rfl))
def zfw (n3 n4 : Int) (r : List zaa) (r2 : List zac) : Int × List Int × Int × List Int → St
 | (n, l, n2, l2) => ⟨[(0, (.av (.one (.ref 0 0)))), (1, (.av (.one (.fn 60 [(.ref 1 0), (.ref 2 0)])))), (4, (.av (.one (.pv (.int .u64 n)))))], [(0, [(.pv (.ints .u8 l false)), (.pv (.int .i64 n2))]), (1, [(.pv (.int .u64 n3)), (.pv (.int .u64 n4)), (.own 0 0 ((List.map zaa.pv r)).length false), (.own 1 0 (l2).length false), (.own 2 0 ((List.map zac.pv r2)).length false)]), (2, [(.ref 0 0)])], [(0, (.live (.recs 5 (List.map zaa.pv r)))), (1, (.live (.ints .i64 l2))), (2, (.live (.recs 2 (List.map zac.pv r2))))]⟩
def zeq (n3 n4 : Int) (r : List zaa) (r2 : List zac) : List Int × Int × List Int → Ex × St
 | (r1, r3, r4) => ((.exit 0), ⟨[], [(0, [(.pv (.ints .u8 r1 false)), (.pv (.int .i64 r3))]), (1, [(.pv (.int .u64 n3)), (.pv (.int .u64 n4)), (.own 0 0 ((List.map zaa.pv r)).length false), (.own 1 0 (r4).length false), (.own 2 0 ((List.map zac.pv r2)).length false)]), (2, [(.ref 0 0)])], [(0, (.live (.recs 5 (List.map zaa.pv r)))), (1, (.live (.ints .i64 r4))), (2, (.live (.recs 2 (List.map zac.pv r2))))]⟩)
noncomputable def zbP (n3 n4 : Int) (r : List zaa) (r2 : List zac) : Int × List Int × Int × List Int → Option ((Int × List Int × Int × List Int) ⊕ (List Int × Int × List Int))
 | (n, l, n2, l2) =>
 bif (decide ((0 : Int) < n)) then
  (zcv l n2).bind fun _ =>
  bif (decide ((n2 : Int) = 0)) then
   (ziE n3 n4 l n2 r l2 r2).bind fun (l_, n5, l_2) =>
   some (.inl ((isub .u64 n 1), l_, n5, l_2))
  else
   some (.inr (l, n2, l2))
 else
  some (.inr (l, n2, l2))
theorem zlf (n3 n4 : Int) (r : List zaa) (r2 : List zac) (s_ : Int × List Int × Int × List Int) (z_ : (Int × List Int × Int × List Int) ⊕ (List Int × Int × List Int)) (h : zbP n3 n4 r r2 s_ = some z_) : zaP Tryz.prog cfg 57 3 (zax Tryz.prog 57 0) (zfw n3 n4 r r2) (zeq n3 n4 r r2) s_ z_ := by
 rcases s_ with ⟨n, l, n2, l2⟩
 rcases zaj h with ⟨h1, h⟩ | ⟨h1, h⟩
 ·obtain ⟨_, h2, h⟩ := zaf h
  rcases zaj h with ⟨h3, h⟩ | ⟨h3, h⟩
  ·obtain ⟨⟨l_, n5, l_2⟩, h4, h⟩ := zaf h
   have h := zad h
   subst h
   have t_ := tT h1 <| tR (zat l n2 _ h2) <| tT h3 <| tR (zmN n3 n4 l n2 r l2 r2 _ h4) <| tN
   exact ⟨t_.ev, zfw n3 n4 r r2 ((isub .u64 n 1), l_, n5, l_2), .k0 t_.pf (by kernel_rfl), .same (by kernel_rfl)⟩
  ·have h := zad h
   subst h
   have t_ := tT h1 <| tR (zat l n2 _ h2) <| tF h3 <| tN
   exact ⟨t_.ev, ⟨[(13, (.av (.one (.pv (.bool false))))), (0, (.av (.one (.ref 0 0)))), (1, (.av (.one (.fn 60 [(.ref 1 0), (.ref 2 0)])))), (4, (.av (.one (.pv (.int .u64 n))))), (13, (.av (.one (.pv (.bool (decide ((n2 : Int) = 0)))))))], [(0, [(.pv (.ints .u8 l false)), (.pv (.int .i64 n2))]), (1, [(.pv (.int .u64 n3)), (.pv (.int .u64 n4)), (.own 0 0 ((List.map zaa.pv r)).length false), (.own 1 0 (l2).length false), (.own 2 0 ((List.map zac.pv r2)).length false)]), (2, [(.ref 0 0)])], [(0, (.live (.recs 5 (List.map zaa.pv r)))), (1, (.live (.ints .i64 l2))), (2, (.live (.recs 2 (List.map zac.pv r2))))]⟩, .k0 t_.pf (by kernel_rfl), ⟨trivial, ⟨⟨rfl, ⟨.eq rfl, .eq rfl, trivial⟩⟩, ⟨rfl, ⟨.eq rfl, .eq rfl, .eq rfl, .eq rfl, .eq rfl, trivial⟩⟩, ⟨rfl, ⟨.eq rfl, trivial⟩⟩, trivial⟩, ⟨⟨rfl, .eq rfl⟩, ⟨rfl, .eq rfl⟩, ⟨rfl, .eq rfl⟩, trivial⟩⟩⟩
 ·have h := zad h
  subst h
  have t_ := tF h1 <| tF (rfl : false = false) <| tN
  exact ⟨t_.ev, ⟨[(13, (.av (.one (.pv (.bool false))))), (0, (.av (.one (.ref 0 0)))), (1, (.av (.one (.fn 60 [(.ref 1 0), (.ref 2 0)])))), (4, (.av (.one (.pv (.int .u64 n))))), (13, (.av (.one (.pv (.bool false)))))], [(0, [(.pv (.ints .u8 l false)), (.pv (.int .i64 n2))]), (1, [(.pv (.int .u64 n3)), (.pv (.int .u64 n4)), (.own 0 0 ((List.map zaa.pv r)).length false), (.own 1 0 (l2).length false), (.own 2 0 ((List.map zac.pv r2)).length false)]), (2, [(.ref 0 0)])], [(0, (.live (.recs 5 (List.map zaa.pv r)))), (1, (.live (.ints .i64 l2))), (2, (.live (.recs 2 (List.map zac.pv r2))))]⟩, .k0 t_.pf (by kernel_rfl), ⟨trivial, ⟨⟨rfl, ⟨.eq rfl, .eq rfl, trivial⟩⟩, ⟨rfl, ⟨.eq rfl, .eq rfl, .eq rfl, .eq rfl, .eq rfl, trivial⟩⟩, ⟨rfl, ⟨.eq rfl, trivial⟩⟩, trivial⟩, ⟨⟨rfl, .eq rfl⟩, ⟨rfl, .eq rfl⟩, ⟨rfl, .eq rfl⟩, trivial⟩⟩⟩
theorem zkk (n3 n4 : Int) (r : List zaa) (r2 : List zac) (s_ : Int × List Int × Int × List Int) (r_ : List Int × Int × List Int) (h : runL (zbP n3 n4 r r2) s_ = some r_) : zaT Tryz.prog (lEnv Tryz.prog cfg 57 3).nt 3 (.loop (zax Tryz.prog 57 0)) (zfw n3 n4 r r2 s_) (zeq n3 n4 r r2 r_).1 (zeq n3 n4 r r2 r_).2 :=
 zaJ h (zlf n3 n4 r r2) (by intro r_; rcases r_ with ⟨r1, r3, r4⟩ <;> simp [zeq])
noncomputable def zgw (l : List Int) (n n2 n3 : Int) (r : List zaa) (l2 : List Int) (r2 : List zac) : Option (List Int × Int × List Int) :=
 (zcw l n).bind fun (n4, l_, n5) =>
 (runL (zbP n2 n3 r r2) (n4, l_, n5, l2)).bind fun (l_2, n6, l_3) =>
 some (l_2, n6, l_3)
theorem zlX (l : List Int) (n n2 n3 : Int) (r : List zaa) (l2 : List Int) (r2 : List zac) (r_ : List Int × Int × List Int) (h : zgw l n n2 n3 r l2 r2 = some r_) : Runs Tryz.prog 57 [(.one (.ref 0 0)), (.one (.fn 60 [(.ref 1 0), (.ref 2 0)]))] [[(.pv (.ints .u8 l false)), (.pv (.int .i64 n))], [(.pv (.int .u64 n2)), (.pv (.int .u64 n3)), (.own 0 0 ((List.map zaa.pv r)).length false), (.own 1 0 (l2).length false), (.own 2 0 ((List.map zac.pv r2)).length false)], [(.ref 0 0)]] [(.recs 5 (List.map zaa.pv r)), (.ints .i64 l2), (.recs 2 (List.map zac.pv r2))] (zmP l n n2 n3 r l2 r2 r_) := by
 unfold zgw at h
 obtain ⟨⟨n4, l_, n5⟩, h1, h⟩ := zaf h
 obtain ⟨⟨l_2, n6, l_3⟩, h2, h⟩ := zaf h
 have h := zad h
 subst h
 have t_ := tR (zau l n _ h1) <| tL (zkk n2 n3 r r2 _ _ h2) <| tN
 exact zah (C := cfg) (sc := t_.ev) (.k0 t_.pf (by kernel_rfl))
def zmQ (l : List Int) (n n2 n3 : Int) (r : List zaa) (l2 : List Int) (r2 : List zac) : List Int × Int × List zac → Res
 | (r1, r3, r4) => ([], [[(.pv (.ints .u8 r1 false)), (.pv (.int .i64 r3))], [(.pv (.int .u64 n2)), (.pv (.int .u64 n3)), (.own 0 0 ((List.map zaa.pv r)).length false), (.own 1 0 (l2).length false), (.own 2 0 ((List.map zac.pv r4)).length false)], [(.ref 0 0)]], [(.recs 5 (List.map zaa.pv r)), (.ints .i64 l2), (.recs 2 (List.map zac.pv r4))])
def znw (n n2 : Int) (l : List Int) (n3 : Int) (r : List zaa) (l2 : List Int) (r2 : List zac) : List Int × Int × List zac → Res
 | (r1, r3, r4) => ([], [[(.pv (.int .u64 n)), (.pv (.int .u64 n2)), (.own 0 0 ((List.map zaa.pv r)).length false), (.own 1 0 (l2).length false), (.own 2 0 ((List.map zac.pv r4)).length false)], [(.ref 2 0)], [(.pv (.ints .u8 r1 false)), (.pv (.int .i64 r3))]], [(.recs 5 (List.map zaa.pv r)), (.ints .i64 l2), (.recs 2 (List.map zac.pv r4))])
noncomputable def ziF (n n2 : Int) (l : List Int) (n3 : Int) (r : List zaa) (l2 : List Int) (r2 : List zac) : Option (List Int × Int × List zac) :=
 (zdY l n3).bind fun (n4, l_, n5) =>
 (zcw l_ n5).bind fun (n6, l_2, n7) =>
 bif fits (((List.map zac.pv r2) ++ ([[(.int .i64 n4), (.int .u64 n6)]] : List (List PV)))).length then
 some (l_2, n7, (r2 ++ [(zac.mk n4 n6)]))
 else none
theorem zmO (n n2 : Int) (l : List Int) (n3 : Int) (r : List zaa) (l2 : List Int) (r2 : List zac) (r_ : List Int × Int × List zac) (h : ziF n n2 l n3 r l2 r2 = some r_) : Runs Tryz.prog 61 [(.one (.ref 0 0)), (.one (.ref 1 0))] [[(.pv (.int .u64 n)), (.pv (.int .u64 n2)), (.own 0 0 ((List.map zaa.pv r)).length false), (.own 1 0 (l2).length false), (.own 2 0 ((List.map zac.pv r2)).length false)], [(.ref 2 0)], [(.pv (.ints .u8 l false)), (.pv (.int .i64 n3))]] [(.recs 5 (List.map zaa.pv r)), (.ints .i64 l2), (.recs 2 (List.map zac.pv r2))] (znw n n2 l n3 r l2 r2 r_) := by
 unfold ziF at h
 obtain ⟨⟨n4, l_, n5⟩, h1, h⟩ := zaf h
 obtain ⟨⟨n6, l_2, n7⟩, h2, h⟩ := zaf h
 obtain ⟨h3, h⟩ := zaq h
 have h := zad h
 subst h
 have t_ := tR (zaB l n3 _ h1) <| tR (zaB l n3 _ h1) <| tR (zaB l n3 _ h1) <| tR (zaB l n3 _ h1) <| tR (zau l_ n5 _ h2) <| tR (zau l_ n5 _ h2) <| tO (show (Nat.beq ((List.map zac.pv r2)).length ((List.map zac.pv r2)).length) = true from Nat.beq_refl _) <| tO h3 <| tN
 exact Runs.out (zah (C := cfg) (res := ([], [[(.pv (.int .u64 n)), (.pv (.int .u64 n2)), (.own 0 0 ((List.map zaa.pv r)).length false), (.own 1 0 (l2).length false), (.own 2 0 (((List.map zac.pv r2) ++ ([[(.int .i64 n4), (.int .u64 n6)]] : List (List PV)))).length false)], [(.ref 2 0)], [(.pv (.ints .u8 l_2 false)), (.pv (.int .i64 n7))]], [(.recs 5 (List.map zaa.pv r)), (.ints .i64 l2), (.recs 2 ((List.map zac.pv r2) ++ ([[(.int .i64 n4), (.int .u64 n6)]] : List (List PV))))])) (sc := t_.ev) (.k1 t_.pf (by kernel_rfl) (by kernel_rfl))) trivial ⟨⟨.eq rfl, .eq rfl, .eq rfl, .eq rfl, .own (by first | rfl | (simp only [List.take_length]; done) | (simp; done) | (simp only [List.map_take, List.map_drop, List.map_append, List.take_length, List.nil_append]; done) | (simp only [List.length_map, List.take_length, List.length_append, List.drop_zero, List.map_append, List.map_take, List.map_drop, List.map_replicate, List.map_cons, List.map_nil, List.append_nil, List.nil_append]; done)), trivial⟩, ⟨.eq rfl, trivial⟩, ⟨.eq rfl, .eq rfl, trivial⟩, trivial⟩ ⟨.eq rfl, .eq rfl, .recs (.app (.eq rfl) (.cons (.cons (.eq rfl) (.cons (.eq rfl) (.nil))) (.nil))), trivial⟩ rfl
def zfx (n3 n4 : Int) (r : List zaa) (l2 : List Int) : Int × List Int × Int × List zac → St
 | (n, l, n2, r2) => ⟨[(0, (.av (.one (.ref 0 0)))), (1, (.av (.one (.fn 61 [(.ref 1 0), (.ref 2 0)])))), (4, (.av (.one (.pv (.int .u64 n)))))], [(0, [(.pv (.ints .u8 l false)), (.pv (.int .i64 n2))]), (1, [(.pv (.int .u64 n3)), (.pv (.int .u64 n4)), (.own 0 0 ((List.map zaa.pv r)).length false), (.own 1 0 (l2).length false), (.own 2 0 ((List.map zac.pv r2)).length false)]), (2, [(.ref 0 0)])], [(0, (.live (.recs 5 (List.map zaa.pv r)))), (1, (.live (.ints .i64 l2))), (2, (.live (.recs 2 (List.map zac.pv r2))))]⟩
def zer (n3 n4 : Int) (r : List zaa) (l2 : List Int) : List Int × Int × List zac → Ex × St
 | (r1, r2, r3) => ((.exit 0), ⟨[], [(0, [(.pv (.ints .u8 r1 false)), (.pv (.int .i64 r2))]), (1, [(.pv (.int .u64 n3)), (.pv (.int .u64 n4)), (.own 0 0 ((List.map zaa.pv r)).length false), (.own 1 0 (l2).length false), (.own 2 0 ((List.map zac.pv r3)).length false)]), (2, [(.ref 0 0)])], [(0, (.live (.recs 5 (List.map zaa.pv r)))), (1, (.live (.ints .i64 l2))), (2, (.live (.recs 2 (List.map zac.pv r3))))]⟩)
noncomputable def zbQ (n3 n4 : Int) (r : List zaa) (l2 : List Int) : Int × List Int × Int × List zac → Option ((Int × List Int × Int × List zac) ⊕ (List Int × Int × List zac))
 | (n, l, n2, r2) =>
 bif (decide ((0 : Int) < n)) then
  (zcv l n2).bind fun _ =>
  bif (decide ((n2 : Int) = 0)) then
   (ziF n3 n4 l n2 r l2 r2).bind fun (l_, n5, r3) =>
   some (.inl ((isub .u64 n 1), l_, n5, r3))
  else
   some (.inr (l, n2, r2))
 else
  some (.inr (l, n2, r2))
theorem zlg (n3 n4 : Int) (r : List zaa) (l2 : List Int) (s_ : Int × List Int × Int × List zac) (z_ : (Int × List Int × Int × List zac) ⊕ (List Int × Int × List zac)) (h : zbQ n3 n4 r l2 s_ = some z_) : zaP Tryz.prog cfg 57 3 (zax Tryz.prog 57 0) (zfx n3 n4 r l2) (zer n3 n4 r l2) s_ z_ := by
 rcases s_ with ⟨n, l, n2, r2⟩
 rcases zaj h with ⟨h1, h⟩ | ⟨h1, h⟩
 ·obtain ⟨_, h2, h⟩ := zaf h
  rcases zaj h with ⟨h3, h⟩ | ⟨h3, h⟩
  ·obtain ⟨⟨l_, n5, r3⟩, h4, h⟩ := zaf h
   have h := zad h
   subst h
   have t_ := tT h1 <| tR (zat l n2 _ h2) <| tT h3 <| tR (zmO n3 n4 l n2 r l2 r2 _ h4) <| tN
   exact ⟨t_.ev, zfx n3 n4 r l2 ((isub .u64 n 1), l_, n5, r3), .k0 t_.pf (by kernel_rfl), .same (by kernel_rfl)⟩
  ·have h := zad h
   subst h
   have t_ := tT h1 <| tR (zat l n2 _ h2) <| tF h3 <| tN
   exact ⟨t_.ev, ⟨[(13, (.av (.one (.pv (.bool false))))), (0, (.av (.one (.ref 0 0)))), (1, (.av (.one (.fn 61 [(.ref 1 0), (.ref 2 0)])))), (4, (.av (.one (.pv (.int .u64 n))))), (13, (.av (.one (.pv (.bool (decide ((n2 : Int) = 0)))))))], [(0, [(.pv (.ints .u8 l false)), (.pv (.int .i64 n2))]), (1, [(.pv (.int .u64 n3)), (.pv (.int .u64 n4)), (.own 0 0 ((List.map zaa.pv r)).length false), (.own 1 0 (l2).length false), (.own 2 0 ((List.map zac.pv r2)).length false)]), (2, [(.ref 0 0)])], [(0, (.live (.recs 5 (List.map zaa.pv r)))), (1, (.live (.ints .i64 l2))), (2, (.live (.recs 2 (List.map zac.pv r2))))]⟩, .k0 t_.pf (by kernel_rfl), ⟨trivial, ⟨⟨rfl, ⟨.eq rfl, .eq rfl, trivial⟩⟩, ⟨rfl, ⟨.eq rfl, .eq rfl, .eq rfl, .eq rfl, .eq rfl, trivial⟩⟩, ⟨rfl, ⟨.eq rfl, trivial⟩⟩, trivial⟩, ⟨⟨rfl, .eq rfl⟩, ⟨rfl, .eq rfl⟩, ⟨rfl, .eq rfl⟩, trivial⟩⟩⟩
 ·have h := zad h
  subst h
  have t_ := tF h1 <| tF (rfl : false = false) <| tN
  exact ⟨t_.ev, ⟨[(13, (.av (.one (.pv (.bool false))))), (0, (.av (.one (.ref 0 0)))), (1, (.av (.one (.fn 61 [(.ref 1 0), (.ref 2 0)])))), (4, (.av (.one (.pv (.int .u64 n))))), (13, (.av (.one (.pv (.bool false)))))], [(0, [(.pv (.ints .u8 l false)), (.pv (.int .i64 n2))]), (1, [(.pv (.int .u64 n3)), (.pv (.int .u64 n4)), (.own 0 0 ((List.map zaa.pv r)).length false), (.own 1 0 (l2).length false), (.own 2 0 ((List.map zac.pv r2)).length false)]), (2, [(.ref 0 0)])], [(0, (.live (.recs 5 (List.map zaa.pv r)))), (1, (.live (.ints .i64 l2))), (2, (.live (.recs 2 (List.map zac.pv r2))))]⟩, .k0 t_.pf (by kernel_rfl), ⟨trivial, ⟨⟨rfl, ⟨.eq rfl, .eq rfl, trivial⟩⟩, ⟨rfl, ⟨.eq rfl, .eq rfl, .eq rfl, .eq rfl, .eq rfl, trivial⟩⟩, ⟨rfl, ⟨.eq rfl, trivial⟩⟩, trivial⟩, ⟨⟨rfl, .eq rfl⟩, ⟨rfl, .eq rfl⟩, ⟨rfl, .eq rfl⟩, trivial⟩⟩⟩
theorem zkl (n3 n4 : Int) (r : List zaa) (l2 : List Int) (s_ : Int × List Int × Int × List zac) (r_ : List Int × Int × List zac) (h : runL (zbQ n3 n4 r l2) s_ = some r_) : zaT Tryz.prog (lEnv Tryz.prog cfg 57 3).nt 3 (.loop (zax Tryz.prog 57 0)) (zfx n3 n4 r l2 s_) (zer n3 n4 r l2 r_).1 (zer n3 n4 r l2 r_).2 :=
 zaJ h (zlg n3 n4 r l2) (by intro r_; rcases r_ with ⟨r1, r2, r3⟩ <;> simp [zer])
noncomputable def zgx (l : List Int) (n n2 n3 : Int) (r : List zaa) (l2 : List Int) (r2 : List zac) : Option (List Int × Int × List zac) :=
 (zcw l n).bind fun (n4, l_, n5) =>
 (runL (zbQ n2 n3 r l2) (n4, l_, n5, r2)).bind fun (l_2, n6, r3) =>
 some (l_2, n6, r3)
theorem zlY (l : List Int) (n n2 n3 : Int) (r : List zaa) (l2 : List Int) (r2 : List zac) (r_ : List Int × Int × List zac) (h : zgx l n n2 n3 r l2 r2 = some r_) : Runs Tryz.prog 57 [(.one (.ref 0 0)), (.one (.fn 61 [(.ref 1 0), (.ref 2 0)]))] [[(.pv (.ints .u8 l false)), (.pv (.int .i64 n))], [(.pv (.int .u64 n2)), (.pv (.int .u64 n3)), (.own 0 0 ((List.map zaa.pv r)).length false), (.own 1 0 (l2).length false), (.own 2 0 ((List.map zac.pv r2)).length false)], [(.ref 0 0)]] [(.recs 5 (List.map zaa.pv r)), (.ints .i64 l2), (.recs 2 (List.map zac.pv r2))] (zmQ l n n2 n3 r l2 r2 r_) := by
 unfold zgx at h
 obtain ⟨⟨n4, l_, n5⟩, h1, h⟩ := zaf h
 obtain ⟨⟨l_2, n6, r3⟩, h2, h⟩ := zaf h
 have h := zad h
 subst h
 have t_ := tR (zau l n _ h1) <| tL (zkl n2 n3 r l2 _ _ h2) <| tN
 exact zah (C := cfg) (sc := t_.ev) (.k0 t_.pf (by kernel_rfl))
def zoN (l : List Int) (n : Int) : Int × Int → Res
 | (r1, r2) => ([(.one (.pv (.int .i64 r1)))], [[(.pv (.ints .u8 l false)), (.pv (.int .i64 r2))]], [])
def zm6 (l : List Int) (n : Int) : Int → Res
 | r1 => ([(.one (.pv (.int .i64 r1)))], [[(.pv (.ints .u8 l false)), (.pv (.int .i64 n))]], [])
noncomputable def zhA (l : List Int) (n : Int) : Option (Int) :=
 some ((l).length : Int)
theorem ziu (l : List Int) (n r_ : Int) (h : zhA l n = some r_) : Runs Tryz.prog 98 [(.one (.ref 0 0))] [[(.pv (.ints .u8 l false)), (.pv (.int .i64 n))]] [] (zm6 l n r_) := by
 unfold zhA at h
 have h := zad h
 subst h
 have t_ := tF (rfl : false = false) <| tN
 exact zah (C := cfg) (sc := t_.ev) (.k0 t_.pf (by kernel_rfl))
noncomputable def zhm (l : List Int) (n : Int) : Option (Int × Int) :=
 (zhA l n).bind fun n2 =>
 bif (decide ((0 : Int) < n2)) then
  (zcl 6 l n).bind fun n3 =>
  (zcv l n3).bind fun _ =>
  some (n3, n3)
 else
  (zcv l n).bind fun _ =>
  some (n, n)
theorem zi1 (l : List Int) (n : Int) (r_ : Int × Int) (h : zhm l n = some r_) : Runs Tryz.prog 62 [(.one (.ref 0 0))] [[(.pv (.ints .u8 l false)), (.pv (.int .i64 n))]] [] (zoN l n r_) := by
 unfold zhm at h
 obtain ⟨n2, h1, h⟩ := zaf h
 rcases zaj h with ⟨h2, h⟩ | ⟨h2, h⟩
 ·obtain ⟨n3, h3, h⟩ := zaf h
  obtain ⟨_, h4, h⟩ := zaf h
  have h := zad h
  subst h
  have t_ := tR (ziu l n _ h1) <| tT h2 <| tR (zbk 6 l n _ h3) <| tR (zat l n3 _ h4) <| tN
  exact zah (C := cfg) (sc := t_.ev) (.k0 t_.pf (by kernel_rfl))
 ·obtain ⟨_, h3, h⟩ := zaf h
  have h := zad h
  subst h
  have t_ := tR (ziu l n _ h1) <| tF h2 <| tR (zat l n _ h3) <| tN
  exact zah (C := cfg) (sc := t_.ev) (.k0 t_.pf (by kernel_rfl))
def zki (p p2 : Int) (p3 : List zaa) (p4 : List Int) (p5 : List zac) : Bool → Res
 | r1 => ([(.one (.pv (.bool r1)))], [], [])
def zfQ (r : List zaa) (n n2 n3 : Int) (r2 : List zaa) (l : List Int) (r3 : List zac) : Int × List (Int × Int) → St
 | (n4, m) => ⟨[(1, (.av (.one (.ref 0 0)))), (3, (.av (.one (.mp 1)))), (15, (.av (.one (.pv (.recs 5 (List.map zaa.pv r) false))))), (16, (.av (.one (.pv (.int .i64 n))))), (17, (.av (.one (.pv (.int .i64 n4)))))], [(0, [(.pv (.int .u64 n2)), (.pv (.int .u64 n3)), (.pv (.recs 5 (List.map zaa.pv r2) false)), (.pv (.ints .i64 l false)), (.pv (.recs 2 (List.map zac.pv r3) false))]), (1, [(.maph (.int .i64) false (List.map M_int_int.pv m) [])])], []⟩
def zc9 (r : List zaa) (n n2 n3 : Int) (r2 : List zaa) (l : List Int) (r3 : List zac) : List (Int × Int) → Ex × St
 | r1 => ((.exit 0), ⟨[(1, (.av (.one (.ref 0 0)))), (3, (.av (.one (.mp 1))))], [(0, [(.pv (.int .u64 n2)), (.pv (.int .u64 n3)), (.pv (.recs 5 (List.map zaa.pv r2) false)), (.pv (.ints .i64 l false)), (.pv (.recs 2 (List.map zac.pv r3) false))]), (1, [(.maph (.int .i64) false (List.map M_int_int.pv r1) [])])], []⟩)
noncomputable def zaZ (r : List zaa) (n n2 n3 : Int) (r2 : List zaa) (l : List Int) (r3 : List zac) : Int × List (Int × Int) → Option ((Int × List (Int × Int)) ⊕ (List (Int × Int)))
 | (n4, m) =>
 bif (decide ((n4 : Int) < n)) then
  bif decide ((0 : Int) ≤ n4) && decide ((n4 : Int) < (((List.map zaa.pv r)).length : Int)) then
  (r[(n4).toNat]?).bind fun e_ => match e_ with
  | .mk n5 n6 n7 b t =>
  match (mget n7 m) with
  | .some n8 =>
   some (.inl ((iadd .i64 n4 1), (mset n7 (iadd .i64 n8 1) m)))
  | .none =>
   some (.inl ((iadd .i64 n4 1), (mset n7 1 m)))
  else none
 else
  some (.inr m)
theorem zjc (r : List zaa) (n n2 n3 : Int) (r2 : List zaa) (l : List Int) (r3 : List zac) (s_ : Int × List (Int × Int)) (z_ : (Int × List (Int × Int)) ⊕ (List (Int × Int))) (h : zaZ r n n2 n3 r2 l r3 s_ = some z_) : zaP Tryz.prog cfg 63 0 (zax Tryz.prog 63 0) (zfQ r n n2 n3 r2 l r3) (zc9 r n n2 n3 r2 l r3) s_ z_ := by
 rcases s_ with ⟨n4, m⟩
 rcases zaj h with ⟨h1, h⟩ | ⟨h1, h⟩
 ·obtain ⟨h2, h⟩ := zaq h
  obtain ⟨⟨n5, n6, n7, b, t⟩, h3, h⟩ := zaf h
  cases h4 : (mget n7 m) with
  | some n8 =>
   simp only [h4] at h
   have h := zad h
   subst h
   have t_ := tT h1 <| tO h2 <| tE (.el [(.int .u64 n5), (.int .i64 n6), (.int .i64 n7), (.bool b), (zab.pv t)]) <| tO (zc0 (f := zaa.pv) h3) <| tT (show kget [(.int .i64 n7)] (List.map M_int_int.pv m) = some [(.int .i64 n8)] from by first | (simp only [M_deed_Mark_int.set, M_int_int.set, M_deed_Mark_int.get, M_int_int.get, h4, Option.map_some, Option.map_none]; done) | (simp only [M_deed_Mark_int.set, M_int_int.set, M_deed_Mark_int.get, M_int_int.get, h4, Option.map_some, Option.map_none]; rfl) | (rw [← List.map_nil]; simp only [M_deed_Mark_int.set, M_int_int.set, M_deed_Mark_int.get, M_int_int.get, h4, Option.map_some, Option.map_none]; rfl)) <| tE (.el [(.int .i64 n8)]) <| tN
   exact ⟨t_.ev, ⟨[(1, (.av (.one (.ref 0 0)))), (3, (.av (.one (.mp 1)))), (15, (.av (.one (.pv (.recs 5 (List.map zaa.pv r) false))))), (16, (.av (.one (.pv (.int .i64 n))))), (17, (.av (.one (.pv (.int .i64 (iadd .i64 n4 1))))))], [(0, [(.pv (.int .u64 n2)), (.pv (.int .u64 n3)), (.pv (.recs 5 (List.map zaa.pv r2) false)), (.pv (.ints .i64 l false)), (.pv (.recs 2 (List.map zac.pv r3) false))]), (1, [(.maph (.int .i64) false (kset [(.int .i64 n7)] [(.int .i64 (iadd .i64 n8 1))] (List.map M_int_int.pv m)) [])])], []⟩, .k0 t_.pf (by kernel_rfl), ⟨⟨⟨_, rfl, .eq rfl⟩, ⟨_, rfl, .eq rfl⟩, ⟨_, rfl, .eq rfl⟩, ⟨_, rfl, .eq rfl⟩, ⟨_, rfl, .eq rfl⟩, trivial⟩, ⟨⟨rfl, ⟨.eq rfl, .eq rfl, .eq rfl, .eq rfl, .eq rfl, trivial⟩⟩, ⟨rfl, ⟨.maph (WkEs.to (WkEs.set (.cons (.eq rfl) (.nil)) (WkEs.refl _)) (by first | rfl | (simp only [M_deed_Mark_int.set, M_int_int.set]; done) | (simp only [M_deed_Mark_int.set, M_int_int.set, kset, kdel]; rfl))), trivial⟩⟩, trivial⟩, trivial⟩⟩
  | none =>
   simp only [h4] at h
   have h := zad h
   subst h
   have t_ := tT h1 <| tO h2 <| tE (.el [(.int .u64 n5), (.int .i64 n6), (.int .i64 n7), (.bool b), (zab.pv t)]) <| tO (zc0 (f := zaa.pv) h3) <| tF (show kget [(.int .i64 n7)] (List.map M_int_int.pv m) = none from by first | (simp only [M_deed_Mark_int.set, M_int_int.set, M_deed_Mark_int.get, M_int_int.get, h4, Option.map_some, Option.map_none]; done) | (simp only [M_deed_Mark_int.set, M_int_int.set, M_deed_Mark_int.get, M_int_int.get, h4, Option.map_some, Option.map_none]; rfl) | (rw [← List.map_nil]; simp only [M_deed_Mark_int.set, M_int_int.set, M_deed_Mark_int.get, M_int_int.get, h4, Option.map_some, Option.map_none]; rfl)) <| tN
   exact ⟨t_.ev, ⟨[(1, (.av (.one (.ref 0 0)))), (3, (.av (.one (.mp 1)))), (15, (.av (.one (.pv (.recs 5 (List.map zaa.pv r) false))))), (16, (.av (.one (.pv (.int .i64 n))))), (17, (.av (.one (.pv (.int .i64 (iadd .i64 n4 1))))))], [(0, [(.pv (.int .u64 n2)), (.pv (.int .u64 n3)), (.pv (.recs 5 (List.map zaa.pv r2) false)), (.pv (.ints .i64 l false)), (.pv (.recs 2 (List.map zac.pv r3) false))]), (1, [(.maph (.int .i64) false (kset [(.int .i64 n7)] [(.int .i64 1)] (List.map M_int_int.pv m)) [])])], []⟩, .k0 t_.pf (by kernel_rfl), ⟨⟨⟨_, rfl, .eq rfl⟩, ⟨_, rfl, .eq rfl⟩, ⟨_, rfl, .eq rfl⟩, ⟨_, rfl, .eq rfl⟩, ⟨_, rfl, .eq rfl⟩, trivial⟩, ⟨⟨rfl, ⟨.eq rfl, .eq rfl, .eq rfl, .eq rfl, .eq rfl, trivial⟩⟩, ⟨rfl, ⟨.maph (WkEs.to (WkEs.set (.cons (.eq rfl) (.nil)) (WkEs.refl _)) (by first | rfl | (simp only [M_deed_Mark_int.set, M_int_int.set]; done) | (simp only [M_deed_Mark_int.set, M_int_int.set, kset, kdel]; rfl))), trivial⟩⟩, trivial⟩, trivial⟩⟩
 ·have h := zad h
  subst h
  have t_ := tF h1 <| tN
  exact ⟨t_.ev, ⟨[(18, (.av (.one (.pv (.bool false))))), (1, (.av (.one (.ref 0 0)))), (3, (.av (.one (.mp 1)))), (15, (.av (.one (.pv (.recs 5 (List.map zaa.pv r) false))))), (16, (.av (.one (.pv (.int .i64 n))))), (17, (.av (.one (.pv (.int .i64 n4))))), (18, (.av (.one (.pv (.bool (decide ((n4 : Int) < n)))))))], [(0, [(.pv (.int .u64 n2)), (.pv (.int .u64 n3)), (.pv (.recs 5 (List.map zaa.pv r2) false)), (.pv (.ints .i64 l false)), (.pv (.recs 2 (List.map zac.pv r3) false))]), (1, [(.maph (.int .i64) false (List.map M_int_int.pv m) [])])], []⟩, .k0 t_.pf (by kernel_rfl), ⟨⟨⟨_, rfl, .eq rfl⟩, ⟨_, rfl, .eq rfl⟩, trivial⟩, ⟨⟨rfl, ⟨.eq rfl, .eq rfl, .eq rfl, .eq rfl, .eq rfl, trivial⟩⟩, ⟨rfl, ⟨.eq rfl, trivial⟩⟩, trivial⟩, trivial⟩⟩
theorem zhY (r : List zaa) (n n2 n3 : Int) (r2 : List zaa) (l : List Int) (r3 : List zac) (s_ : Int × List (Int × Int)) (r_ : List (Int × Int)) (h : runL (zaZ r n n2 n3 r2 l r3) s_ = some r_) : zaT Tryz.prog (lEnv Tryz.prog cfg 63 0).nt 0 (.loop (zax Tryz.prog 63 0)) (zfQ r n n2 n3 r2 l r3 s_) (zc9 r n n2 n3 r2 l r3 r_).1 (zc9 r n n2 n3 r2 l r3 r_).2 :=
 zaJ h (zjc r n n2 n3 r2 l r3) (by intro r_; rcases r_ with r1 <;> simp [zc9])
def zh5 (l : List zaa) : Bool → Res
 | r1 => ([(.one (.pv (.bool r1)))], [], [])
def zjb (a a2 a3 : Int) (a4 : Bool) (a5 : zab) (b b2 b3 : Int) (b4 : Bool) (b5 : zab) : Int → Res
 | r1 => ([(.one (.pv (.int .i64 r1)))], [], [])
noncomputable def zen (a a2 a3 : Int) (a4 : Bool) (a5 : zab) (b b2 b3 : Int) (b4 : Bool) (b5 : zab) : Option (Int) :=
 (zbR a b).bind fun n =>
 some n
theorem ziG (a a2 a3 : Int) (a4 : Bool) (a5 : zab) (b b2 b3 : Int) (b4 : Bool) (b5 : zab) (r_ : Int) (h : zen a a2 a3 a4 a5 b b2 b3 b4 b5 = some r_) : Runs Tryz.prog 100 [(.agg [(.pv (.int .u64 a)), (.pv (.int .i64 a2)), (.pv (.int .i64 a3)), (.pv (.bool a4)), (.pv (zab.pv a5))]), (.agg [(.pv (.int .u64 b)), (.pv (.int .i64 b2)), (.pv (.int .i64 b3)), (.pv (.bool b4)), (.pv (zab.pv b5))])] [] [] (zjb a a2 a3 a4 a5 b b2 b3 b4 b5 r_) := by
 unfold zen at h
 obtain ⟨n, h1, h⟩ := zaf h
 have h := zad h
 subst h
 have t_ := tR (zfn a b _ h1) <| tN
 exact zah (C := cfg) (sc := t_.ev) (.k0 t_.pf (by kernel_rfl))
def zdi (l : List zaa) : Int → St
 | i => ⟨[(0, (.av (.one (.pv (.recs 5 (List.map zaa.pv l) false))))), (1, (.av (.one (.fn 100 [])))), (5, (.av (.one (.pv (.int .i64 i)))))], [], []⟩
def zbL (l : List zaa) : (Unit) ⊕ (Unit) → Ex × St
 | .inl _ => (.ret, ⟨[(4, (.av (.one (.pv (.bool false)))))], [], []⟩)
 | .inr _ => ((.exit 0), ⟨[], [], []⟩)
noncomputable def za5 (l : List zaa) : Int → Option ((Int) ⊕ ((Unit) ⊕ (Unit)))
 | i =>
 bif (decide ((i : Int) < (((List.map zaa.pv l)).length : Int))) then
  bif decide ((0 : Int) ≤ (isub .i64 i 1)) && decide (((isub .i64 i 1) : Int) < (((List.map zaa.pv l)).length : Int)) then
  (l[((isub .i64 i 1)).toNat]?).bind fun e_ => match e_ with
  | .mk n n2 n3 b t =>
  bif decide ((0 : Int) ≤ i) && decide ((i : Int) < (((List.map zaa.pv l)).length : Int)) then
  (l[(i).toNat]?).bind fun e_ => match e_ with
  | .mk n4 n5 n6 b2 t2 =>
  (zen n n2 n3 b t n4 n5 n6 b2 t2).bind fun n7 =>
  bif (decide ((0 : Int) ≤ n7)) then
   some (.inr (.inl ()))
  else
   some (.inl (iadd .i64 i 1))
  else none
  else none
 else
  some (.inr (.inr ()))
theorem zho (l : List zaa) (i : Int) (z_ : (Int) ⊕ ((Unit) ⊕ (Unit))) (h : za5 l i = some z_) : zaP Tryz.prog cfg 99 0 (zax Tryz.prog 99 0) (zdi l) (zbL l) i z_ := by
 rcases zaj h with ⟨h1, h⟩ | ⟨h1, h⟩
 ·obtain ⟨h2, h⟩ := zaq h
  obtain ⟨⟨n, n2, n3, b, t⟩, h3, h⟩ := zaf h
  obtain ⟨h4, h⟩ := zaq h
  obtain ⟨⟨n4, n5, n6, b2, t2⟩, h5, h⟩ := zaf h
  obtain ⟨n7, h6, h⟩ := zaf h
  have q_6 := (ziG n n2 n3 b t n4 n5 n6 b2 t2 _ h6)
  rcases zaj h with ⟨h7, h⟩ | ⟨h7, h⟩
  ·have h := zad h
   subst h
   have t_ := tT h1 <| tO h2 <| tE (.el [(.int .u64 n), (.int .i64 n2), (.int .i64 n3), (.bool b), (zab.pv t)]) <| tO (zc0 (f := zaa.pv) h3) <| tO h4 <| tE (.el [(.int .u64 n4), (.int .i64 n5), (.int .i64 n6), (.bool b2), (zab.pv t2)]) <| tO (zc0 (f := zaa.pv) h5) <| tR q_6 <| tT h7 <| tN
   exact ⟨t_.ev, (zbL l (.inl ())).2, .k0 t_.pf (by kernel_rfl), .same (by kernel_rfl)⟩
  ·have h := zad h
   subst h
   have t_ := tT h1 <| tO h2 <| tE (.el [(.int .u64 n), (.int .i64 n2), (.int .i64 n3), (.bool b), (zab.pv t)]) <| tO (zc0 (f := zaa.pv) h3) <| tO h4 <| tE (.el [(.int .u64 n4), (.int .i64 n5), (.int .i64 n6), (.bool b2), (zab.pv t2)]) <| tO (zc0 (f := zaa.pv) h5) <| tR q_6 <| tF h7 <| tN
   exact ⟨t_.ev, zdi l (iadd .i64 i 1), .k0 t_.pf (by kernel_rfl), .same (by kernel_rfl)⟩
 ·have h := zad h
  subst h
  have t_ := tF h1 <| tN
  exact ⟨t_.ev, ⟨[(9, (.av (.one (.pv (.bool false))))), (0, (.av (.one (.pv (.recs 5 (List.map zaa.pv l) false))))), (1, (.av (.one (.fn 100 [])))), (5, (.av (.one (.pv (.int .i64 i))))), (9, (.av (.one (.pv (.bool (decide ((i : Int) < (((List.map zaa.pv l)).length : Int))))))))], [], []⟩, .k0 t_.pf (by kernel_rfl), ⟨trivial, trivial, trivial⟩⟩
theorem zeo (l : List zaa) (s_ : Int) (r_ : (Unit) ⊕ (Unit)) (h : runL (za5 l) s_ = some r_) : zaT Tryz.prog (lEnv Tryz.prog cfg 99 0).nt 0 (.loop (zax Tryz.prog 99 0)) (zdi l s_) (zbL l r_).1 (zbL l r_).2 :=
 zaJ h (zho l) (by intro r_; rcases r_ with _ | _ <;> simp [zbL])
noncomputable def zcR (l : List zaa) : Option (Bool) :=
 (runL (za5 l) 1).bind fun z_ => match z_ with
 | .inl _ =>
  some false
 | .inr _ =>
  some true
theorem zdB (l : List zaa) (r_ : Bool) (h : zcR l = some r_) : Runs Tryz.prog 99 [(.one (.pv (.recs 5 (List.map zaa.pv l) false))), (.one (.fn 100 []))] [] [] (zh5 l r_) := by
 unfold zcR at h
 obtain ⟨z_, h1, h⟩ := zaf h
 rcases z_ with _ | _
 ·have h := zad h
  subst h
  have t_ := tL (zeo l _ _ h1) <| tN
  exact zah (C := cfg) (sc := t_.ev) (.k0 t_.pf (by kernel_rfl))
 ·have h := zad h
  subst h
  have t_ := tL (zeo l _ _ h1) <| tN
  exact zah (C := cfg) (sc := t_.ev) (.k0 t_.pf (by kernel_rfl))
def zle (l : List Int) : Bool → Res
 | r1 => ([(.one (.pv (.bool r1)))], [], [])
def zeY (l : List Int) : Int → St
 | i => ⟨[(0, (.av (.one (.pv (.ints .i64 l false))))), (1, (.av (.one (.fn 91 [])))), (5, (.av (.one (.pv (.int .i64 i)))))], [], []⟩
def zcT (l : List Int) : (Unit) ⊕ (Unit) → Ex × St
 | .inl _ => (.ret, ⟨[(4, (.av (.one (.pv (.bool false)))))], [], []⟩)
 | .inr _ => ((.exit 0), ⟨[], [], []⟩)
noncomputable def zbU (l : List Int) : Int → Option ((Int) ⊕ ((Unit) ⊕ (Unit)))
 | i =>
 bif (decide ((i : Int) < ((l).length : Int))) then
  bif decide ((0 : Int) ≤ (isub .i64 i 1)) && decide (((isub .i64 i 1) : Int) < ((l).length : Int)) then
  bif decide ((0 : Int) ≤ i) && decide ((i : Int) < ((l).length : Int)) then
  (zcA (l.getD ((isub .i64 i 1)).toNat 0) (l.getD (i).toNat 0)).bind fun n =>
  bif (decide ((0 : Int) ≤ n)) then
   some (.inr (.inl ()))
  else
   some (.inl (iadd .i64 i 1))
  else none
  else none
 else
  some (.inr (.inr ()))
theorem zkj (l : List Int) (i : Int) (z_ : (Int) ⊕ ((Unit) ⊕ (Unit))) (h : zbU l i = some z_) : zaP Tryz.prog cfg 101 0 (zax Tryz.prog 101 0) (zeY l) (zcT l) i z_ := by
 rcases zaj h with ⟨h1, h⟩ | ⟨h1, h⟩
 ·obtain ⟨h2, h⟩ := zaq h
  obtain ⟨h3, h⟩ := zaq h
  obtain ⟨n, h4, h⟩ := zaf h
  have q_4 := (zcP (l.getD ((isub .i64 i 1)).toNat 0) (l.getD (i).toNat 0) _ h4)
  rcases zaj h with ⟨h5, h⟩ | ⟨h5, h⟩
  ·have h := zad h
   subst h
   have t_ := tT h1 <| tO h2 <| tO h3 <| tR q_4 <| tT h5 <| tN
   exact ⟨t_.ev, (zcT l (.inl ())).2, .k0 t_.pf (by kernel_rfl), .same (by kernel_rfl)⟩
  ·have h := zad h
   subst h
   have t_ := tT h1 <| tO h2 <| tO h3 <| tR q_4 <| tF h5 <| tN
   exact ⟨t_.ev, zeY l (iadd .i64 i 1), .k0 t_.pf (by kernel_rfl), .same (by kernel_rfl)⟩
 ·have h := zad h
  subst h
  have t_ := tF h1 <| tN
  exact ⟨t_.ev, ⟨[(9, (.av (.one (.pv (.bool false))))), (0, (.av (.one (.pv (.ints .i64 l false))))), (1, (.av (.one (.fn 91 [])))), (5, (.av (.one (.pv (.int .i64 i))))), (9, (.av (.one (.pv (.bool (decide ((i : Int) < ((l).length : Int))))))))], [], []⟩, .k0 t_.pf (by kernel_rfl), ⟨trivial, trivial, trivial⟩⟩
theorem zfR (l : List Int) (s_ : Int) (r_ : (Unit) ⊕ (Unit)) (h : runL (zbU l) s_ = some r_) : zaT Tryz.prog (lEnv Tryz.prog cfg 101 0).nt 0 (.loop (zax Tryz.prog 101 0)) (zeY l s_) (zcT l r_).1 (zcT l r_).2 :=
 zaJ h (zkj l) (by intro r_; rcases r_ with _ | _ <;> simp [zcT])
noncomputable def ze1 (l : List Int) : Option (Bool) :=
 (runL (zbU l) 1).bind fun z_ => match z_ with
 | .inl _ =>
  some false
 | .inr _ =>
  some true
theorem zg4 (l : List Int) (r_ : Bool) (h : ze1 l = some r_) : Runs Tryz.prog 101 [(.one (.pv (.ints .i64 l false))), (.one (.fn 91 []))] [] [] (zle l r_) := by
 unfold ze1 at h
 obtain ⟨z_, h1, h⟩ := zaf h
 rcases z_ with _ | _
 ·have h := zad h
  subst h
  have t_ := tL (zfR l _ _ h1) <| tN
  exact zah (C := cfg) (sc := t_.ev) (.k0 t_.pf (by kernel_rfl))
 ·have h := zad h
  subst h
  have t_ := tL (zfR l _ _ h1) <| tN
  exact zah (C := cfg) (sc := t_.ev) (.k0 t_.pf (by kernel_rfl))
def zh6 (l : List zac) : Bool → Res
 | r1 => ([(.one (.pv (.bool r1)))], [], [])
def zdj (l : List zac) : Int → St
 | i => ⟨[(0, (.av (.one (.pv (.recs 2 (List.map zac.pv l) false))))), (1, (.av (.one (.fn 53 [])))), (5, (.av (.one (.pv (.int .i64 i)))))], [], []⟩
def zbM (l : List zac) : (Unit) ⊕ (Unit) → Ex × St
 | .inl _ => (.ret, ⟨[(4, (.av (.one (.pv (.bool false)))))], [], []⟩)
 | .inr _ => ((.exit 0), ⟨[], [], []⟩)
noncomputable def za6 (l : List zac) : Int → Option ((Int) ⊕ ((Unit) ⊕ (Unit)))
 | i =>
 bif (decide ((i : Int) < (((List.map zac.pv l)).length : Int))) then
  bif decide ((0 : Int) ≤ (isub .i64 i 1)) && decide (((isub .i64 i 1) : Int) < (((List.map zac.pv l)).length : Int)) then
  (l[((isub .i64 i 1)).toNat]?).bind fun e_ => match e_ with
  | .mk n n2 =>
  bif decide ((0 : Int) ≤ i) && decide ((i : Int) < (((List.map zac.pv l)).length : Int)) then
  (l[(i).toNat]?).bind fun e_ => match e_ with
  | .mk n3 n4 =>
  (zfU n n2 n3 n4).bind fun n5 =>
  bif (decide ((0 : Int) ≤ n5)) then
   some (.inr (.inl ()))
  else
   some (.inl (iadd .i64 i 1))
  else none
  else none
 else
  some (.inr (.inr ()))
theorem zhp (l : List zac) (i : Int) (z_ : (Int) ⊕ ((Unit) ⊕ (Unit))) (h : za6 l i = some z_) : zaP Tryz.prog cfg 102 0 (zax Tryz.prog 102 0) (zdj l) (zbM l) i z_ := by
 rcases zaj h with ⟨h1, h⟩ | ⟨h1, h⟩
 ·obtain ⟨h2, h⟩ := zaq h
  obtain ⟨⟨n, n2⟩, h3, h⟩ := zaf h
  obtain ⟨h4, h⟩ := zaq h
  obtain ⟨⟨n3, n4⟩, h5, h⟩ := zaf h
  obtain ⟨n5, h6, h⟩ := zaf h
  rcases zaj h with ⟨h7, h⟩ | ⟨h7, h⟩
  ·have h := zad h
   subst h
   have t_ := tT h1 <| tO h2 <| tE (.el [(.int .i64 n), (.int .u64 n2)]) <| tO (zc0 (f := zac.pv) h3) <| tO h4 <| tE (.el [(.int .i64 n3), (.int .u64 n4)]) <| tO (zc0 (f := zac.pv) h5) <| tR (zg3 n n2 n3 n4 _ h6) <| tT h7 <| tN
   exact ⟨t_.ev, (zbM l (.inl ())).2, .k0 t_.pf (by kernel_rfl), .same (by kernel_rfl)⟩
  ·have h := zad h
   subst h
   have t_ := tT h1 <| tO h2 <| tE (.el [(.int .i64 n), (.int .u64 n2)]) <| tO (zc0 (f := zac.pv) h3) <| tO h4 <| tE (.el [(.int .i64 n3), (.int .u64 n4)]) <| tO (zc0 (f := zac.pv) h5) <| tR (zg3 n n2 n3 n4 _ h6) <| tF h7 <| tN
   exact ⟨t_.ev, zdj l (iadd .i64 i 1), .k0 t_.pf (by kernel_rfl), .same (by kernel_rfl)⟩
 ·have h := zad h
  subst h
  have t_ := tF h1 <| tN
  exact ⟨t_.ev, ⟨[(9, (.av (.one (.pv (.bool false))))), (0, (.av (.one (.pv (.recs 2 (List.map zac.pv l) false))))), (1, (.av (.one (.fn 53 [])))), (5, (.av (.one (.pv (.int .i64 i))))), (9, (.av (.one (.pv (.bool (decide ((i : Int) < (((List.map zac.pv l)).length : Int))))))))], [], []⟩, .k0 t_.pf (by kernel_rfl), ⟨trivial, trivial, trivial⟩⟩
theorem zep (l : List zac) (s_ : Int) (r_ : (Unit) ⊕ (Unit)) (h : runL (za6 l) s_ = some r_) : zaT Tryz.prog (lEnv Tryz.prog cfg 102 0).nt 0 (.loop (zax Tryz.prog 102 0)) (zdj l s_) (zbM l r_).1 (zbM l r_).2 :=
 zaJ h (zhp l) (by intro r_; rcases r_ with _ | _ <;> simp [zbM])
noncomputable def zcS (l : List zac) : Option (Bool) :=
 (runL (za6 l) 1).bind fun z_ => match z_ with
 | .inl _ =>
  some false
 | .inr _ =>
  some true
theorem zhG (l : List zac) (r_ : Bool) (h : zcS l = some r_) : Runs Tryz.prog 102 [(.one (.pv (.recs 2 (List.map zac.pv l) false))), (.one (.fn 53 []))] [] [] (zh6 l r_) := by
 unfold zcS at h
 obtain ⟨z_, h1, h⟩ := zaf h
 rcases z_ with _ | _
 ·have h := zad h
  subst h
  have t_ := tL (zep l _ _ h1) <| tN
  exact zah (C := cfg) (sc := t_.ev) (.k0 t_.pf (by kernel_rfl))
 ·have h := zad h
  subst h
  have t_ := tL (zep l _ _ h1) <| tN
  exact zah (C := cfg) (sc := t_.ev) (.k0 t_.pf (by kernel_rfl))
def zkR (p p2 : Int) (p3 : List zaa) (p4 : List Int) (p5 : List zac) (g g2 g3 : Int) (g4 : Bool) (g5 : zab) : Bool → Res
 | r1 => ([(.one (.pv (.bool r1)))], [], [])
def ziV (s : List Int) (v : Int) : Bool → Res
 | r1 => ([(.one (.pv (.bool r1)))], [], [])
def zko (s : List Int) (v : Int) : Int → Res
 | r1 => ([(.one (.pv (.int .i64 r1)))], [], [])
def zek (s : List Int) (v n : Int) : Int → St
 | n2 => ⟨[(0, (.av (.one (.pv (.ints .i64 s false))))), (1, (.av (.one (.pv (.int .i64 v))))), (7, (.av (.one (.pv (.int .i64 n))))), (8, (.av (.one (.pv (.int .i64 n2)))))], [], []⟩
def zco (s : List Int) (v n : Int) : (Int) ⊕ (Unit) → Ex × St
 | .inl r1 => (.ret, ⟨[(4, (.av (.one (.pv (.int .i64 r1)))))], [], []⟩)
 | .inr _ => ((.exit 0), ⟨[], [], []⟩)
noncomputable def zbs (s : List Int) (v n : Int) : Int → Option ((Int) ⊕ ((Int) ⊕ (Unit)))
 | n2 =>
 bif (decide ((n2 : Int) < n)) then
  bif decide ((0 : Int) ≤ n2) && decide ((n2 : Int) < ((s).length : Int)) then
  bif (decide ((v : Int) = (s.getD (n2).toNat 0))) then
   some (.inr (.inl n2))
  else
   some (.inl (iadd .i64 n2 1))
  else none
 else
  some (.inr (.inr ()))
theorem zjj (s : List Int) (v n n2 : Int) (z_ : (Int) ⊕ ((Int) ⊕ (Unit))) (h : zbs s v n n2 = some z_) : zaP Tryz.prog cfg 157 0 (zax Tryz.prog 157 0) (zek s v n) (zco s v n) n2 z_ := by
 rcases zaj h with ⟨h1, h⟩ | ⟨h1, h⟩
 ·obtain ⟨h2, h⟩ := zaq h
  rcases zaj h with ⟨h3, h⟩ | ⟨h3, h⟩
  ·have h := zad h
   subst h
   have t_ := tT h1 <| tO h2 <| tT h3 <| tN
   exact ⟨t_.ev, (zco s v n (.inl n2)).2, .k0 t_.pf (by kernel_rfl), .same (by kernel_rfl)⟩
  ·have h := zad h
   subst h
   have t_ := tT h1 <| tO h2 <| tF h3 <| tN
   exact ⟨t_.ev, zek s v n (iadd .i64 n2 1), .k0 t_.pf (by kernel_rfl), .same (by kernel_rfl)⟩
 ·have h := zad h
  subst h
  have t_ := tF h1 <| tN
  exact ⟨t_.ev, ⟨[(9, (.av (.one (.pv (.bool false))))), (0, (.av (.one (.pv (.ints .i64 s false))))), (1, (.av (.one (.pv (.int .i64 v))))), (7, (.av (.one (.pv (.int .i64 n))))), (8, (.av (.one (.pv (.int .i64 n2))))), (9, (.av (.one (.pv (.bool (decide ((n2 : Int) < n)))))))], [], []⟩, .k0 t_.pf (by kernel_rfl), ⟨trivial, trivial, trivial⟩⟩
theorem zfl (s : List Int) (v n s_ : Int) (r_ : (Int) ⊕ (Unit)) (h : runL (zbs s v n) s_ = some r_) : zaT Tryz.prog (lEnv Tryz.prog cfg 157 0).nt 0 (.loop (zax Tryz.prog 157 0)) (zek s v n s_) (zco s v n r_).1 (zco s v n r_).2 :=
 zaJ h (zjj s v n) (by intro r_; rcases r_ with r1 | _ <;> simp [zco])
noncomputable def zfc (s : List Int) (v : Int) : Option (Int) :=
 (runL (zbs s v ((s).length : Int)) 0).bind fun z_ => match z_ with
 | .inl n =>
  some n
 | .inr _ =>
  some (-1)
theorem zjS (s : List Int) (v r_ : Int) (h : zfc s v = some r_) : Runs Tryz.prog 157 [(.one (.pv (.ints .i64 s false))), (.one (.pv (.int .i64 v)))] [] [] (zko s v r_) := by
 unfold zfc at h
 obtain ⟨z_, h1, h⟩ := zaf h
 rcases z_ with n | _
 ·have h := zad h
  subst h
  have t_ := tL (zfl s v ((s).length : Int) _ _ h1) <| tN
  exact zah (C := cfg) (sc := t_.ev) (.k0 t_.pf (by kernel_rfl))
 ·have h := zad h
  subst h
  have t_ := tL (zfl s v ((s).length : Int) _ _ h1) <| tN
  exact zah (C := cfg) (sc := t_.ev) (.k0 t_.pf (by kernel_rfl))
noncomputable def zc5 (s : List Int) (v : Int) : Option (Bool) :=
 (zfc s v).bind fun n =>
 some (decide ((0 : Int) ≤ n))
theorem zir (s : List Int) (v : Int) (r_ : Bool) (h : zc5 s v = some r_) : Runs Tryz.prog 128 [(.one (.pv (.ints .i64 s false))), (.one (.pv (.int .i64 v)))] [] [] (ziV s v r_) := by
 unfold zc5 at h
 obtain ⟨n, h1, h⟩ := zaf h
 have h := zad h
 subst h
 have t_ := tR (zjS s v _ h1) <| tN
 exact zah (C := cfg) (sc := t_.ev) (.k0 t_.pf (by kernel_rfl))
noncomputable def zfv (p p2 : Int) (p3 : List zaa) (p4 : List Int) (p5 : List zac) (g g2 g3 : Int) (g4 : Bool) (g5 : zab) : Option (Bool) :=
 (zbV g g2 g3 g4 g5).bind fun b =>
 bif b then
  bif (decide (((IntKind.u64.wrap g2) : Int) = p)) then
   bif (decide ((g : Int) ≤ p2)) then
    (zc5 p4 g3).bind fun b2 =>
    some b2
   else
    some false
  else
   some false
 else
  some false
theorem zkg (p p2 : Int) (p3 : List zaa) (p4 : List Int) (p5 : List zac) (g g2 g3 : Int) (g4 : Bool) (g5 : zab) (r_ : Bool) (h : zfv p p2 p3 p4 p5 g g2 g3 g4 g5 = some r_) : Runs Tryz.prog 103 [(.agg [(.pv (.int .u64 p)), (.pv (.int .u64 p2)), (.pv (.recs 5 (List.map zaa.pv p3) false)), (.pv (.ints .i64 p4 false)), (.pv (.recs 2 (List.map zac.pv p5) false))]), (.agg [(.pv (.int .u64 g)), (.pv (.int .i64 g2)), (.pv (.int .i64 g3)), (.pv (.bool g4)), (.pv (zab.pv g5))])] [] [] (zkR p p2 p3 p4 p5 g g2 g3 g4 g5 r_) := by
 unfold zfv at h
 obtain ⟨b, h1, h⟩ := zaf h
 rcases zaj h with ⟨h2, h⟩ | ⟨h2, h⟩
 ·rcases zaj h with ⟨h3, h⟩ | ⟨h3, h⟩
  ·rcases zaj h with ⟨h4, h⟩ | ⟨h4, h⟩
   ·obtain ⟨b2, h5, h⟩ := zaf h
    have h := zad h
    subst h
    have t_ := tR (zcQ g g2 g3 g4 g5 _ h1) <| tT h2 <| tT h3 <| tT h4 <| tR (zir p4 g3 _ h5) <| tN
    exact zah (C := cfg) (sc := t_.ev) (.k0 t_.pf (by kernel_rfl))
   ·have h := zad h
    subst h
    have t_ := tR (zcQ g g2 g3 g4 g5 _ h1) <| tT h2 <| tT h3 <| tF h4 <| tN
    exact zah (C := cfg) (sc := t_.ev) (.k0 t_.pf (by kernel_rfl))
  ·have h := zad h
   subst h
   have t_ := tR (zcQ g g2 g3 g4 g5 _ h1) <| tT h2 <| tF h3 <| tF (rfl : false = false) <| tN
   exact zah (C := cfg) (sc := t_.ev) (.k0 t_.pf (by kernel_rfl))
 ·have h := zad h
  subst h
  have t_ := tR (zcQ g g2 g3 g4 g5 _ h1) <| tF h2 <| tF (rfl : false = false) <| tF (rfl : false = false) <| tN
  exact zah (C := cfg) (sc := t_.ev) (.k0 t_.pf (by kernel_rfl))
def zdb (r : List zaa) (n n2 n3 : Int) (r2 : List zaa) (l : List Int) (r3 : List zac) : Bool × Int → St
 | (ok, n4) => ⟨[(1, (.av (.one (.ref 0 0)))), (6, (.av (.one (.pv (.bool ok))))), (60, (.av (.one (.pv (.recs 5 (List.map zaa.pv r) false))))), (61, (.av (.one (.pv (.int .i64 n))))), (62, (.av (.one (.pv (.int .i64 n4)))))], [(0, [(.pv (.int .u64 n2)), (.pv (.int .u64 n3)), (.pv (.recs 5 (List.map zaa.pv r2) false)), (.pv (.ints .i64 l false)), (.pv (.recs 2 (List.map zac.pv r3) false))])], []⟩
def zda (r : List zaa) (n n2 n3 : Int) (r2 : List zaa) (l : List Int) (r3 : List zac) : Bool → Ex × St
 | r1 => ((.exit 2), ⟨[(1, (.av (.one (.ref 0 0)))), (6, (.av (.one (.pv (.bool r1)))))], [(0, [(.pv (.int .u64 n2)), (.pv (.int .u64 n3)), (.pv (.recs 5 (List.map zaa.pv r2) false)), (.pv (.ints .i64 l false)), (.pv (.recs 2 (List.map zac.pv r3) false))])], []⟩)
noncomputable def zbp (r : List zaa) (n n2 n3 : Int) (r2 : List zaa) (l : List Int) (r3 : List zac) : Bool × Int → Option ((Bool × Int) ⊕ (Bool))
 | (ok, n4) =>
 bif (decide ((n4 : Int) < n)) then
  bif decide ((0 : Int) ≤ n4) && decide ((n4 : Int) < (((List.map zaa.pv r)).length : Int)) then
  (r[(n4).toNat]?).bind fun e_ => match e_ with
  | .mk n5 n6 n7 b t =>
  bif ok then
   (zfv n2 n3 r2 l r3 n5 n6 n7 b t).bind fun b2 =>
   some (.inl (b2, (iadd .i64 n4 1)))
  else
   some (.inl (false, (iadd .i64 n4 1)))
  else none
 else
  some (.inr ok)
theorem zjd (r : List zaa) (n n2 n3 : Int) (r2 : List zaa) (l : List Int) (r3 : List zac) (s_ : Bool × Int) (z_ : (Bool × Int) ⊕ (Bool)) (h : zbp r n n2 n3 r2 l r3 s_ = some z_) : zaP Tryz.prog cfg 63 0 (zax Tryz.prog 63 1) (zdb r n n2 n3 r2 l r3) (zda r n n2 n3 r2 l r3) s_ z_ := by
 rcases s_ with ⟨ok, n4⟩
 rcases zaj h with ⟨h1, h⟩ | ⟨h1, h⟩
 ·obtain ⟨h2, h⟩ := zaq h
  obtain ⟨⟨n5, n6, n7, b, t⟩, h3, h⟩ := zaf h
  rcases zaj h with ⟨h4, h⟩ | ⟨h4, h⟩
  ·obtain ⟨b2, h5, h⟩ := zaf h
   have h := zad h
   subst h
   have t_ := tT h1 <| tO h2 <| tE (.el [(.int .u64 n5), (.int .i64 n6), (.int .i64 n7), (.bool b), (zab.pv t)]) <| tO (zc0 (f := zaa.pv) h3) <| tT h4 <| tR (zkg n2 n3 r2 l r3 n5 n6 n7 b t _ h5) <| tN
   exact ⟨t_.ev, zdb r n n2 n3 r2 l r3 (b2, (iadd .i64 n4 1)), .k0 t_.pf (by kernel_rfl), .same (by kernel_rfl)⟩
  ·have h := zad h
   subst h
   have t_ := tT h1 <| tO h2 <| tE (.el [(.int .u64 n5), (.int .i64 n6), (.int .i64 n7), (.bool b), (zab.pv t)]) <| tO (zc0 (f := zaa.pv) h3) <| tF h4 <| tN
   exact ⟨t_.ev, zdb r n n2 n3 r2 l r3 (false, (iadd .i64 n4 1)), .k0 t_.pf (by kernel_rfl), .same (by kernel_rfl)⟩
 ·have h := zad h
  subst h
  have t_ := tF h1 <| tN
  exact ⟨t_.ev, ⟨[(63, (.av (.one (.pv (.bool false))))), (1, (.av (.one (.ref 0 0)))), (6, (.av (.one (.pv (.bool ok))))), (60, (.av (.one (.pv (.recs 5 (List.map zaa.pv r) false))))), (61, (.av (.one (.pv (.int .i64 n))))), (62, (.av (.one (.pv (.int .i64 n4))))), (63, (.av (.one (.pv (.bool (decide ((n4 : Int) < n)))))))], [(0, [(.pv (.int .u64 n2)), (.pv (.int .u64 n3)), (.pv (.recs 5 (List.map zaa.pv r2) false)), (.pv (.ints .i64 l false)), (.pv (.recs 2 (List.map zac.pv r3) false))])], []⟩, .k0 t_.pf (by kernel_rfl), ⟨⟨⟨_, rfl, .eq rfl⟩, ⟨_, rfl, .eq rfl⟩, trivial⟩, ⟨⟨rfl, ⟨.eq rfl, .eq rfl, .eq rfl, .eq rfl, .eq rfl, trivial⟩⟩, trivial⟩, trivial⟩⟩
theorem zh0 (r : List zaa) (n n2 n3 : Int) (r2 : List zaa) (l : List Int) (r3 : List zac) (s_ : Bool × Int) (r_ : Bool) (h : runL (zbp r n n2 n3 r2 l r3) s_ = some r_) : zaT Tryz.prog (lEnv Tryz.prog cfg 63 0).nt 0 (.loop (zax Tryz.prog 63 1)) (zdb r n n2 n3 r2 l r3 s_) (zda r n n2 n3 r2 l r3 r_).1 (zda r n n2 n3 r2 l r3 r_).2 :=
 zaJ h (zjd r n n2 n3 r2 l r3) (by intro r_; rcases r_ with r1 <;> simp [zda])
def zkh (p p2 : Int) (p3 : List zaa) (p4 : List Int) (p5 : List zac) (n : Int) : Bool → Res
 | r1 => ([(.one (.pv (.bool r1)))], [], [])
noncomputable def zdm (p p2 : Int) (p3 : List zaa) (p4 : List Int) (p5 : List zac) (n : Int) : Option (Bool) :=
 (zfu n).bind fun b =>
 bif b then
  some (!(decide (((IntKind.u64.wrap n) : Int) = p)))
 else
  some false
theorem zdw (p p2 : Int) (p3 : List zaa) (p4 : List Int) (p5 : List zac) (n : Int) (r_ : Bool) (h : zdm p p2 p3 p4 p5 n = some r_) : Runs Tryz.prog 104 [(.agg [(.pv (.int .u64 p)), (.pv (.int .u64 p2)), (.pv (.recs 5 (List.map zaa.pv p3) false)), (.pv (.ints .i64 p4 false)), (.pv (.recs 2 (List.map zac.pv p5) false))]), (.one (.pv (.int .i64 n)))] [] [] (zkh p p2 p3 p4 p5 n r_) := by
 unfold zdm at h
 obtain ⟨b, h1, h⟩ := zaf h
 rcases zaj h with ⟨h2, h⟩ | ⟨h2, h⟩
 ·have h := zad h
  subst h
  have t_ := tR (zcz n _ h1) <| tT h2 <| tN
  exact zah (C := cfg) (sc := t_.ev) (.k0 t_.pf (by kernel_rfl))
 ·have h := zad h
  subst h
  have t_ := tR (zcz n _ h1) <| tF h2 <| tN
  exact zah (C := cfg) (sc := t_.ev) (.k0 t_.pf (by kernel_rfl))
end Go.Proofs.YtjjcmgdgifcmgaaGreat
