/- What functions compute, and that they do. -/
import Derived.Test.YteiikkpajcggfaaGreatDoorA2
set_option linter.unusedVariables false
set_option linter.unusedSimpArgs false
set_option maxRecDepth 100000
namespace Go.Proofs.YteiikkpajcggfaaGreatDoor
open Go.Ev
noncomputable def wire_In_Text (most : Int) (l : List Int) (n : Int) : Option (ByteArray × List Int × Int) :=
 (wire_In_Err l n).bind fun _ =>
 bif (decide ((n : Int) = 0)) then
  (wire_In_Num l n).bind fun (n2, l_, n3) =>
  bif (decide ((n3 : Int) = 0)) then
   bif (decide ((most : Int) < 0)) then
    (wire_In_Fail 9 l_ n3).bind fun n4 =>
    bif (decide ((n4 : Int) = 0)) then
     bif decide ((0 : Int) ≤ 0) && decide ((0 : Int) ≤ n2) && decide ((n2 : Int) ≤ ((l_).length : Int)) && decide ((n2 : Int) = n2) then
     bif decide ((0 : Int) ≤ n2) && decide ((n2 : Int) ≤ ((l_).length : Int)) && decide ((((l_).length : Int) : Int) ≤ ((l_).length : Int)) && decide ((((l_).length : Int) : Int) = ((l_).length : Int)) then
     some ((strOf (List.take (n2 - 0).toNat l_)), (List.take (((l_).length : Int) - n2).toNat (List.drop (n2).toNat l_)), n4)
     else none
     else none
    else
     some ((⟨#[]⟩ : ByteArray), l, n4)
   else
    bif (decide (((IntKind.u64.wrap most) : Int) < n2)) then
     (wire_In_Fail 9 l_ n3).bind fun n4 =>
     bif (decide ((n4 : Int) = 0)) then
      bif decide ((0 : Int) ≤ 0) && decide ((0 : Int) ≤ n2) && decide ((n2 : Int) ≤ ((l_).length : Int)) && decide ((n2 : Int) = n2) then
      bif decide ((0 : Int) ≤ n2) && decide ((n2 : Int) ≤ ((l_).length : Int)) && decide ((((l_).length : Int) : Int) ≤ ((l_).length : Int)) && decide ((((l_).length : Int) : Int) = ((l_).length : Int)) then
      some ((strOf (List.take (n2 - 0).toNat l_)), (List.take (((l_).length : Int) - n2).toNat (List.drop (n2).toNat l_)), n4)
      else none
      else none
     else
      some ((⟨#[]⟩ : ByteArray), l, n4)
    else
     bif (decide (((IntKind.u64.wrap ((l_).length : Int)) : Int) < n2)) then
      (wire_In_Fail 6 l_ n3).bind fun n4 =>
      bif (decide ((n4 : Int) = 0)) then
       bif decide ((0 : Int) ≤ 0) && decide ((0 : Int) ≤ n2) && decide ((n2 : Int) ≤ ((l_).length : Int)) && decide ((n2 : Int) = n2) then
       bif decide ((0 : Int) ≤ n2) && decide ((n2 : Int) ≤ ((l_).length : Int)) && decide ((((l_).length : Int) : Int) ≤ ((l_).length : Int)) && decide ((((l_).length : Int) : Int) = ((l_).length : Int)) then
       some ((strOf (List.take (n2 - 0).toNat l_)), (List.take (((l_).length : Int) - n2).toNat (List.drop (n2).toNat l_)), n4)
       else none
       else none
      else
       some ((⟨#[]⟩ : ByteArray), l, n4)
     else
      bif decide ((0 : Int) ≤ 0) && decide ((0 : Int) ≤ n2) && decide ((n2 : Int) ≤ ((l_).length : Int)) && decide ((n2 : Int) = n2) then
      bif decide ((0 : Int) ≤ n2) && decide ((n2 : Int) ≤ ((l_).length : Int)) && decide ((((l_).length : Int) : Int) ≤ ((l_).length : Int)) && decide ((((l_).length : Int) : Int) = ((l_).length : Int)) then
      some ((strOf (List.take (n2 - 0).toNat l_)), (List.take (((l_).length : Int) - n2).toNat (List.drop (n2).toNat l_)), n3)
      else none
      else none
  else
   some ((⟨#[]⟩ : ByteArray), l, n3)
 else
  some ((⟨#[]⟩ : ByteArray), l, n)
theorem wire_In_Text_runs (most : Int) (l : List Int) (n : Int) (r_ : ByteArray × List Int × Int) (h : wire_In_Text most l n = some r_) : Runs Tryz.prog 75 [(.one (.ref 0 0)), (.one (.pv (.int .i64 most)))] [[(.pv (.ints .u8 l false)), (.pv (.int .i64 n))]] [] (wire_In_Text_out most l n r_) := by
 unfold wire_In_Text at h
 obtain ⟨_, h1, h⟩ := bind_of h
 rcases cond_of h with ⟨h2, h⟩ | ⟨h2, h⟩
 ·obtain ⟨⟨n2, l_, n3⟩, h3, h⟩ := bind_of h
  rcases cond_of h with ⟨h4, h⟩ | ⟨h4, h⟩
  ·rcases cond_of h with ⟨h5, h⟩ | ⟨h5, h⟩
   ·obtain ⟨n4, h6, h⟩ := bind_of h
    rcases cond_of h with ⟨h7, h⟩ | ⟨h7, h⟩
    ·obtain ⟨h8, h⟩ := need_of h
     obtain ⟨h9, h⟩ := need_of h
     have h := some_of h
     subst h
     have t_ := tR (wire_In_Err_runs l n _ h1) <| tF (not_of2 h2) <| tR (wire_In_Num_runs l n _ h3) <| tF (not_of2 h4) <| tT h5 <| tT (rfl : true = true) <| tR (wire_In_Fail_runs 9 l_ n3 _ h6) <| tF (not_of2 h7) <| tO h8 <| tO h9 <| tN
     exact runs_of (C := cfg) (objs := [[(.pv (.ints .u8 l false)), (.pv (.int .i64 n))]]) (sc := t_.ev) (.k0 t_.pf (by kernel_rfl))
    ·have h := some_of h
     subst h
     have t_ := tR (wire_In_Err_runs l n _ h1) <| tF (not_of2 h2) <| tR (wire_In_Num_runs l n _ h3) <| tF (not_of2 h4) <| tT h5 <| tT (rfl : true = true) <| tR (wire_In_Fail_runs 9 l_ n3 _ h6) <| tT (not_of h7) <| tN
     exact runs_of (C := cfg) (objs := [[(.pv (.ints .u8 l false)), (.pv (.int .i64 n))]]) (sc := t_.ev) (.k0 t_.pf (by kernel_rfl))
   ·rcases cond_of h with ⟨h6, h⟩ | ⟨h6, h⟩
    ·obtain ⟨n4, h7, h⟩ := bind_of h
     rcases cond_of h with ⟨h8, h⟩ | ⟨h8, h⟩
     ·obtain ⟨h9, h⟩ := need_of h
      obtain ⟨h10, h⟩ := need_of h
      have h := some_of h
      subst h
      have t_ := tR (wire_In_Err_runs l n _ h1) <| tF (not_of2 h2) <| tR (wire_In_Num_runs l n _ h3) <| tF (not_of2 h4) <| tF h5 <| tT h6 <| tR (wire_In_Fail_runs 9 l_ n3 _ h7) <| tF (not_of2 h8) <| tO h9 <| tO h10 <| tN
      exact runs_of (C := cfg) (objs := [[(.pv (.ints .u8 l false)), (.pv (.int .i64 n))]]) (sc := t_.ev) (.k0 t_.pf (by kernel_rfl))
     ·have h := some_of h
      subst h
      have t_ := tR (wire_In_Err_runs l n _ h1) <| tF (not_of2 h2) <| tR (wire_In_Num_runs l n _ h3) <| tF (not_of2 h4) <| tF h5 <| tT h6 <| tR (wire_In_Fail_runs 9 l_ n3 _ h7) <| tT (not_of h8) <| tN
      exact runs_of (C := cfg) (objs := [[(.pv (.ints .u8 l false)), (.pv (.int .i64 n))]]) (sc := t_.ev) (.k0 t_.pf (by kernel_rfl))
    ·rcases cond_of h with ⟨h7, h⟩ | ⟨h7, h⟩
     ·obtain ⟨n4, h8, h⟩ := bind_of h
      rcases cond_of h with ⟨h9, h⟩ | ⟨h9, h⟩
      ·obtain ⟨h10, h⟩ := need_of h
       obtain ⟨h11, h⟩ := need_of h
       have h := some_of h
       subst h
       have t_ := tR (wire_In_Err_runs l n _ h1) <| tF (not_of2 h2) <| tR (wire_In_Num_runs l n _ h3) <| tF (not_of2 h4) <| tF h5 <| tF h6 <| tT h7 <| tR (wire_In_Fail_runs 6 l_ n3 _ h8) <| tF (not_of2 h9) <| tO h10 <| tO h11 <| tN
       exact runs_of (C := cfg) (objs := [[(.pv (.ints .u8 l false)), (.pv (.int .i64 n))]]) (sc := t_.ev) (.k0 t_.pf (by kernel_rfl))
      ·have h := some_of h
       subst h
       have t_ := tR (wire_In_Err_runs l n _ h1) <| tF (not_of2 h2) <| tR (wire_In_Num_runs l n _ h3) <| tF (not_of2 h4) <| tF h5 <| tF h6 <| tT h7 <| tR (wire_In_Fail_runs 6 l_ n3 _ h8) <| tT (not_of h9) <| tN
       exact runs_of (C := cfg) (objs := [[(.pv (.ints .u8 l false)), (.pv (.int .i64 n))]]) (sc := t_.ev) (.k0 t_.pf (by kernel_rfl))
     ·obtain ⟨h8, h⟩ := need_of h
      obtain ⟨h9, h⟩ := need_of h
      have h := some_of h
      subst h
      have t_ := tR (wire_In_Err_runs l n _ h1) <| tF (not_of2 h2) <| tR (wire_In_Num_runs l n _ h3) <| tF (not_of2 h4) <| tF h5 <| tF h6 <| tF h7 <| tF (not_of2 h4) <| tO h8 <| tO h9 <| tN
      exact runs_of (C := cfg) (objs := [[(.pv (.ints .u8 l false)), (.pv (.int .i64 n))]]) (sc := t_.ev) (.k0 t_.pf (by kernel_rfl))
  ·have h := some_of h
   subst h
   have t_ := tR (wire_In_Err_runs l n _ h1) <| tF (not_of2 h2) <| tR (wire_In_Num_runs l n _ h3) <| tT (not_of h4) <| tT (not_of h4) <| tN
   exact runs_of (C := cfg) (objs := [[(.pv (.ints .u8 l false)), (.pv (.int .i64 n))]]) (sc := t_.ev) (.k0 t_.pf (by kernel_rfl))
 ·have h := some_of h
  subst h
  have t_ := tR (wire_In_Err_runs l n _ h1) <| tT (not_of h2) <| tN
  exact runs_of (C := cfg) (objs := [[(.pv (.ints .u8 l false)), (.pv (.int .i64 n))]]) (sc := t_.ev) (.k0 t_.pf (by kernel_rfl))
def card_Less_out (a : Int) (a2 : ByteArray) (a3 : ByteArray) (b : Int) (b2 : ByteArray) (b3 : ByteArray) : Bool → Res
 | r1 => ([(.one (.pv (.bool r1)))], [], [])
noncomputable def card_Less (a : Int) (a2 : ByteArray) (a3 : ByteArray) (b : Int) (b2 : ByteArray) (b3 : ByteArray) : Option (Bool) :=
 (card_order a a2 a3 b b2 b3).bind fun n =>
 some (decide ((n : Int) < 0))
theorem card_Less_runs (a : Int) (a2 : ByteArray) (a3 : ByteArray) (b : Int) (b2 : ByteArray) (b3 : ByteArray) (r_ : Bool) (h : card_Less a a2 a3 b b2 b3 = some r_) : Runs Tryz.prog 76 [(.agg [(.pv (.int .i64 a)), (.pv (.str a2)), (.pv (.str a3))]), (.agg [(.pv (.int .i64 b)), (.pv (.str b2)), (.pv (.str b3))])] [] [] (card_Less_out a a2 a3 b b2 b3 r_) := by
 unfold card_Less at h
 obtain ⟨n, h1, h⟩ := bind_of h
 have h := some_of h
 subst h
 have t_ := tR (card_order_runs a a2 a3 b b2 b3 _ h1) <| tN
 exact runs_of (C := cfg) (objs := []) (sc := t_.ev) (.k0 t_.pf (by kernel_rfl))
def paper_GetCard_L0_2_st (n : Int) : List Int × Int × List E_card_Field → St
 | (l, n2, r) => ⟨[(0, (.av (.one (.ref 0 0)))), (2, (.av (.one (.ref 1 0)))), (3, (.av (.one (.pv (.int .u64 n))))), (4, (.av (.one (.own 0 0 ((List.map E_card_Field.pv r)).length false))))], [(0, [(.pv (.ints .u8 l false)), (.pv (.int .i64 n2))]), (1, [(.pv .nils)])], [(0, (.live (.recs 3 (List.map E_card_Field.pv r))))]⟩
def paper_GetCard_L0_2_ex (n : Int) : (List Int × Int × Int × ByteArray × ByteArray × List E_card_Field) ⊕ (List Int × Int × List E_card_Field) → Ex × St
 | .inl (r1, r2, r3, r4, r5, r6) => ((.exit 0), ⟨[(0, (.av (.one (.ref 0 0)))), (2, (.av (.one (.ref 1 0)))), (4, (.av (.one (.own 0 0 ((List.map E_card_Field.pv r6)).length false))))], [(0, [(.pv (.ints .u8 r1 false)), (.pv (.int .i64 r2))]), (1, [(.pv .nils)]), (2, [(.pv (.int .i64 r3)), (.pv (.str r4)), (.pv (.str r5))])], [(0, (.live (.recs 3 (List.map E_card_Field.pv r6))))]⟩)
 | .inr (r1, r2, r3) => ((.exit 0), ⟨[(0, (.av (.one (.ref 0 0)))), (2, (.av (.one (.ref 1 0)))), (4, (.av (.one (.own 0 0 ((List.map E_card_Field.pv r3)).length false))))], [(0, [(.pv (.ints .u8 r1 false)), (.pv (.int .i64 r2))]), (1, [(.pv .nils)])], [(0, (.live (.recs 3 (List.map E_card_Field.pv r3))))]⟩)
noncomputable def paper_GetCard_L0_2_step (n : Int) : List Int × Int × List E_card_Field → Option ((List Int × Int × List E_card_Field) ⊕ ((List Int × Int × Int × ByteArray × ByteArray × List E_card_Field) ⊕ (List Int × Int × List E_card_Field)))
 | (l, n2, r) =>
 (wire_In_Err l n2).bind fun _ =>
 bif (decide ((n2 : Int) = 0)) then
  bif (decide (((IntKind.u64.wrap (((List.map E_card_Field.pv r)).length : Int)) : Int) < n)) then
   (wire_In_Byte l n2).bind fun (n3, l_, n4) =>
   (wire_In_Text 12 l_ n4).bind fun (s, l_2, n5) =>
   (wire_In_Text 40 l_2 n5).bind fun (s2, l_3, n6) =>
   (wire_In_Err l_3 n6).bind fun _ =>
   bif (decide ((n6 : Int) = 0)) then
    (card_Field_Right (IntKind.i64.wrap n3) s s2).bind fun n7 =>
    bif (decide ((n7 : Int) = 0)) then
     bif (decide ((0 : Int) < (((List.map E_card_Field.pv r)).length : Int))) then
      bif decide ((0 : Int) ≤ (isub .i64 (((List.map E_card_Field.pv r)).length : Int) 1)) && decide (((isub .i64 (((List.map E_card_Field.pv r)).length : Int) 1) : Int) < (((List.map E_card_Field.pv r)).length : Int)) then
      (r[(0 + ((isub .i64 (((List.map E_card_Field.pv r)).length : Int) 1)).toNat)]?).bind fun e_ => match e_ with
      | .mk n8 s3 s4 =>
      (card_Less n8 s3 s4 (IntKind.i64.wrap n3) s s2).bind fun b =>
      bif b then
       bif fits (((List.map E_card_Field.pv r) ++ ([[(.int .i64 (IntKind.i64.wrap n3)), (.str s), (.str s2)]] : List (List PV)))).length then
       some (.inl (l_3, n6, (r ++ [(E_card_Field.mk (IntKind.i64.wrap n3) s s2)])))
       else none
      else
       (wire_In_Fail 6 l_3 n6).bind fun n9 =>
       bif fits (((List.map E_card_Field.pv r) ++ ([[(.int .i64 (IntKind.i64.wrap n3)), (.str s), (.str s2)]] : List (List PV)))).length then
       some (.inl (l_3, n9, (r ++ [(E_card_Field.mk (IntKind.i64.wrap n3) s s2)])))
       else none
      else none
     else
      bif fits (((List.map E_card_Field.pv r) ++ ([[(.int .i64 (IntKind.i64.wrap n3)), (.str s), (.str s2)]] : List (List PV)))).length then
      some (.inl (l_3, n6, (r ++ [(E_card_Field.mk (IntKind.i64.wrap n3) s s2)])))
      else none
    else
     (wire_In_Fail n7 l_3 n6).bind fun n8 =>
     bif (decide ((0 : Int) < (((List.map E_card_Field.pv r)).length : Int))) then
      bif decide ((0 : Int) ≤ (isub .i64 (((List.map E_card_Field.pv r)).length : Int) 1)) && decide (((isub .i64 (((List.map E_card_Field.pv r)).length : Int) 1) : Int) < (((List.map E_card_Field.pv r)).length : Int)) then
      (r[(0 + ((isub .i64 (((List.map E_card_Field.pv r)).length : Int) 1)).toNat)]?).bind fun e_ => match e_ with
      | .mk n9 s3 s4 =>
      (card_Less n9 s3 s4 (IntKind.i64.wrap n3) s s2).bind fun b =>
      bif b then
       bif fits (((List.map E_card_Field.pv r) ++ ([[(.int .i64 (IntKind.i64.wrap n3)), (.str s), (.str s2)]] : List (List PV)))).length then
       some (.inl (l_3, n8, (r ++ [(E_card_Field.mk (IntKind.i64.wrap n3) s s2)])))
       else none
      else
       (wire_In_Fail 6 l_3 n8).bind fun n10 =>
       bif fits (((List.map E_card_Field.pv r) ++ ([[(.int .i64 (IntKind.i64.wrap n3)), (.str s), (.str s2)]] : List (List PV)))).length then
       some (.inl (l_3, n10, (r ++ [(E_card_Field.mk (IntKind.i64.wrap n3) s s2)])))
       else none
      else none
     else
      bif fits (((List.map E_card_Field.pv r) ++ ([[(.int .i64 (IntKind.i64.wrap n3)), (.str s), (.str s2)]] : List (List PV)))).length then
      some (.inl (l_3, n8, (r ++ [(E_card_Field.mk (IntKind.i64.wrap n3) s s2)])))
      else none
   else
    some (.inr (.inl (l_3, n6, (IntKind.i64.wrap n3), s, s2, r)))
  else
   some (.inr (.inr (l, n2, r)))
 else
  some (.inr (.inr (l, n2, r)))
theorem paper_GetCard_L0_2_ok (n : Int) (s_ : List Int × Int × List E_card_Field) (z_ : (List Int × Int × List E_card_Field) ⊕ ((List Int × Int × Int × ByteArray × ByteArray × List E_card_Field) ⊕ (List Int × Int × List E_card_Field))) (h : paper_GetCard_L0_2_step n s_ = some z_) : RoundOk Tryz.prog cfg 34 1 (loopAt Tryz.prog 34 0) (paper_GetCard_L0_2_st n) (paper_GetCard_L0_2_ex n) s_ z_ := by
 rcases s_ with ⟨l, n2, r⟩
 rw [paper_GetCard_L0_2_step] at h
 obtain ⟨_, h1, h⟩ := bind_of h
 rcases cond_of h with ⟨h2, h⟩ | ⟨h2, h⟩
 ·rcases cond_of h with ⟨h3, h⟩ | ⟨h3, h⟩
  ·obtain ⟨⟨n3, l_, n4⟩, h4, h⟩ := bind_of h
   obtain ⟨⟨s, l_2, n5⟩, h5, h⟩ := bind_of h
   obtain ⟨⟨s2, l_3, n6⟩, h6, h⟩ := bind_of h
   obtain ⟨_, h7, h⟩ := bind_of h
   rcases cond_of h with ⟨h8, h⟩ | ⟨h8, h⟩
   ·obtain ⟨n7, h9, h⟩ := bind_of h
    have q_9 := (card_Field_Right_runs (IntKind.i64.wrap n3) s s2 _ h9)
    rcases cond_of h with ⟨h10, h⟩ | ⟨h10, h⟩
    ·rcases cond_of h with ⟨h11, h⟩ | ⟨h11, h⟩
     ·obtain ⟨h12, h⟩ := need_of h
      obtain ⟨⟨n8, s3, s4⟩, h13, h⟩ := bind_of h
      obtain ⟨b, h14, h⟩ := bind_of h
      have q_14 := (card_Less_runs n8 s3 s4 (IntKind.i64.wrap n3) s s2 _ h14)
      have p14_ := fun {sc_ : List Ev} {Q_ : Prop} (t_ : Tell sc_ Q_) => tR (wire_In_Err_runs l n2 _ h1) <| tT h2 <| tT h3 <| tR (wire_In_Byte_runs l n2 _ h4) <| tR (wire_In_Text_runs 12 l_ n4 _ h5) <| tR (wire_In_Text_runs 40 l_2 n5 _ h6) <| tR (wire_In_Err_runs l_3 n6 _ h7) <| tF (not_of2 h8) <| tR q_9 <| tF (not_of2 h10) <| tT h11 <| tO h12 <| tE (.el [(.int .i64 n8), (.str s3), (.str s4)]) <| tO (el_of (f := E_card_Field.pv) h13) <| tE (.el [(.int .i64 n8), (.str s3), (.str s4)]) <| tO (el_of (f := E_card_Field.pv) h13) <| tR q_14 <| t_
      rcases cond_of h with ⟨h15, h⟩ | ⟨h15, h⟩
      ·obtain ⟨h16, h⟩ := need_of h
       have h := some_of h
       subst h
       have t_ := p14_ <| tF (not_of2 h15) <| tO (show (Nat.beq ((List.map E_card_Field.pv r)).length ((List.map E_card_Field.pv r)).length) = true from Nat.beq_refl _) <| tO h16 <| tN
       exact ⟨t_.ev, ⟨[(0, (.av (.one (.ref 0 0)))), (2, (.av (.one (.ref 1 0)))), (3, (.av (.one (.pv (.int .u64 n))))), (4, (.av (.one (.own 0 0 (((List.map E_card_Field.pv r) ++ ([[(.int .i64 (IntKind.i64.wrap n3)), (.str s), (.str s2)]] : List (List PV)))).length false))))], [(0, [(.pv (.ints .u8 l_3 false)), (.pv (.int .i64 n6))]), (1, [(.pv .nils)])], [(0, (.live (.recs 3 ((List.map E_card_Field.pv r) ++ ([[(.int .i64 (IntKind.i64.wrap n3)), (.str s), (.str s2)]] : List (List PV))))))]⟩, .k1 t_.pf (by kernel_rfl) (by kernel_rfl), ⟨⟨⟨_, rfl, .eq rfl⟩, ⟨_, rfl, .eq rfl⟩, ⟨_, rfl, .eq rfl⟩, ⟨_, rfl, .own (by first | rfl | (simp only [List.take_length, List.drop_zero, List.map_take, List.nil_append]; done) | (simp; done) | (simp only [E_card_Field.upd]; done) | (simp [E_card_Field.pv]; done))⟩, trivial⟩, ⟨⟨rfl, ⟨.eq rfl, .eq rfl, trivial⟩⟩, ⟨rfl, ⟨.eq rfl, trivial⟩⟩, trivial⟩, ⟨⟨rfl, .recs (.app (.eq rfl) (.cons (.cons (.eq rfl) (.cons (.eq rfl) (.cons (.eq rfl) (.nil)))) (.nil)))⟩, trivial⟩⟩⟩
      ·obtain ⟨n9, h16, h⟩ := bind_of h
       obtain ⟨h17, h⟩ := need_of h
       have h := some_of h
       subst h
       have t_ := p14_ <| tT (not_of h15) <| tR (wire_In_Fail_runs 6 l_3 n6 _ h16) <| tO (show (Nat.beq ((List.map E_card_Field.pv r)).length ((List.map E_card_Field.pv r)).length) = true from Nat.beq_refl _) <| tO h17 <| tN
       exact ⟨t_.ev, ⟨[(0, (.av (.one (.ref 0 0)))), (2, (.av (.one (.ref 1 0)))), (3, (.av (.one (.pv (.int .u64 n))))), (4, (.av (.one (.own 0 0 (((List.map E_card_Field.pv r) ++ ([[(.int .i64 (IntKind.i64.wrap n3)), (.str s), (.str s2)]] : List (List PV)))).length false))))], [(0, [(.pv (.ints .u8 l_3 false)), (.pv (.int .i64 n9))]), (1, [(.pv .nils)])], [(0, (.live (.recs 3 ((List.map E_card_Field.pv r) ++ ([[(.int .i64 (IntKind.i64.wrap n3)), (.str s), (.str s2)]] : List (List PV))))))]⟩, .k1 t_.pf (by kernel_rfl) (by kernel_rfl), ⟨⟨⟨_, rfl, .eq rfl⟩, ⟨_, rfl, .eq rfl⟩, ⟨_, rfl, .eq rfl⟩, ⟨_, rfl, .own (by first | rfl | (simp only [List.take_length, List.drop_zero, List.map_take, List.nil_append]; done) | (simp; done) | (simp only [E_card_Field.upd]; done) | (simp [E_card_Field.pv]; done))⟩, trivial⟩, ⟨⟨rfl, ⟨.eq rfl, .eq rfl, trivial⟩⟩, ⟨rfl, ⟨.eq rfl, trivial⟩⟩, trivial⟩, ⟨⟨rfl, .recs (.app (.eq rfl) (.cons (.cons (.eq rfl) (.cons (.eq rfl) (.cons (.eq rfl) (.nil)))) (.nil)))⟩, trivial⟩⟩⟩
     ·obtain ⟨h12, h⟩ := need_of h
      have h := some_of h
      subst h
      have t_ := tR (wire_In_Err_runs l n2 _ h1) <| tT h2 <| tT h3 <| tR (wire_In_Byte_runs l n2 _ h4) <| tR (wire_In_Text_runs 12 l_ n4 _ h5) <| tR (wire_In_Text_runs 40 l_2 n5 _ h6) <| tR (wire_In_Err_runs l_3 n6 _ h7) <| tF (not_of2 h8) <| tR q_9 <| tF (not_of2 h10) <| tF h11 <| tF (rfl : false = false) <| tO (show (Nat.beq ((List.map E_card_Field.pv r)).length ((List.map E_card_Field.pv r)).length) = true from Nat.beq_refl _) <| tO h12 <| tN
      exact ⟨t_.ev, ⟨[(0, (.av (.one (.ref 0 0)))), (2, (.av (.one (.ref 1 0)))), (3, (.av (.one (.pv (.int .u64 n))))), (4, (.av (.one (.own 0 0 (((List.map E_card_Field.pv r) ++ ([[(.int .i64 (IntKind.i64.wrap n3)), (.str s), (.str s2)]] : List (List PV)))).length false))))], [(0, [(.pv (.ints .u8 l_3 false)), (.pv (.int .i64 n6))]), (1, [(.pv .nils)])], [(0, (.live (.recs 3 ((List.map E_card_Field.pv r) ++ ([[(.int .i64 (IntKind.i64.wrap n3)), (.str s), (.str s2)]] : List (List PV))))))]⟩, .k1 t_.pf (by kernel_rfl) (by kernel_rfl), ⟨⟨⟨_, rfl, .eq rfl⟩, ⟨_, rfl, .eq rfl⟩, ⟨_, rfl, .eq rfl⟩, ⟨_, rfl, .own (by first | rfl | (simp only [List.take_length, List.drop_zero, List.map_take, List.nil_append]; done) | (simp; done) | (simp only [E_card_Field.upd]; done) | (simp [E_card_Field.pv]; done))⟩, trivial⟩, ⟨⟨rfl, ⟨.eq rfl, .eq rfl, trivial⟩⟩, ⟨rfl, ⟨.eq rfl, trivial⟩⟩, trivial⟩, ⟨⟨rfl, .recs (.app (.eq rfl) (.cons (.cons (.eq rfl) (.cons (.eq rfl) (.cons (.eq rfl) (.nil)))) (.nil)))⟩, trivial⟩⟩⟩
    ·obtain ⟨n8, h11, h⟩ := bind_of h
     rcases cond_of h with ⟨h12, h⟩ | ⟨h12, h⟩
     ·obtain ⟨h13, h⟩ := need_of h
      obtain ⟨⟨n9, s3, s4⟩, h14, h⟩ := bind_of h
      obtain ⟨b, h15, h⟩ := bind_of h
      have q_15 := (card_Less_runs n9 s3 s4 (IntKind.i64.wrap n3) s s2 _ h15)
      have p15_ := fun {sc_ : List Ev} {Q_ : Prop} (t_ : Tell sc_ Q_) => tR (wire_In_Err_runs l n2 _ h1) <| tT h2 <| tT h3 <| tR (wire_In_Byte_runs l n2 _ h4) <| tR (wire_In_Text_runs 12 l_ n4 _ h5) <| tR (wire_In_Text_runs 40 l_2 n5 _ h6) <| tR (wire_In_Err_runs l_3 n6 _ h7) <| tF (not_of2 h8) <| tR q_9 <| tT (not_of h10) <| tR (wire_In_Fail_runs n7 l_3 n6 _ h11) <| tT h12 <| tO h13 <| tE (.el [(.int .i64 n9), (.str s3), (.str s4)]) <| tO (el_of (f := E_card_Field.pv) h14) <| tE (.el [(.int .i64 n9), (.str s3), (.str s4)]) <| tO (el_of (f := E_card_Field.pv) h14) <| tR q_15 <| t_
      rcases cond_of h with ⟨h16, h⟩ | ⟨h16, h⟩
      ·obtain ⟨h17, h⟩ := need_of h
       have h := some_of h
       subst h
       have t_ := p15_ <| tF (not_of2 h16) <| tO (show (Nat.beq ((List.map E_card_Field.pv r)).length ((List.map E_card_Field.pv r)).length) = true from Nat.beq_refl _) <| tO h17 <| tN
       exact ⟨t_.ev, ⟨[(0, (.av (.one (.ref 0 0)))), (2, (.av (.one (.ref 1 0)))), (3, (.av (.one (.pv (.int .u64 n))))), (4, (.av (.one (.own 0 0 (((List.map E_card_Field.pv r) ++ ([[(.int .i64 (IntKind.i64.wrap n3)), (.str s), (.str s2)]] : List (List PV)))).length false))))], [(0, [(.pv (.ints .u8 l_3 false)), (.pv (.int .i64 n8))]), (1, [(.pv .nils)])], [(0, (.live (.recs 3 ((List.map E_card_Field.pv r) ++ ([[(.int .i64 (IntKind.i64.wrap n3)), (.str s), (.str s2)]] : List (List PV))))))]⟩, .k1 t_.pf (by kernel_rfl) (by kernel_rfl), ⟨⟨⟨_, rfl, .eq rfl⟩, ⟨_, rfl, .eq rfl⟩, ⟨_, rfl, .eq rfl⟩, ⟨_, rfl, .own (by first | rfl | (simp only [List.take_length, List.drop_zero, List.map_take, List.nil_append]; done) | (simp; done) | (simp only [E_card_Field.upd]; done) | (simp [E_card_Field.pv]; done))⟩, trivial⟩, ⟨⟨rfl, ⟨.eq rfl, .eq rfl, trivial⟩⟩, ⟨rfl, ⟨.eq rfl, trivial⟩⟩, trivial⟩, ⟨⟨rfl, .recs (.app (.eq rfl) (.cons (.cons (.eq rfl) (.cons (.eq rfl) (.cons (.eq rfl) (.nil)))) (.nil)))⟩, trivial⟩⟩⟩
      ·obtain ⟨n10, h17, h⟩ := bind_of h
       obtain ⟨h18, h⟩ := need_of h
       have h := some_of h
       subst h
       have t_ := p15_ <| tT (not_of h16) <| tR (wire_In_Fail_runs 6 l_3 n8 _ h17) <| tO (show (Nat.beq ((List.map E_card_Field.pv r)).length ((List.map E_card_Field.pv r)).length) = true from Nat.beq_refl _) <| tO h18 <| tN
       exact ⟨t_.ev, ⟨[(0, (.av (.one (.ref 0 0)))), (2, (.av (.one (.ref 1 0)))), (3, (.av (.one (.pv (.int .u64 n))))), (4, (.av (.one (.own 0 0 (((List.map E_card_Field.pv r) ++ ([[(.int .i64 (IntKind.i64.wrap n3)), (.str s), (.str s2)]] : List (List PV)))).length false))))], [(0, [(.pv (.ints .u8 l_3 false)), (.pv (.int .i64 n10))]), (1, [(.pv .nils)])], [(0, (.live (.recs 3 ((List.map E_card_Field.pv r) ++ ([[(.int .i64 (IntKind.i64.wrap n3)), (.str s), (.str s2)]] : List (List PV))))))]⟩, .k1 t_.pf (by kernel_rfl) (by kernel_rfl), ⟨⟨⟨_, rfl, .eq rfl⟩, ⟨_, rfl, .eq rfl⟩, ⟨_, rfl, .eq rfl⟩, ⟨_, rfl, .own (by first | rfl | (simp only [List.take_length, List.drop_zero, List.map_take, List.nil_append]; done) | (simp; done) | (simp only [E_card_Field.upd]; done) | (simp [E_card_Field.pv]; done))⟩, trivial⟩, ⟨⟨rfl, ⟨.eq rfl, .eq rfl, trivial⟩⟩, ⟨rfl, ⟨.eq rfl, trivial⟩⟩, trivial⟩, ⟨⟨rfl, .recs (.app (.eq rfl) (.cons (.cons (.eq rfl) (.cons (.eq rfl) (.cons (.eq rfl) (.nil)))) (.nil)))⟩, trivial⟩⟩⟩
     ·obtain ⟨h13, h⟩ := need_of h
      have h := some_of h
      subst h
      have t_ := tR (wire_In_Err_runs l n2 _ h1) <| tT h2 <| tT h3 <| tR (wire_In_Byte_runs l n2 _ h4) <| tR (wire_In_Text_runs 12 l_ n4 _ h5) <| tR (wire_In_Text_runs 40 l_2 n5 _ h6) <| tR (wire_In_Err_runs l_3 n6 _ h7) <| tF (not_of2 h8) <| tR q_9 <| tT (not_of h10) <| tR (wire_In_Fail_runs n7 l_3 n6 _ h11) <| tF h12 <| tF (rfl : false = false) <| tO (show (Nat.beq ((List.map E_card_Field.pv r)).length ((List.map E_card_Field.pv r)).length) = true from Nat.beq_refl _) <| tO h13 <| tN
      exact ⟨t_.ev, ⟨[(0, (.av (.one (.ref 0 0)))), (2, (.av (.one (.ref 1 0)))), (3, (.av (.one (.pv (.int .u64 n))))), (4, (.av (.one (.own 0 0 (((List.map E_card_Field.pv r) ++ ([[(.int .i64 (IntKind.i64.wrap n3)), (.str s), (.str s2)]] : List (List PV)))).length false))))], [(0, [(.pv (.ints .u8 l_3 false)), (.pv (.int .i64 n8))]), (1, [(.pv .nils)])], [(0, (.live (.recs 3 ((List.map E_card_Field.pv r) ++ ([[(.int .i64 (IntKind.i64.wrap n3)), (.str s), (.str s2)]] : List (List PV))))))]⟩, .k1 t_.pf (by kernel_rfl) (by kernel_rfl), ⟨⟨⟨_, rfl, .eq rfl⟩, ⟨_, rfl, .eq rfl⟩, ⟨_, rfl, .eq rfl⟩, ⟨_, rfl, .own (by first | rfl | (simp only [List.take_length, List.drop_zero, List.map_take, List.nil_append]; done) | (simp; done) | (simp only [E_card_Field.upd]; done) | (simp [E_card_Field.pv]; done))⟩, trivial⟩, ⟨⟨rfl, ⟨.eq rfl, .eq rfl, trivial⟩⟩, ⟨rfl, ⟨.eq rfl, trivial⟩⟩, trivial⟩, ⟨⟨rfl, .recs (.app (.eq rfl) (.cons (.cons (.eq rfl) (.cons (.eq rfl) (.cons (.eq rfl) (.nil)))) (.nil)))⟩, trivial⟩⟩⟩
   ·have h := some_of h
    subst h
    have t_ := tR (wire_In_Err_runs l n2 _ h1) <| tT h2 <| tT h3 <| tR (wire_In_Byte_runs l n2 _ h4) <| tR (wire_In_Text_runs 12 l_ n4 _ h5) <| tR (wire_In_Text_runs 40 l_2 n5 _ h6) <| tR (wire_In_Err_runs l_3 n6 _ h7) <| tT (not_of h8) <| tN
    exact ⟨t_.ev, ⟨[(35, (.av (.one (.pv (.bool true))))), (0, (.av (.one (.ref 0 0)))), (2, (.av (.one (.ref 1 0)))), (3, (.av (.one (.pv (.int .u64 n))))), (4, (.av (.one (.own 0 0 ((List.map E_card_Field.pv r)).length false)))), (5, (.av (.one (.ref 2 0)))), (35, (.av (.one (.pv (.bool (!(decide ((n6 : Int) = 0))))))))], [(0, [(.pv (.ints .u8 l_3 false)), (.pv (.int .i64 n6))]), (1, [(.pv .nils)]), (2, [(.pv (.int .i64 (IntKind.i64.wrap n3))), (.pv (.str s)), (.pv (.str s2))])], [(0, (.live (.recs 3 (List.map E_card_Field.pv r))))]⟩, .k0 t_.pf (by kernel_rfl), ⟨⟨⟨_, rfl, .eq rfl⟩, ⟨_, rfl, .eq rfl⟩, ⟨_, rfl, .eq rfl⟩, trivial⟩, ⟨⟨rfl, ⟨.eq rfl, .eq rfl, trivial⟩⟩, ⟨rfl, ⟨.eq rfl, trivial⟩⟩, ⟨rfl, ⟨.eq rfl, .eq rfl, .eq rfl, trivial⟩⟩, trivial⟩, ⟨⟨rfl, .eq rfl⟩, trivial⟩⟩⟩
  ·have h := some_of h
   subst h
   have t_ := tR (wire_In_Err_runs l n2 _ h1) <| tT h2 <| tF h3 <| tN
   exact ⟨t_.ev, ⟨[(24, (.av (.one (.pv (.bool false))))), (0, (.av (.one (.ref 0 0)))), (2, (.av (.one (.ref 1 0)))), (3, (.av (.one (.pv (.int .u64 n))))), (4, (.av (.one (.own 0 0 ((List.map E_card_Field.pv r)).length false)))), (24, (.av (.one (.pv (.bool (decide (((IntKind.u64.wrap (((List.map E_card_Field.pv r)).length : Int)) : Int) < n)))))))], [(0, [(.pv (.ints .u8 l false)), (.pv (.int .i64 n2))]), (1, [(.pv .nils)])], [(0, (.live (.recs 3 (List.map E_card_Field.pv r))))]⟩, .k0 t_.pf (by kernel_rfl), ⟨⟨⟨_, rfl, .eq rfl⟩, ⟨_, rfl, .eq rfl⟩, ⟨_, rfl, .eq rfl⟩, trivial⟩, ⟨⟨rfl, ⟨.eq rfl, .eq rfl, trivial⟩⟩, ⟨rfl, ⟨.eq rfl, trivial⟩⟩, trivial⟩, ⟨⟨rfl, .eq rfl⟩, trivial⟩⟩⟩
 ·have h := some_of h
  subst h
  have t_ := tR (wire_In_Err_runs l n2 _ h1) <| tF h2 <| tF (rfl : false = false) <| tN
  exact ⟨t_.ev, ⟨[(24, (.av (.one (.pv (.bool false))))), (0, (.av (.one (.ref 0 0)))), (2, (.av (.one (.ref 1 0)))), (3, (.av (.one (.pv (.int .u64 n))))), (4, (.av (.one (.own 0 0 ((List.map E_card_Field.pv r)).length false)))), (24, (.av (.one (.pv (.bool false)))))], [(0, [(.pv (.ints .u8 l false)), (.pv (.int .i64 n2))]), (1, [(.pv .nils)])], [(0, (.live (.recs 3 (List.map E_card_Field.pv r))))]⟩, .k0 t_.pf (by kernel_rfl), ⟨⟨⟨_, rfl, .eq rfl⟩, ⟨_, rfl, .eq rfl⟩, ⟨_, rfl, .eq rfl⟩, trivial⟩, ⟨⟨rfl, ⟨.eq rfl, .eq rfl, trivial⟩⟩, ⟨rfl, ⟨.eq rfl, trivial⟩⟩, trivial⟩, ⟨⟨rfl, .eq rfl⟩, trivial⟩⟩⟩
theorem paper_GetCard_L0_2_runs (n : Int) (s_ : List Int × Int × List E_card_Field) (r_ : (List Int × Int × Int × ByteArray × ByteArray × List E_card_Field) ⊕ (List Int × Int × List E_card_Field)) (h : runL (paper_GetCard_L0_2_step n) s_ = some r_) : LRuns Tryz.prog (lEnv Tryz.prog cfg 34 1).nt 1 (.loop (loopAt Tryz.prog 34 0)) (paper_GetCard_L0_2_st n s_) (paper_GetCard_L0_2_ex n r_).1 (paper_GetCard_L0_2_ex n r_).2 :=
 loop_run h (paper_GetCard_L0_2_ok n) (by intro r_; rcases r_ with ⟨r1, r2, r3, r4, r5, r6⟩ | ⟨r1, r2, r3⟩ <;> simp [paper_GetCard_L0_2_ex])
noncomputable def paper_GetCard (l : List Int) (n : Int) : Option (List E_card_Field × List Int × Int) :=
 (wire_In_Num l n).bind fun (n2, l_, n3) =>
 bif (decide ((8 : Int) < n2)) then
  (wire_In_Fail 8 l_ n3).bind fun n4 =>
  (runL (paper_GetCard_L0_2_step n2) (l_, n4, [])).bind fun z_ => match z_ with
  | .inl (l_2, n5, n6, s, s2, r) =>
   (wire_In_Err l_2 n5).bind fun _ =>
   bif (decide ((n5 : Int) = 0)) then
    (card_Make (List.take ((List.map E_card_Field.pv r)).length r)).bind fun (r2, n7) =>
    some (r2, l_2, n5)
   else
    some ([], l_2, n5)
  | .inr (l_2, n5, r) =>
   (wire_In_Err l_2 n5).bind fun _ =>
   bif (decide ((n5 : Int) = 0)) then
    (card_Make (List.take ((List.map E_card_Field.pv r)).length r)).bind fun (r2, n6) =>
    some (r2, l_2, n5)
   else
    some ([], l_2, n5)
 else
  (runL (paper_GetCard_L0_2_step n2) (l_, n3, [])).bind fun z_ => match z_ with
  | .inl (l_2, n4, n5, s, s2, r) =>
   (wire_In_Err l_2 n4).bind fun _ =>
   bif (decide ((n4 : Int) = 0)) then
    (card_Make (List.take ((List.map E_card_Field.pv r)).length r)).bind fun (r2, n6) =>
    some (r2, l_2, n4)
   else
    some ([], l_2, n4)
  | .inr (l_2, n4, r) =>
   (wire_In_Err l_2 n4).bind fun _ =>
   bif (decide ((n4 : Int) = 0)) then
    (card_Make (List.take ((List.map E_card_Field.pv r)).length r)).bind fun (r2, n5) =>
    some (r2, l_2, n4)
   else
    some ([], l_2, n4)
theorem paper_GetCard_runs (l : List Int) (n : Int) (r_ : List E_card_Field × List Int × Int) (h : paper_GetCard l n = some r_) : Runs Tryz.prog 34 [(.one (.ref 0 0))] [[(.pv (.ints .u8 l false)), (.pv (.int .i64 n))]] [] (paper_GetCard_out l n r_) := by
 unfold paper_GetCard at h
 obtain ⟨⟨n2, l_, n3⟩, h1, h⟩ := bind_of h
 rcases cond_of h with ⟨h2, h⟩ | ⟨h2, h⟩
 ·obtain ⟨n4, h3, h⟩ := bind_of h
  obtain ⟨z_, h4, h⟩ := bind_of h
  rcases z_ with ⟨l_2, n5, n6, s, s2, r⟩ | ⟨l_2, n5, r⟩
  ·have q_4 := (LRuns.coe (s0 := ⟨[(0, (.av (.one (.ref 0 0)))), (2, (.av (.one (.ref 1 0)))), (3, (.av (.one (.pv (.int .u64 n2))))), (4, (.av (.one (.own 0 0 0 false))))], [(0, [(.pv (.ints .u8 l_ false)), (.pv (.int .i64 n4))]), (1, [(.pv .nils)])], [(0, (.live (.recs 3 [])))]⟩) (paper_GetCard_L0_2_runs n2 _ _ h4) ⟨⟨⟨_, rfl, .eq rfl⟩, ⟨_, rfl, .eq rfl⟩, ⟨_, rfl, .eq rfl⟩, ⟨_, rfl, .own (by first | rfl | (simp only [List.take_length, List.drop_zero, List.map_take, List.nil_append]; done) | (simp; done) | (simp only [E_card_Field.upd]; done) | (simp [E_card_Field.pv]; done))⟩, trivial⟩, ⟨⟨rfl, ⟨.eq rfl, .eq rfl, trivial⟩⟩, ⟨rfl, ⟨.eq rfl, trivial⟩⟩, trivial⟩, ⟨⟨rfl, .recs (.nil)⟩, trivial⟩⟩)
   obtain ⟨_, h5, h⟩ := bind_of h
   rcases cond_of h with ⟨h6, h⟩ | ⟨h6, h⟩
   ·obtain ⟨⟨r2, n7⟩, h7, h⟩ := bind_of h
    have h := some_of h
    subst h
    have t_ := tR (wire_In_Num_runs l n _ h1) <| tT h2 <| tR (wire_In_Fail_runs 8 l_ n3 _ h3) <| tL q_4 <| tR (wire_In_Err_runs l_2 n5 _ h5) <| tF (not_of2 h6) <| tR (Runs.coe (as' := [(.one (.pv (.recs 3 (List.take ((List.map E_card_Field.pv r)).length (List.map E_card_Field.pv r)) false)))]) (objs' := []) (rows' := []) (card_Make_runs (List.take ((List.map E_card_Field.pv r)).length r) _ h7) ⟨.pv (.recsT (.eq (by first | rfl | (simp only [List.take_length, List.drop_zero, List.map_take, List.nil_append]; done) | (simp; done) | (simp only [E_card_Field.upd]; done) | (simp [E_card_Field.pv]; done)))), trivial⟩ trivial trivial) <| tN
    exact runs_of (C := cfg) (objs := [[(.pv (.ints .u8 l false)), (.pv (.int .i64 n))]]) (sc := t_.ev) (.k0 t_.pf (by kernel_rfl))
   ·have h := some_of h
    subst h
    have t_ := tR (wire_In_Num_runs l n _ h1) <| tT h2 <| tR (wire_In_Fail_runs 8 l_ n3 _ h3) <| tL q_4 <| tR (wire_In_Err_runs l_2 n5 _ h5) <| tT (not_of h6) <| tN
    have e_ : Runs Tryz.prog 34 [(.one (.ref 0 0))] [[(.pv (.ints .u8 l false)), (.pv (.int .i64 n))]] [] ([(.agg [(.pv .nils)])], [[(.pv (.ints .u8 l_2 false)), (.pv (.int .i64 n5))]], []) := runs_of (C := cfg) (objs := [[(.pv (.ints .u8 l false)), (.pv (.int .i64 n))]]) (sc := t_.ev) (.k0 t_.pf (by kernel_rfl))
    exact e_.out ⟨⟨.pv (.nilsR), trivial⟩, trivial⟩ ⟨⟨.eq rfl, .eq rfl, trivial⟩, trivial⟩ trivial rfl
  ·have q_4 := (LRuns.coe (s0 := ⟨[(0, (.av (.one (.ref 0 0)))), (2, (.av (.one (.ref 1 0)))), (3, (.av (.one (.pv (.int .u64 n2))))), (4, (.av (.one (.own 0 0 0 false))))], [(0, [(.pv (.ints .u8 l_ false)), (.pv (.int .i64 n4))]), (1, [(.pv .nils)])], [(0, (.live (.recs 3 [])))]⟩) (paper_GetCard_L0_2_runs n2 _ _ h4) ⟨⟨⟨_, rfl, .eq rfl⟩, ⟨_, rfl, .eq rfl⟩, ⟨_, rfl, .eq rfl⟩, ⟨_, rfl, .own (by first | rfl | (simp only [List.take_length, List.drop_zero, List.map_take, List.nil_append]; done) | (simp; done) | (simp only [E_card_Field.upd]; done) | (simp [E_card_Field.pv]; done))⟩, trivial⟩, ⟨⟨rfl, ⟨.eq rfl, .eq rfl, trivial⟩⟩, ⟨rfl, ⟨.eq rfl, trivial⟩⟩, trivial⟩, ⟨⟨rfl, .recs (.nil)⟩, trivial⟩⟩)
   obtain ⟨_, h5, h⟩ := bind_of h
   rcases cond_of h with ⟨h6, h⟩ | ⟨h6, h⟩
   ·obtain ⟨⟨r2, n6⟩, h7, h⟩ := bind_of h
    have h := some_of h
    subst h
    have t_ := tR (wire_In_Num_runs l n _ h1) <| tT h2 <| tR (wire_In_Fail_runs 8 l_ n3 _ h3) <| tL q_4 <| tR (wire_In_Err_runs l_2 n5 _ h5) <| tF (not_of2 h6) <| tR (Runs.coe (as' := [(.one (.pv (.recs 3 (List.take ((List.map E_card_Field.pv r)).length (List.map E_card_Field.pv r)) false)))]) (objs' := []) (rows' := []) (card_Make_runs (List.take ((List.map E_card_Field.pv r)).length r) _ h7) ⟨.pv (.recsT (.eq (by first | rfl | (simp only [List.take_length, List.drop_zero, List.map_take, List.nil_append]; done) | (simp; done) | (simp only [E_card_Field.upd]; done) | (simp [E_card_Field.pv]; done)))), trivial⟩ trivial trivial) <| tN
    exact runs_of (C := cfg) (objs := [[(.pv (.ints .u8 l false)), (.pv (.int .i64 n))]]) (sc := t_.ev) (.k0 t_.pf (by kernel_rfl))
   ·have h := some_of h
    subst h
    have t_ := tR (wire_In_Num_runs l n _ h1) <| tT h2 <| tR (wire_In_Fail_runs 8 l_ n3 _ h3) <| tL q_4 <| tR (wire_In_Err_runs l_2 n5 _ h5) <| tT (not_of h6) <| tN
    have e_ : Runs Tryz.prog 34 [(.one (.ref 0 0))] [[(.pv (.ints .u8 l false)), (.pv (.int .i64 n))]] [] ([(.agg [(.pv .nils)])], [[(.pv (.ints .u8 l_2 false)), (.pv (.int .i64 n5))]], []) := runs_of (C := cfg) (objs := [[(.pv (.ints .u8 l false)), (.pv (.int .i64 n))]]) (sc := t_.ev) (.k0 t_.pf (by kernel_rfl))
    exact e_.out ⟨⟨.pv (.nilsR), trivial⟩, trivial⟩ ⟨⟨.eq rfl, .eq rfl, trivial⟩, trivial⟩ trivial rfl
 ·obtain ⟨z_, h3, h⟩ := bind_of h
  rcases z_ with ⟨l_2, n4, n5, s, s2, r⟩ | ⟨l_2, n4, r⟩
  ·have q_3 := (LRuns.coe (s0 := ⟨[(0, (.av (.one (.ref 0 0)))), (2, (.av (.one (.ref 1 0)))), (3, (.av (.one (.pv (.int .u64 n2))))), (4, (.av (.one (.own 0 0 0 false))))], [(0, [(.pv (.ints .u8 l_ false)), (.pv (.int .i64 n3))]), (1, [(.pv .nils)])], [(0, (.live (.recs 3 [])))]⟩) (paper_GetCard_L0_2_runs n2 _ _ h3) ⟨⟨⟨_, rfl, .eq rfl⟩, ⟨_, rfl, .eq rfl⟩, ⟨_, rfl, .eq rfl⟩, ⟨_, rfl, .own (by first | rfl | (simp only [List.take_length, List.drop_zero, List.map_take, List.nil_append]; done) | (simp; done) | (simp only [E_card_Field.upd]; done) | (simp [E_card_Field.pv]; done))⟩, trivial⟩, ⟨⟨rfl, ⟨.eq rfl, .eq rfl, trivial⟩⟩, ⟨rfl, ⟨.eq rfl, trivial⟩⟩, trivial⟩, ⟨⟨rfl, .recs (.nil)⟩, trivial⟩⟩)
   obtain ⟨_, h4, h⟩ := bind_of h
   rcases cond_of h with ⟨h5, h⟩ | ⟨h5, h⟩
   ·obtain ⟨⟨r2, n6⟩, h6, h⟩ := bind_of h
    have h := some_of h
    subst h
    have t_ := tR (wire_In_Num_runs l n _ h1) <| tF h2 <| tL q_3 <| tR (wire_In_Err_runs l_2 n4 _ h4) <| tF (not_of2 h5) <| tR (Runs.coe (as' := [(.one (.pv (.recs 3 (List.take ((List.map E_card_Field.pv r)).length (List.map E_card_Field.pv r)) false)))]) (objs' := []) (rows' := []) (card_Make_runs (List.take ((List.map E_card_Field.pv r)).length r) _ h6) ⟨.pv (.recsT (.eq (by first | rfl | (simp only [List.take_length, List.drop_zero, List.map_take, List.nil_append]; done) | (simp; done) | (simp only [E_card_Field.upd]; done) | (simp [E_card_Field.pv]; done)))), trivial⟩ trivial trivial) <| tN
    exact runs_of (C := cfg) (objs := [[(.pv (.ints .u8 l false)), (.pv (.int .i64 n))]]) (sc := t_.ev) (.k0 t_.pf (by kernel_rfl))
   ·have h := some_of h
    subst h
    have t_ := tR (wire_In_Num_runs l n _ h1) <| tF h2 <| tL q_3 <| tR (wire_In_Err_runs l_2 n4 _ h4) <| tT (not_of h5) <| tN
    have e_ : Runs Tryz.prog 34 [(.one (.ref 0 0))] [[(.pv (.ints .u8 l false)), (.pv (.int .i64 n))]] [] ([(.agg [(.pv .nils)])], [[(.pv (.ints .u8 l_2 false)), (.pv (.int .i64 n4))]], []) := runs_of (C := cfg) (objs := [[(.pv (.ints .u8 l false)), (.pv (.int .i64 n))]]) (sc := t_.ev) (.k0 t_.pf (by kernel_rfl))
    exact e_.out ⟨⟨.pv (.nilsR), trivial⟩, trivial⟩ ⟨⟨.eq rfl, .eq rfl, trivial⟩, trivial⟩ trivial rfl
  ·have q_3 := (LRuns.coe (s0 := ⟨[(0, (.av (.one (.ref 0 0)))), (2, (.av (.one (.ref 1 0)))), (3, (.av (.one (.pv (.int .u64 n2))))), (4, (.av (.one (.own 0 0 0 false))))], [(0, [(.pv (.ints .u8 l_ false)), (.pv (.int .i64 n3))]), (1, [(.pv .nils)])], [(0, (.live (.recs 3 [])))]⟩) (paper_GetCard_L0_2_runs n2 _ _ h3) ⟨⟨⟨_, rfl, .eq rfl⟩, ⟨_, rfl, .eq rfl⟩, ⟨_, rfl, .eq rfl⟩, ⟨_, rfl, .own (by first | rfl | (simp only [List.take_length, List.drop_zero, List.map_take, List.nil_append]; done) | (simp; done) | (simp only [E_card_Field.upd]; done) | (simp [E_card_Field.pv]; done))⟩, trivial⟩, ⟨⟨rfl, ⟨.eq rfl, .eq rfl, trivial⟩⟩, ⟨rfl, ⟨.eq rfl, trivial⟩⟩, trivial⟩, ⟨⟨rfl, .recs (.nil)⟩, trivial⟩⟩)
   obtain ⟨_, h4, h⟩ := bind_of h
   rcases cond_of h with ⟨h5, h⟩ | ⟨h5, h⟩
   ·obtain ⟨⟨r2, n5⟩, h6, h⟩ := bind_of h
    have h := some_of h
    subst h
    have t_ := tR (wire_In_Num_runs l n _ h1) <| tF h2 <| tL q_3 <| tR (wire_In_Err_runs l_2 n4 _ h4) <| tF (not_of2 h5) <| tR (Runs.coe (as' := [(.one (.pv (.recs 3 (List.take ((List.map E_card_Field.pv r)).length (List.map E_card_Field.pv r)) false)))]) (objs' := []) (rows' := []) (card_Make_runs (List.take ((List.map E_card_Field.pv r)).length r) _ h6) ⟨.pv (.recsT (.eq (by first | rfl | (simp only [List.take_length, List.drop_zero, List.map_take, List.nil_append]; done) | (simp; done) | (simp only [E_card_Field.upd]; done) | (simp [E_card_Field.pv]; done)))), trivial⟩ trivial trivial) <| tN
    exact runs_of (C := cfg) (objs := [[(.pv (.ints .u8 l false)), (.pv (.int .i64 n))]]) (sc := t_.ev) (.k0 t_.pf (by kernel_rfl))
   ·have h := some_of h
    subst h
    have t_ := tR (wire_In_Num_runs l n _ h1) <| tF h2 <| tL q_3 <| tR (wire_In_Err_runs l_2 n4 _ h4) <| tT (not_of h5) <| tN
    have e_ : Runs Tryz.prog 34 [(.one (.ref 0 0))] [[(.pv (.ints .u8 l false)), (.pv (.int .i64 n))]] [] ([(.agg [(.pv .nils)])], [[(.pv (.ints .u8 l_2 false)), (.pv (.int .i64 n4))]], []) := runs_of (C := cfg) (objs := [[(.pv (.ints .u8 l false)), (.pv (.int .i64 n))]]) (sc := t_.ev) (.k0 t_.pf (by kernel_rfl))
    exact e_.out ⟨⟨.pv (.nilsR), trivial⟩, trivial⟩ ⟨⟨.eq rfl, .eq rfl, trivial⟩, trivial⟩ trivial rfl
def wire_In_End_out (l : List Int) (n : Int) : Int × Int → Res
 | (r1, r2) => ([(.one (.pv (.int .i64 r1)))], [[(.pv (.ints .u8 l false)), (.pv (.int .i64 r2))]], [])
def wire_In_Left_out (l : List Int) (n : Int) : Int → Res
 | r1 => ([(.one (.pv (.int .i64 r1)))], [[(.pv (.ints .u8 l false)), (.pv (.int .i64 n))]], [])
noncomputable def wire_In_Left (l : List Int) (n : Int) : Option (Int) :=
 some ((l).length : Int)
theorem wire_In_Left_runs (l : List Int) (n : Int) (r_ : Int) (h : wire_In_Left l n = some r_) : Runs Tryz.prog 36 [(.one (.ref 0 0))] [[(.pv (.ints .u8 l false)), (.pv (.int .i64 n))]] [] (wire_In_Left_out l n r_) := by
 unfold wire_In_Left at h
 have h := some_of h
 subst h
 have t_ := tF (rfl : false = false) <| tN
 exact runs_of (C := cfg) (objs := [[(.pv (.ints .u8 l false)), (.pv (.int .i64 n))]]) (sc := t_.ev) (.k0 t_.pf (by kernel_rfl))
noncomputable def wire_In_End (l : List Int) (n : Int) : Option (Int × Int) :=
 (wire_In_Left l n).bind fun n2 =>
 bif (decide ((0 : Int) < n2)) then
  (wire_In_Fail 6 l n).bind fun n3 =>
  (wire_In_Err l n3).bind fun _ =>
  some (n3, n3)
 else
  (wire_In_Err l n).bind fun _ =>
  some (n, n)
theorem wire_In_End_runs (l : List Int) (n : Int) (r_ : Int × Int) (h : wire_In_End l n = some r_) : Runs Tryz.prog 38 [(.one (.ref 0 0))] [[(.pv (.ints .u8 l false)), (.pv (.int .i64 n))]] [] (wire_In_End_out l n r_) := by
 unfold wire_In_End at h
 obtain ⟨n2, h1, h⟩ := bind_of h
 rcases cond_of h with ⟨h2, h⟩ | ⟨h2, h⟩
 ·obtain ⟨n3, h3, h⟩ := bind_of h
  obtain ⟨_, h4, h⟩ := bind_of h
  have h := some_of h
  subst h
  have t_ := tR (wire_In_Left_runs l n _ h1) <| tT h2 <| tR (wire_In_Fail_runs 6 l n _ h3) <| tR (wire_In_Err_runs l n3 _ h4) <| tN
  exact runs_of (C := cfg) (objs := [[(.pv (.ints .u8 l false)), (.pv (.int .i64 n))]]) (sc := t_.ev) (.k0 t_.pf (by kernel_rfl))
 ·obtain ⟨_, h3, h⟩ := bind_of h
  have h := some_of h
  subst h
  have t_ := tR (wire_In_Left_runs l n _ h1) <| tF h2 <| tR (wire_In_Err_runs l n _ h3) <| tN
  exact runs_of (C := cfg) (objs := [[(.pv (.ints .u8 l false)), (.pv (.int .i64 n))]]) (sc := t_.ev) (.k0 t_.pf (by kernel_rfl))
noncomputable def paper_ReadCard (p : List Int) : Option (List E_card_Field × Int) :=
 (wire_Of p).bind fun _ =>
 (paper_GetCard p 0).bind fun (r, l_, n) =>
 (wire_In_End l_ n).bind fun (n2, n3) =>
 bif (decide ((n2 : Int) = 0)) then
  some (r, 0)
 else
  some ([], n2)
theorem paper_ReadCard_runs (p : List Int) (r_ : List E_card_Field × Int) (h : paper_ReadCard p = some r_) : Runs Tryz.prog 26 [(.one (.pv (.ints .u8 p false)))] [] [] (paper_ReadCard_out p r_) := by
 unfold paper_ReadCard at h
 obtain ⟨_, h1, h⟩ := bind_of h
 obtain ⟨⟨r, l_, n⟩, h2, h⟩ := bind_of h
 obtain ⟨⟨n2, n3⟩, h3, h⟩ := bind_of h
 rcases cond_of h with ⟨h4, h⟩ | ⟨h4, h⟩
 ·have h := some_of h
  subst h
  have t_ := tR (wire_Of_runs p _ h1) <| tR (paper_GetCard_runs p 0 _ h2) <| tR (wire_In_End_runs l_ n _ h3) <| tF (not_of2 h4) <| tN
  exact runs_of (C := cfg) (objs := []) (sc := t_.ev) (.k0 t_.pf (by kernel_rfl))
 ·have h := some_of h
  subst h
  have t_ := tR (wire_Of_runs p _ h1) <| tR (paper_GetCard_runs p 0 _ h2) <| tR (wire_In_End_runs l_ n _ h3) <| tT (not_of h4) <| tN
  have e_ : Runs Tryz.prog 26 [(.one (.pv (.ints .u8 p false)))] [] [] ([(.agg [(.pv .nils)]), (.one (.pv (.int .i64 n2)))], [], []) := runs_of (C := cfg) (objs := []) (sc := t_.ev) (.k0 t_.pf (by kernel_rfl))
  exact e_.out ⟨⟨.pv (.nilsR), trivial⟩, .eq rfl, trivial⟩ trivial trivial rfl
def kinfolkref10_ReadCard_out (p : List Int) : List E_kinfolkref09_Field × Int → Res
 | (r1, r2) => ([(.one (.pv (.recs 3 (List.map E_kinfolkref09_Field.pv r1) false))), (.one (.pv (.int .i64 r2)))], [], [])
def kinfolkref10_GetCard_out (l : List Int) (n : Int) (n2 : Int) : List E_kinfolkref09_Field × Int × Int → Res
 | (r1, r2, r3) => ([(.one (.pv (.recs 3 (List.map E_kinfolkref09_Field.pv r1) false)))], [[(.pv (.ints .u8 l false)), (.pv (.int .i64 r2)), (.pv (.int .i64 r3))]], [])
def kinfolkref06_GetNum_out (l : List Int) (n : Int) (n2 : Int) : Int × Int × Int → Res
 | (r1, r2, r3) => ([(.one (.pv (.int .u64 r1)))], [[(.pv (.ints .u8 l false)), (.pv (.int .i64 r2)), (.pv (.int .i64 r3))]], [])
def kinfolkref06_number_out (p : List Int) (at_ : Int) : Int × Int → Res
 | (r1, r2) => ([(.one (.pv (.int .u64 r1))), (.one (.pv (.int .i64 r2)))], [], [])
def kinfolkref06_number_L0_st (p : List Int) (at_ : Int) : Int → St
 | k => ⟨[(0, (.av (.one (.pv (.ints .u8 p false))))), (1, (.av (.one (.pv (.int .i64 at_))))), (6, (.av (.one (.pv (.int .i64 k)))))], [], []⟩
def kinfolkref06_number_L0_ex (p : List Int) (at_ : Int) : Int → Ex × St
 | r1 => ((.exit 0), ⟨[(0, (.av (.one (.pv (.ints .u8 p false))))), (1, (.av (.one (.pv (.int .i64 at_))))), (6, (.av (.one (.pv (.int .i64 r1)))))], [], []⟩)
noncomputable def kinfolkref06_number_L0_step (p : List Int) (at_ : Int) : Int → Option ((Int) ⊕ (Int))
 | k =>
 bif (decide ((k : Int) < ((p).length : Int))) then
  bif (decide ((k : Int) < (iadd .i64 at_ 9))) then
   bif decide ((0 : Int) ≤ k) && decide ((k : Int) < ((p).length : Int)) then
   bif (decide ((127 : Int) < (p.getD (k).toNat 0))) then
    some (.inl (iadd .i64 k 1))
   else
    some (.inr k)
   else none
  else
   some (.inr k)
 else
  some (.inr k)
theorem kinfolkref06_number_L0_ok (p : List Int) (at_ : Int) (k : Int) (z_ : (Int) ⊕ (Int)) (h : kinfolkref06_number_L0_step p at_ k = some z_) : RoundOk Tryz.prog cfg 118 0 (loopAt Tryz.prog 118 0) (kinfolkref06_number_L0_st p at_) (kinfolkref06_number_L0_ex p at_) k z_ := by
 rcases cond_of h with ⟨h1, h⟩ | ⟨h1, h⟩
 ·rcases cond_of h with ⟨h2, h⟩ | ⟨h2, h⟩
  ·obtain ⟨h3, h⟩ := need_of h
   rcases cond_of h with ⟨h4, h⟩ | ⟨h4, h⟩
   ·have h := some_of h
    subst h
    have t_ := tT h1 <| tT h2 <| tO h3 <| tT h4 <| tN
    exact ⟨t_.ev, kinfolkref06_number_L0_st p at_ (iadd .i64 k 1), .k0 t_.pf (by kernel_rfl), .same (by kernel_rfl)⟩
   ·have h := some_of h
    subst h
    have t_ := tT h1 <| tT h2 <| tO h3 <| tF h4 <| tN
    exact ⟨t_.ev, ⟨[(26, (.av (.one (.pv (.bool false))))), (0, (.av (.one (.pv (.ints .u8 p false))))), (1, (.av (.one (.pv (.int .i64 at_))))), (6, (.av (.one (.pv (.int .i64 k))))), (26, (.av (.one (.pv (.bool (decide ((127 : Int) < (p.getD (k).toNat 0))))))))], [], []⟩, .k0 t_.pf (by kernel_rfl), ⟨⟨⟨_, rfl, .eq rfl⟩, ⟨_, rfl, .eq rfl⟩, ⟨_, rfl, .eq rfl⟩, trivial⟩, trivial, trivial⟩⟩
  ·have h := some_of h
   subst h
   have t_ := tT h1 <| tF h2 <| tF (rfl : false = false) <| tN
   exact ⟨t_.ev, ⟨[(26, (.av (.one (.pv (.bool false))))), (0, (.av (.one (.pv (.ints .u8 p false))))), (1, (.av (.one (.pv (.int .i64 at_))))), (6, (.av (.one (.pv (.int .i64 k))))), (26, (.av (.one (.pv (.bool false)))))], [], []⟩, .k0 t_.pf (by kernel_rfl), ⟨⟨⟨_, rfl, .eq rfl⟩, ⟨_, rfl, .eq rfl⟩, ⟨_, rfl, .eq rfl⟩, trivial⟩, trivial, trivial⟩⟩
 ·have h := some_of h
  subst h
  have t_ := tF h1 <| tF (rfl : false = false) <| tF (rfl : false = false) <| tN
  exact ⟨t_.ev, ⟨[(26, (.av (.one (.pv (.bool false))))), (0, (.av (.one (.pv (.ints .u8 p false))))), (1, (.av (.one (.pv (.int .i64 at_))))), (6, (.av (.one (.pv (.int .i64 k))))), (26, (.av (.one (.pv (.bool false)))))], [], []⟩, .k0 t_.pf (by kernel_rfl), ⟨⟨⟨_, rfl, .eq rfl⟩, ⟨_, rfl, .eq rfl⟩, ⟨_, rfl, .eq rfl⟩, trivial⟩, trivial, trivial⟩⟩
theorem kinfolkref06_number_L0_runs (p : List Int) (at_ : Int) (s_ : Int) (r_ : Int) (h : runL (kinfolkref06_number_L0_step p at_) s_ = some r_) : LRuns Tryz.prog (lEnv Tryz.prog cfg 118 0).nt 0 (.loop (loopAt Tryz.prog 118 0)) (kinfolkref06_number_L0_st p at_ s_) (kinfolkref06_number_L0_ex p at_ r_).1 (kinfolkref06_number_L0_ex p at_ r_).2 :=
 loop_run h (kinfolkref06_number_L0_ok p at_) (by intro r_; rcases r_ with r1 <;> simp [kinfolkref06_number_L0_ex])
def kinfolkref06_number_L1_st (p : List Int) (at_ : Int) (k : Int) : Int × Int → St
 | (n, i) => ⟨[(0, (.av (.one (.pv (.ints .u8 p false))))), (1, (.av (.one (.pv (.int .i64 at_))))), (6, (.av (.one (.pv (.int .i64 k))))), (7, (.av (.one (.pv (.int .u64 n))))), (8, (.av (.one (.pv (.int .i64 i)))))], [], []⟩
def kinfolkref06_number_L1_ex (p : List Int) (at_ : Int) (k : Int) : Int → Ex × St
 | r1 => ((.exit 2), ⟨[(1, (.av (.one (.pv (.int .i64 at_))))), (6, (.av (.one (.pv (.int .i64 k))))), (7, (.av (.one (.pv (.int .u64 r1)))))], [], []⟩)
noncomputable def kinfolkref06_number_L1_step (p : List Int) (at_ : Int) (k : Int) : Int × Int → Option ((Int × Int) ⊕ (Int))
 | (n, i) =>
 bif (decide ((at_ : Int) ≤ i)) then
  bif decide ((0 : Int) ≤ i) && decide ((i : Int) < ((p).length : Int)) then
  some (.inl ((iadd .u64 (imul .u64 128 n) (IntKind.u64.wrap (irem .u8 (p.getD (i).toNat 0) 128))), (isub .i64 i 1)))
  else none
 else
  some (.inr n)
theorem kinfolkref06_number_L1_ok (p : List Int) (at_ : Int) (k : Int) (s_ : Int × Int) (z_ : (Int × Int) ⊕ (Int)) (h : kinfolkref06_number_L1_step p at_ k s_ = some z_) : RoundOk Tryz.prog cfg 118 0 (loopAt Tryz.prog 118 1) (kinfolkref06_number_L1_st p at_ k) (kinfolkref06_number_L1_ex p at_ k) s_ z_ := by
 rcases s_ with ⟨n, i⟩
 rcases cond_of h with ⟨h1, h⟩ | ⟨h1, h⟩
 ·obtain ⟨h2, h⟩ := need_of h
  have h := some_of h
  subst h
  have t_ := tT h1 <| tO h2 <| tO (rfl : true = true) <| tN
  exact ⟨t_.ev, kinfolkref06_number_L1_st p at_ k ((iadd .u64 (imul .u64 128 n) (IntKind.u64.wrap (irem .u8 (p.getD (i).toNat 0) 128))), (isub .i64 i 1)), .k0 t_.pf (by kernel_rfl), .same (by kernel_rfl)⟩
 ·have h := some_of h
  subst h
  have t_ := tF h1 <| tN
  exact ⟨t_.ev, ⟨[(61, (.av (.one (.pv (.bool false))))), (0, (.av (.one (.pv (.ints .u8 p false))))), (1, (.av (.one (.pv (.int .i64 at_))))), (6, (.av (.one (.pv (.int .i64 k))))), (7, (.av (.one (.pv (.int .u64 n))))), (8, (.av (.one (.pv (.int .i64 i))))), (61, (.av (.one (.pv (.bool (decide ((at_ : Int) ≤ i)))))))], [], []⟩, .k0 t_.pf (by kernel_rfl), ⟨⟨⟨_, rfl, .eq rfl⟩, ⟨_, rfl, .eq rfl⟩, ⟨_, rfl, .eq rfl⟩, trivial⟩, trivial, trivial⟩⟩
theorem kinfolkref06_number_L1_runs (p : List Int) (at_ : Int) (k : Int) (s_ : Int × Int) (r_ : Int) (h : runL (kinfolkref06_number_L1_step p at_ k) s_ = some r_) : LRuns Tryz.prog (lEnv Tryz.prog cfg 118 0).nt 0 (.loop (loopAt Tryz.prog 118 1)) (kinfolkref06_number_L1_st p at_ k s_) (kinfolkref06_number_L1_ex p at_ k r_).1 (kinfolkref06_number_L1_ex p at_ k r_).2 :=
 loop_run h (kinfolkref06_number_L1_ok p at_ k) (by intro r_; rcases r_ with r1 <;> simp [kinfolkref06_number_L1_ex])
noncomputable def kinfolkref06_number (p : List Int) (at_ : Int) : Option (Int × Int) :=
 (runL (kinfolkref06_number_L0_step p at_) at_).bind fun n =>
 bif (decide ((((p).length : Int) : Int) ≤ n)) then
  some (0, 0)
 else
  bif (decide ((n : Int) = (iadd .i64 at_ 9))) then
   bif decide ((0 : Int) ≤ n) && decide ((n : Int) < ((p).length : Int)) then
   bif (decide ((1 : Int) < (p.getD (n).toNat 0))) then
    some (0, 0)
   else
    bif (decide ((at_ : Int) < n)) then
     bif (decide (((p.getD (n).toNat 0) : Int) = 0)) then
      some (0, 0)
     else
      (runL (kinfolkref06_number_L1_step p at_ n) (0, n)).bind fun n2 =>
      some (n2, (iadd .i64 (isub .i64 n at_) 1))
    else
     (runL (kinfolkref06_number_L1_step p at_ n) (0, n)).bind fun n2 =>
     some (n2, (iadd .i64 (isub .i64 n at_) 1))
   else none
  else
   bif (decide ((at_ : Int) < n)) then
    bif decide ((0 : Int) ≤ n) && decide ((n : Int) < ((p).length : Int)) then
    bif (decide (((p.getD (n).toNat 0) : Int) = 0)) then
     some (0, 0)
    else
     (runL (kinfolkref06_number_L1_step p at_ n) (0, n)).bind fun n2 =>
     some (n2, (iadd .i64 (isub .i64 n at_) 1))
    else none
   else
    (runL (kinfolkref06_number_L1_step p at_ n) (0, n)).bind fun n2 =>
    some (n2, (iadd .i64 (isub .i64 n at_) 1))
theorem kinfolkref06_number_runs (p : List Int) (at_ : Int) (r_ : Int × Int) (h : kinfolkref06_number p at_ = some r_) : Runs Tryz.prog 118 [(.one (.pv (.ints .u8 p false))), (.one (.pv (.int .i64 at_)))] [] [] (kinfolkref06_number_out p at_ r_) := by
 unfold kinfolkref06_number at h
 obtain ⟨n, h1, h⟩ := bind_of h
 rcases cond_of h with ⟨h2, h⟩ | ⟨h2, h⟩
 ·have h := some_of h
  subst h
  have t_ := tL (kinfolkref06_number_L0_runs p at_ _ _ h1) <| tT h2 <| tT (rfl : true = true) <| tT (rfl : true = true) <| tN
  exact runs_of (C := cfg) (objs := []) (sc := t_.ev) (.k0 t_.pf (by kernel_rfl))
 ·rcases cond_of h with ⟨h3, h⟩ | ⟨h3, h⟩
  ·obtain ⟨h4, h⟩ := need_of h
   rcases cond_of h with ⟨h5, h⟩ | ⟨h5, h⟩
   ·have h := some_of h
    subst h
    have t_ := tL (kinfolkref06_number_L0_runs p at_ _ _ h1) <| tF h2 <| tT h3 <| tO h4 <| tT h5 <| tT (rfl : true = true) <| tN
    exact runs_of (C := cfg) (objs := []) (sc := t_.ev) (.k0 t_.pf (by kernel_rfl))
   ·rcases cond_of h with ⟨h6, h⟩ | ⟨h6, h⟩
    ·rcases cond_of h with ⟨h7, h⟩ | ⟨h7, h⟩
     ·have h := some_of h
      subst h
      have t_ := tL (kinfolkref06_number_L0_runs p at_ _ _ h1) <| tF h2 <| tT h3 <| tO h4 <| tF h5 <| tT h6 <| tO h4 <| tT h7 <| tN
      exact runs_of (C := cfg) (objs := []) (sc := t_.ev) (.k0 t_.pf (by kernel_rfl))
     ·obtain ⟨n2, h8, h⟩ := bind_of h
      have h := some_of h
      subst h
      have t_ := tL (kinfolkref06_number_L0_runs p at_ _ _ h1) <| tF h2 <| tT h3 <| tO h4 <| tF h5 <| tT h6 <| tO h4 <| tF h7 <| tL (kinfolkref06_number_L1_runs p at_ n _ _ h8) <| tN
      exact runs_of (C := cfg) (objs := []) (sc := t_.ev) (.k0 t_.pf (by kernel_rfl))
    ·obtain ⟨n2, h7, h⟩ := bind_of h
     have h := some_of h
     subst h
     have t_ := tL (kinfolkref06_number_L0_runs p at_ _ _ h1) <| tF h2 <| tT h3 <| tO h4 <| tF h5 <| tF h6 <| tF (rfl : false = false) <| tL (kinfolkref06_number_L1_runs p at_ n _ _ h7) <| tN
     exact runs_of (C := cfg) (objs := []) (sc := t_.ev) (.k0 t_.pf (by kernel_rfl))
  ·rcases cond_of h with ⟨h4, h⟩ | ⟨h4, h⟩
   ·obtain ⟨h5, h⟩ := need_of h
    rcases cond_of h with ⟨h6, h⟩ | ⟨h6, h⟩
    ·have h := some_of h
     subst h
     have t_ := tL (kinfolkref06_number_L0_runs p at_ _ _ h1) <| tF h2 <| tF h3 <| tF (rfl : false = false) <| tT h4 <| tO h5 <| tT h6 <| tN
     exact runs_of (C := cfg) (objs := []) (sc := t_.ev) (.k0 t_.pf (by kernel_rfl))
    ·obtain ⟨n2, h7, h⟩ := bind_of h
     have h := some_of h
     subst h
     have t_ := tL (kinfolkref06_number_L0_runs p at_ _ _ h1) <| tF h2 <| tF h3 <| tF (rfl : false = false) <| tT h4 <| tO h5 <| tF h6 <| tL (kinfolkref06_number_L1_runs p at_ n _ _ h7) <| tN
     exact runs_of (C := cfg) (objs := []) (sc := t_.ev) (.k0 t_.pf (by kernel_rfl))
   ·obtain ⟨n2, h5, h⟩ := bind_of h
    have h := some_of h
    subst h
    have t_ := tL (kinfolkref06_number_L0_runs p at_ _ _ h1) <| tF h2 <| tF h3 <| tF (rfl : false = false) <| tF h4 <| tF (rfl : false = false) <| tL (kinfolkref06_number_L1_runs p at_ n _ _ h5) <| tN
    exact runs_of (C := cfg) (objs := []) (sc := t_.ev) (.k0 t_.pf (by kernel_rfl))
noncomputable def kinfolkref06_GetNum (l : List Int) (n : Int) (n2 : Int) : Option (Int × Int × Int) :=
 bif (decide ((n2 : Int) = 0)) then
  (kinfolkref06_number l n).bind fun (n3, n4) =>
  bif (decide ((n4 : Int) = 0)) then
   some (n3, (iadd .i64 n n4), 6)
  else
   some (n3, (iadd .i64 n n4), n2)
 else
  some (0, n, n2)
theorem kinfolkref06_GetNum_runs (l : List Int) (n : Int) (n2 : Int) (r_ : Int × Int × Int) (h : kinfolkref06_GetNum l n n2 = some r_) : Runs Tryz.prog 90 [(.one (.ref 0 0))] [[(.pv (.ints .u8 l false)), (.pv (.int .i64 n)), (.pv (.int .i64 n2))]] [] (kinfolkref06_GetNum_out l n n2 r_) := by
 unfold kinfolkref06_GetNum at h
 rcases cond_of h with ⟨h1, h⟩ | ⟨h1, h⟩
 ·obtain ⟨⟨n3, n4⟩, h2, h⟩ := bind_of h
  rcases cond_of h with ⟨h3, h⟩ | ⟨h3, h⟩
  ·have h := some_of h
   subst h
   have t_ := tF (not_of2 h1) <| tR (kinfolkref06_number_runs l n _ h2) <| tT h3 <| tN
   exact runs_of (C := cfg) (objs := [[(.pv (.ints .u8 l false)), (.pv (.int .i64 n)), (.pv (.int .i64 n2))]]) (sc := t_.ev) (.k1 t_.pf (by kernel_rfl) (by kernel_rfl))
  ·have h := some_of h
   subst h
   have t_ := tF (not_of2 h1) <| tR (kinfolkref06_number_runs l n _ h2) <| tF h3 <| tN
   exact runs_of (C := cfg) (objs := [[(.pv (.ints .u8 l false)), (.pv (.int .i64 n)), (.pv (.int .i64 n2))]]) (sc := t_.ev) (.k1 t_.pf (by kernel_rfl) (by kernel_rfl))
 ·have h := some_of h
  subst h
  have t_ := tT (not_of h1) <| tN
  exact runs_of (C := cfg) (objs := [[(.pv (.ints .u8 l false)), (.pv (.int .i64 n)), (.pv (.int .i64 n2))]]) (sc := t_.ev) (.k0 t_.pf (by kernel_rfl))
def kinfolkref06_Fail_out (e : Int) (l : List Int) (n : Int) (n2 : Int) : Int → Res
 | r1 => ([], [[(.pv (.ints .u8 l false)), (.pv (.int .i64 n)), (.pv (.int .i64 r1))]], [])
noncomputable def kinfolkref06_Fail (e : Int) (l : List Int) (n : Int) (n2 : Int) : Option (Int) :=
 bif (decide ((n2 : Int) = 0)) then
  some e
 else
  some n2
theorem kinfolkref06_Fail_runs (e : Int) (l : List Int) (n : Int) (n2 : Int) (r_ : Int) (h : kinfolkref06_Fail e l n n2 = some r_) : Runs Tryz.prog 91 [(.one (.ref 0 0)), (.one (.pv (.int .i64 e)))] [[(.pv (.ints .u8 l false)), (.pv (.int .i64 n)), (.pv (.int .i64 n2))]] [] (kinfolkref06_Fail_out e l n n2 r_) := by
 unfold kinfolkref06_Fail at h
 rcases cond_of h with ⟨h1, h⟩ | ⟨h1, h⟩
 ·have h := some_of h
  subst h
  have t_ := tT h1 <| tN
  exact runs_of (C := cfg) (objs := [[(.pv (.ints .u8 l false)), (.pv (.int .i64 n)), (.pv (.int .i64 n2))]]) (sc := t_.ev) (.k0 t_.pf (by kernel_rfl))
 ·have h := some_of h
  subst h
  have t_ := tF h1 <| tN
  exact runs_of (C := cfg) (objs := [[(.pv (.ints .u8 l false)), (.pv (.int .i64 n)), (.pv (.int .i64 n2))]]) (sc := t_.ev) (.k0 t_.pf (by kernel_rfl))
def kinfolkref06_Byte_out (l : List Int) (n : Int) (n2 : Int) : Int × Int × Int → Res
 | (r1, r2, r3) => ([(.one (.pv (.int .u8 r1)))], [[(.pv (.ints .u8 l false)), (.pv (.int .i64 r2)), (.pv (.int .i64 r3))]], [])
noncomputable def kinfolkref06_Byte (l : List Int) (n : Int) (n2 : Int) : Option (Int × Int × Int) :=
 bif (decide ((n2 : Int) = 0)) then
  bif (decide ((((l).length : Int) : Int) ≤ n)) then
   some (0, n, 6)
  else
   bif decide ((0 : Int) ≤ (isub .i64 (iadd .i64 n 1) 1)) && decide (((isub .i64 (iadd .i64 n 1) 1) : Int) < ((l).length : Int)) then
   some ((l.getD ((isub .i64 (iadd .i64 n 1) 1)).toNat 0), (iadd .i64 n 1), n2)
   else none
 else
  some (0, n, n2)
theorem kinfolkref06_Byte_runs (l : List Int) (n : Int) (n2 : Int) (r_ : Int × Int × Int) (h : kinfolkref06_Byte l n n2 = some r_) : Runs Tryz.prog 92 [(.one (.ref 0 0))] [[(.pv (.ints .u8 l false)), (.pv (.int .i64 n)), (.pv (.int .i64 n2))]] [] (kinfolkref06_Byte_out l n n2 r_) := by
 unfold kinfolkref06_Byte at h
 rcases cond_of h with ⟨h1, h⟩ | ⟨h1, h⟩
 ·rcases cond_of h with ⟨h2, h⟩ | ⟨h2, h⟩
  ·have h := some_of h
   subst h
   have t_ := tF (not_of2 h1) <| tT h2 <| tN
   exact runs_of (C := cfg) (objs := [[(.pv (.ints .u8 l false)), (.pv (.int .i64 n)), (.pv (.int .i64 n2))]]) (sc := t_.ev) (.k1 t_.pf (by kernel_rfl) (by kernel_rfl))
  ·obtain ⟨h3, h⟩ := need_of h
   have h := some_of h
   subst h
   have t_ := tF (not_of2 h1) <| tF h2 <| tO h3 <| tN
   exact runs_of (C := cfg) (objs := [[(.pv (.ints .u8 l false)), (.pv (.int .i64 n)), (.pv (.int .i64 n2))]]) (sc := t_.ev) (.k1 t_.pf (by kernel_rfl) (by kernel_rfl))
 ·have h := some_of h
  subst h
  have t_ := tT (not_of h1) <| tN
  exact runs_of (C := cfg) (objs := [[(.pv (.ints .u8 l false)), (.pv (.int .i64 n)), (.pv (.int .i64 n2))]]) (sc := t_.ev) (.k0 t_.pf (by kernel_rfl))
def kinfolkref06_GetText_out (most : Int) (l : List Int) (n : Int) (n2 : Int) : ByteArray × Int × Int → Res
 | (r1, r2, r3) => ([(.one (.pv (.str r1)))], [[(.pv (.ints .u8 l false)), (.pv (.int .i64 r2)), (.pv (.int .i64 r3))]], [])
noncomputable def kinfolkref06_GetText (most : Int) (l : List Int) (n : Int) (n2 : Int) : Option (ByteArray × Int × Int) :=
 bif (decide ((n2 : Int) = 0)) then
  (kinfolkref06_number l n).bind fun (n3, n4) =>
  bif (decide ((n4 : Int) = 0)) then
   some ((⟨#[]⟩ : ByteArray), n, 6)
  else
   bif (decide ((most : Int) < 0)) then
    some ((⟨#[]⟩ : ByteArray), n, 9)
   else
    bif (decide (((IntKind.u64.wrap most) : Int) < n3)) then
     some ((⟨#[]⟩ : ByteArray), n, 9)
    else
     bif (decide (((IntKind.u64.wrap (isub .i64 (isub .i64 ((l).length : Int) n) n4)) : Int) < n3)) then
      some ((⟨#[]⟩ : ByteArray), n, 6)
     else
      bif decide ((0 : Int) ≤ (isub .i64 (iadd .i64 n (iadd .i64 n4 (IntKind.i64.wrap n3))) (IntKind.i64.wrap n3))) && decide (((isub .i64 (iadd .i64 n (iadd .i64 n4 (IntKind.i64.wrap n3))) (IntKind.i64.wrap n3)) : Int) ≤ (iadd .i64 n (iadd .i64 n4 (IntKind.i64.wrap n3)))) && decide (((iadd .i64 n (iadd .i64 n4 (IntKind.i64.wrap n3))) : Int) ≤ ((l).length : Int)) && decide (((iadd .i64 n (iadd .i64 n4 (IntKind.i64.wrap n3))) : Int) = (iadd .i64 n (iadd .i64 n4 (IntKind.i64.wrap n3)))) then
      some ((strOf (List.take ((iadd .i64 n (iadd .i64 n4 (IntKind.i64.wrap n3))) - (isub .i64 (iadd .i64 n (iadd .i64 n4 (IntKind.i64.wrap n3))) (IntKind.i64.wrap n3))).toNat (List.drop ((isub .i64 (iadd .i64 n (iadd .i64 n4 (IntKind.i64.wrap n3))) (IntKind.i64.wrap n3))).toNat l))), (iadd .i64 n (iadd .i64 n4 (IntKind.i64.wrap n3))), n2)
      else none
 else
  some ((⟨#[]⟩ : ByteArray), n, n2)
theorem kinfolkref06_GetText_runs (most : Int) (l : List Int) (n : Int) (n2 : Int) (r_ : ByteArray × Int × Int) (h : kinfolkref06_GetText most l n n2 = some r_) : Runs Tryz.prog 113 [(.one (.ref 0 0)), (.one (.pv (.int .i64 most)))] [[(.pv (.ints .u8 l false)), (.pv (.int .i64 n)), (.pv (.int .i64 n2))]] [] (kinfolkref06_GetText_out most l n n2 r_) := by
 unfold kinfolkref06_GetText at h
 rcases cond_of h with ⟨h1, h⟩ | ⟨h1, h⟩
 ·obtain ⟨⟨n3, n4⟩, h2, h⟩ := bind_of h
  rcases cond_of h with ⟨h3, h⟩ | ⟨h3, h⟩
  ·have h := some_of h
   subst h
   have t_ := tF (not_of2 h1) <| tR (kinfolkref06_number_runs l n _ h2) <| tT h3 <| tN
   exact runs_of (C := cfg) (objs := [[(.pv (.ints .u8 l false)), (.pv (.int .i64 n)), (.pv (.int .i64 n2))]]) (sc := t_.ev) (.k1 t_.pf (by kernel_rfl) (by kernel_rfl))
  ·rcases cond_of h with ⟨h4, h⟩ | ⟨h4, h⟩
   ·have h := some_of h
    subst h
    have t_ := tF (not_of2 h1) <| tR (kinfolkref06_number_runs l n _ h2) <| tF h3 <| tT h4 <| tT (rfl : true = true) <| tN
    exact runs_of (C := cfg) (objs := [[(.pv (.ints .u8 l false)), (.pv (.int .i64 n)), (.pv (.int .i64 n2))]]) (sc := t_.ev) (.k1 t_.pf (by kernel_rfl) (by kernel_rfl))
   ·rcases cond_of h with ⟨h5, h⟩ | ⟨h5, h⟩
    ·have h := some_of h
     subst h
     have t_ := tF (not_of2 h1) <| tR (kinfolkref06_number_runs l n _ h2) <| tF h3 <| tF h4 <| tT h5 <| tN
     exact runs_of (C := cfg) (objs := [[(.pv (.ints .u8 l false)), (.pv (.int .i64 n)), (.pv (.int .i64 n2))]]) (sc := t_.ev) (.k1 t_.pf (by kernel_rfl) (by kernel_rfl))
    ·rcases cond_of h with ⟨h6, h⟩ | ⟨h6, h⟩
     ·have h := some_of h
      subst h
      have t_ := tF (not_of2 h1) <| tR (kinfolkref06_number_runs l n _ h2) <| tF h3 <| tF h4 <| tF h5 <| tT h6 <| tN
      exact runs_of (C := cfg) (objs := [[(.pv (.ints .u8 l false)), (.pv (.int .i64 n)), (.pv (.int .i64 n2))]]) (sc := t_.ev) (.k1 t_.pf (by kernel_rfl) (by kernel_rfl))
     ·obtain ⟨h7, h⟩ := need_of h
      have h := some_of h
      subst h
      have t_ := tF (not_of2 h1) <| tR (kinfolkref06_number_runs l n _ h2) <| tF h3 <| tF h4 <| tF h5 <| tF h6 <| tO h7 <| tN
      exact runs_of (C := cfg) (objs := [[(.pv (.ints .u8 l false)), (.pv (.int .i64 n)), (.pv (.int .i64 n2))]]) (sc := t_.ev) (.k1 t_.pf (by kernel_rfl) (by kernel_rfl))
 ·have h := some_of h
  subst h
  have t_ := tT (not_of h1) <| tN
  exact runs_of (C := cfg) (objs := [[(.pv (.ints .u8 l false)), (.pv (.int .i64 n)), (.pv (.int .i64 n2))]]) (sc := t_.ev) (.k0 t_.pf (by kernel_rfl))
def kinfolkref09_Right_out (f : Int) (f2 : ByteArray) (f3 : ByteArray) : Int → Res
 | r1 => ([(.one (.pv (.int .i64 r1)))], [], [])
def kinfolkref08_Check_out (s : ByteArray) (most : Int) : Int → Res
 | r1 => ([(.one (.pv (.int .i64 r1)))], [], [])
def kinfolkref08_sign_2_out (s : ByteArray) (at_ : Int) : Int × Int × Bool → Res
 | (r1, r2, r3) => ([(.one (.pv (.int .i64 r1))), (.one (.pv (.int .i64 r2))), (.one (.pv (.bool r3)))], [], [])
def kinfolkref08_sign_C29_ex (s : ByteArray) (at_ : Int) (b : Int) (b2 : Bool) : (Int × Int × Int) ⊕ (Unit) → Ex × St
 | .inl (r1, r2, r3) => (.normal, ⟨[(0, (.av (.one (.pv (.str s))))), (1, (.av (.one (.pv (.int .i64 at_))))), (8, (.av (.one (.pv (.int .i64 r1))))), (9, (.av (.one (.pv (.int .i64 r2))))), (10, (.av (.one (.pv (.int .i64 r3)))))], [], []⟩)
 | .inr _ => (.ret, ⟨[(4, (.av (.one (.pv (.int .i64 0))))), (5, (.av (.one (.pv (.int .i64 1))))), (6, (.av (.one (.pv (.bool false)))))], [], []⟩)
noncomputable def kinfolkref08_sign_C29 (s : ByteArray) (at_ : Int) (b : Int) (b2 : Bool) : Option ((Int × Int × Int) ⊕ (Unit)) :=
 bif b2 then
  some (.inl (3, 2048, (isub .i64 b 224)))
 else
  bif (decide ((240 : Int) ≤ b)) then
   bif (decide ((b : Int) < 248)) then
    some (.inl (4, 65536, (isub .i64 b 240)))
   else
    some (.inr ())
  else
   some (.inr ())
theorem kinfolkref08_sign_C29_runs (s : ByteArray) (at_ : Int) (b : Int) (b2 : Bool) (r_ : (Int × Int × Int) ⊕ (Unit)) (h : kinfolkref08_sign_C29 s at_ b b2 = some r_) : LRuns Tryz.prog (lEnv Tryz.prog cfg 125 0).nt 0 (.cond (.tmp 29) (condAt Tryz.prog 125 29).1 (condAt Tryz.prog 125 29).2) ⟨[(0, (.av (.one (.pv (.str s))))), (1, (.av (.one (.pv (.int .i64 at_))))), (7, (.av (.one (.pv (.int .i64 b))))), (29, (.av (.one (.pv (.bool b2)))))], [], []⟩ (kinfolkref08_sign_C29_ex s at_ b b2 r_).1 (kinfolkref08_sign_C29_ex s at_ b b2 r_).2 := by
 unfold kinfolkref08_sign_C29 at h
 rcases cond_of h with ⟨h1, h⟩ | ⟨h1, h⟩
 ·have h := some_of h
  subst h
  have t_ := tT h1 <| tN
  exact piece_ok (C := cfg) (sc := t_.ev) (.k0 t_.pf (by kernel_rfl))
 ·rcases cond_of h with ⟨h2, h⟩ | ⟨h2, h⟩
  ·rcases cond_of h with ⟨h3, h⟩ | ⟨h3, h⟩
   ·have h := some_of h
    subst h
    have t_ := tF h1 <| tT h2 <| tT h3 <| tN
    exact piece_ok (C := cfg) (sc := t_.ev) (.k0 t_.pf (by kernel_rfl))
   ·have h := some_of h
    subst h
    have t_ := tF h1 <| tT h2 <| tF h3 <| tN
    exact piece_ok (C := cfg) (sc := t_.ev) (.k0 t_.pf (by kernel_rfl))
  ·have h := some_of h
   subst h
   have t_ := tF h1 <| tF h2 <| tF (rfl : false = false) <| tN
   exact piece_ok (C := cfg) (sc := t_.ev) (.k0 t_.pf (by kernel_rfl))
def kinfolkref08_sign_C20_ex (s : ByteArray) (at_ : Int) (b : Int) (b2 : Bool) : (Int × Int × Int) ⊕ (Unit) → Ex × St
 | .inl (r1, r2, r3) => (.normal, ⟨[(0, (.av (.one (.pv (.str s))))), (1, (.av (.one (.pv (.int .i64 at_))))), (8, (.av (.one (.pv (.int .i64 r1))))), (9, (.av (.one (.pv (.int .i64 r2))))), (10, (.av (.one (.pv (.int .i64 r3)))))], [], []⟩)
 | .inr _ => (.ret, ⟨[(4, (.av (.one (.pv (.int .i64 0))))), (5, (.av (.one (.pv (.int .i64 1))))), (6, (.av (.one (.pv (.bool false)))))], [], []⟩)
noncomputable def kinfolkref08_sign_C20 (s : ByteArray) (at_ : Int) (b : Int) (b2 : Bool) : Option ((Int × Int × Int) ⊕ (Unit)) :=
 bif b2 then
  some (.inl (2, 128, (isub .i64 b 192)))
 else
  bif (decide ((224 : Int) ≤ b)) then
   (kinfolkref08_sign_C29 s at_ b (decide ((b : Int) < 240))).bind fun z_ => match z_ with
   | .inl (n, n2, n3) =>
    some (.inl (n, n2, n3))
   | .inr _ =>
    some (.inr ())
  else
   bif (decide ((240 : Int) ≤ b)) then
    bif (decide ((b : Int) < 248)) then
     some (.inl (4, 65536, (isub .i64 b 240)))
    else
     some (.inr ())
   else
    some (.inr ())
theorem kinfolkref08_sign_C20_runs (s : ByteArray) (at_ : Int) (b : Int) (b2 : Bool) (r_ : (Int × Int × Int) ⊕ (Unit)) (h : kinfolkref08_sign_C20 s at_ b b2 = some r_) : LRuns Tryz.prog (lEnv Tryz.prog cfg 125 0).nt 0 (.cond (.tmp 20) (condAt Tryz.prog 125 20).1 (condAt Tryz.prog 125 20).2) ⟨[(0, (.av (.one (.pv (.str s))))), (1, (.av (.one (.pv (.int .i64 at_))))), (7, (.av (.one (.pv (.int .i64 b))))), (20, (.av (.one (.pv (.bool b2)))))], [], []⟩ (kinfolkref08_sign_C20_ex s at_ b b2 r_).1 (kinfolkref08_sign_C20_ex s at_ b b2 r_).2 := by
 unfold kinfolkref08_sign_C20 at h
 rcases cond_of h with ⟨h1, h⟩ | ⟨h1, h⟩
 ·have h := some_of h
  subst h
  have t_ := tT h1 <| tN
  exact piece_ok (C := cfg) (sc := t_.ev) (.k0 t_.pf (by kernel_rfl))
 ·rcases cond_of h with ⟨h2, h⟩ | ⟨h2, h⟩
  ·obtain ⟨z_, h3, h⟩ := bind_of h
   rcases z_ with ⟨n, n2, n3⟩ | _
   ·have h := some_of h
    subst h
    have t_ := tF h1 <| tT h2 <| tL (kinfolkref08_sign_C29_runs s at_ b (decide ((b : Int) < 240)) _ h3) <| tN
    exact piece_ok (C := cfg) (sc := t_.ev) (.k0 t_.pf (by kernel_rfl))
   ·have h := some_of h
    subst h
    have t_ := tF h1 <| tT h2 <| tL (kinfolkref08_sign_C29_runs s at_ b (decide ((b : Int) < 240)) _ h3) <| tN
    exact piece_ok (C := cfg) (sc := t_.ev) (.k0 t_.pf (by kernel_rfl))
  ·rcases cond_of h with ⟨h3, h⟩ | ⟨h3, h⟩
   ·rcases cond_of h with ⟨h4, h⟩ | ⟨h4, h⟩
    ·have h := some_of h
     subst h
     have t_ := tF h1 <| tF h2 <| tF (rfl : false = false) <| tT h3 <| tT h4 <| tN
     exact piece_ok (C := cfg) (sc := t_.ev) (.k0 t_.pf (by kernel_rfl))
    ·have h := some_of h
     subst h
     have t_ := tF h1 <| tF h2 <| tF (rfl : false = false) <| tT h3 <| tF h4 <| tN
     exact piece_ok (C := cfg) (sc := t_.ev) (.k0 t_.pf (by kernel_rfl))
   ·have h := some_of h
    subst h
    have t_ := tF h1 <| tF h2 <| tF (rfl : false = false) <| tF h3 <| tF (rfl : false = false) <| tN
    exact piece_ok (C := cfg) (sc := t_.ev) (.k0 t_.pf (by kernel_rfl))
def kinfolkref08_sign_L0_st (s : ByteArray) (at_ : Int) (n : Int) (least : Int) : Int × Int → St
 | (x, i) => ⟨[(0, (.av (.one (.pv (.str s))))), (1, (.av (.one (.pv (.int .i64 at_))))), (8, (.av (.one (.pv (.int .i64 n))))), (9, (.av (.one (.pv (.int .i64 least))))), (10, (.av (.one (.pv (.int .i64 x))))), (11, (.av (.one (.pv (.int .i64 i)))))], [], []⟩
def kinfolkref08_sign_L0_ex (s : ByteArray) (at_ : Int) (n : Int) (least : Int) : (Unit) ⊕ (Int) → Ex × St
 | .inl _ => (.ret, ⟨[(4, (.av (.one (.pv (.int .i64 0))))), (5, (.av (.one (.pv (.int .i64 1))))), (6, (.av (.one (.pv (.bool false)))))], [], []⟩)
 | .inr r1 => ((.exit 1), ⟨[(8, (.av (.one (.pv (.int .i64 n))))), (9, (.av (.one (.pv (.int .i64 least))))), (10, (.av (.one (.pv (.int .i64 r1)))))], [], []⟩)
noncomputable def kinfolkref08_sign_L0_step (s : ByteArray) (at_ : Int) (n : Int) (least : Int) : Int × Int → Option ((Int × Int) ⊕ ((Unit) ⊕ (Int)))
 | (x, i) =>
 bif (decide ((i : Int) < n)) then
  bif (decide (((s.size : Int) : Int) ≤ (iadd .i64 at_ i))) then
   some (.inr (.inl ()))
  else
   bif decide ((0 : Int) ≤ (iadd .i64 at_ i)) && decide (((iadd .i64 at_ i) : Int) < (s.size : Int)) then
   bif (decide ((((s.data.getD ((iadd .i64 at_ i)).toNat 0).toNat : Int) : Int) < 128)) then
    some (.inr (.inl ()))
   else
    bif (decide ((191 : Int) < ((s.data.getD ((iadd .i64 at_ i)).toNat 0).toNat : Int))) then
     some (.inr (.inl ()))
    else
     some (.inl ((isub .i64 (iadd .i64 (imul .i64 64 x) (IntKind.i64.wrap ((s.data.getD ((iadd .i64 at_ i)).toNat 0).toNat : Int))) 128), (iadd .i64 i 1)))
   else none
 else
  some (.inr (.inr x))
theorem kinfolkref08_sign_L0_ok (s : ByteArray) (at_ : Int) (n : Int) (least : Int) (s_ : Int × Int) (z_ : (Int × Int) ⊕ ((Unit) ⊕ (Int))) (h : kinfolkref08_sign_L0_step s at_ n least s_ = some z_) : RoundOk Tryz.prog cfg 125 0 (loopAt Tryz.prog 125 0) (kinfolkref08_sign_L0_st s at_ n least) (kinfolkref08_sign_L0_ex s at_ n least) s_ z_ := by
 rcases s_ with ⟨x, i⟩
 rcases cond_of h with ⟨h1, h⟩ | ⟨h1, h⟩
 ·rcases cond_of h with ⟨h2, h⟩ | ⟨h2, h⟩
  ·have h := some_of h
   subst h
   have t_ := tT h1 <| tT h2 <| tT (rfl : true = true) <| tT (rfl : true = true) <| tN
   exact ⟨t_.ev, (kinfolkref08_sign_L0_ex s at_ n least (.inl ())).2, .k0 t_.pf (by kernel_rfl), .same (by kernel_rfl)⟩
  ·obtain ⟨h3, h⟩ := need_of h
   rcases cond_of h with ⟨h4, h⟩ | ⟨h4, h⟩
   ·have h := some_of h
    subst h
    have t_ := tT h1 <| tF h2 <| tO h3 <| tT h4 <| tT (rfl : true = true) <| tN
    exact ⟨t_.ev, (kinfolkref08_sign_L0_ex s at_ n least (.inl ())).2, .k0 t_.pf (by kernel_rfl), .same (by kernel_rfl)⟩
   ·rcases cond_of h with ⟨h5, h⟩ | ⟨h5, h⟩
    ·have h := some_of h
     subst h
     have t_ := tT h1 <| tF h2 <| tO h3 <| tF h4 <| tO h3 <| tT h5 <| tN
     exact ⟨t_.ev, (kinfolkref08_sign_L0_ex s at_ n least (.inl ())).2, .k0 t_.pf (by kernel_rfl), .same (by kernel_rfl)⟩
    ·have h := some_of h
     subst h
     have t_ := tT h1 <| tF h2 <| tO h3 <| tF h4 <| tO h3 <| tF h5 <| tO h3 <| tN
     exact ⟨t_.ev, kinfolkref08_sign_L0_st s at_ n least ((isub .i64 (iadd .i64 (imul .i64 64 x) (IntKind.i64.wrap ((s.data.getD ((iadd .i64 at_ i)).toNat 0).toNat : Int))) 128), (iadd .i64 i 1)), .k0 t_.pf (by kernel_rfl), .same (by kernel_rfl)⟩
 ·have h := some_of h
  subst h
  have t_ := tF h1 <| tN
  exact ⟨t_.ev, ⟨[(49, (.av (.one (.pv (.bool false))))), (0, (.av (.one (.pv (.str s))))), (1, (.av (.one (.pv (.int .i64 at_))))), (8, (.av (.one (.pv (.int .i64 n))))), (9, (.av (.one (.pv (.int .i64 least))))), (10, (.av (.one (.pv (.int .i64 x))))), (11, (.av (.one (.pv (.int .i64 i))))), (49, (.av (.one (.pv (.bool (decide ((i : Int) < n)))))))], [], []⟩, .k0 t_.pf (by kernel_rfl), ⟨⟨⟨_, rfl, .eq rfl⟩, ⟨_, rfl, .eq rfl⟩, ⟨_, rfl, .eq rfl⟩, trivial⟩, trivial, trivial⟩⟩
theorem kinfolkref08_sign_L0_runs (s : ByteArray) (at_ : Int) (n : Int) (least : Int) (s_ : Int × Int) (r_ : (Unit) ⊕ (Int)) (h : runL (kinfolkref08_sign_L0_step s at_ n least) s_ = some r_) : LRuns Tryz.prog (lEnv Tryz.prog cfg 125 0).nt 0 (.loop (loopAt Tryz.prog 125 0)) (kinfolkref08_sign_L0_st s at_ n least s_) (kinfolkref08_sign_L0_ex s at_ n least r_).1 (kinfolkref08_sign_L0_ex s at_ n least r_).2 :=
 loop_run h (kinfolkref08_sign_L0_ok s at_ n least) (by intro r_; rcases r_ with _ | r1 <;> simp [kinfolkref08_sign_L0_ex])
def kinfolkref08_sign_L0_2_st (s : ByteArray) (at_ : Int) : Int × Int → St
 | (x, i) => ⟨[(0, (.av (.one (.pv (.str s))))), (1, (.av (.one (.pv (.int .i64 at_))))), (8, (.av (.one (.pv (.int .i64 4))))), (9, (.av (.one (.pv (.int .i64 65536))))), (10, (.av (.one (.pv (.int .i64 x))))), (11, (.av (.one (.pv (.int .i64 i)))))], [], []⟩
def kinfolkref08_sign_L0_2_ex (s : ByteArray) (at_ : Int) : (Unit) ⊕ (Int) → Ex × St
 | .inl _ => (.ret, ⟨[(4, (.av (.one (.pv (.int .i64 0))))), (5, (.av (.one (.pv (.int .i64 1))))), (6, (.av (.one (.pv (.bool false)))))], [], []⟩)
 | .inr r1 => ((.exit 1), ⟨[(8, (.av (.one (.pv (.int .i64 4))))), (9, (.av (.one (.pv (.int .i64 65536))))), (10, (.av (.one (.pv (.int .i64 r1)))))], [], []⟩)
noncomputable def kinfolkref08_sign_L0_2_step (s : ByteArray) (at_ : Int) : Int × Int → Option ((Int × Int) ⊕ ((Unit) ⊕ (Int)))
 | (x, i) =>
 bif (decide ((i : Int) < 4)) then
  bif (decide (((s.size : Int) : Int) ≤ (iadd .i64 at_ i))) then
   some (.inr (.inl ()))
  else
   bif decide ((0 : Int) ≤ (iadd .i64 at_ i)) && decide (((iadd .i64 at_ i) : Int) < (s.size : Int)) then
   bif (decide ((((s.data.getD ((iadd .i64 at_ i)).toNat 0).toNat : Int) : Int) < 128)) then
    some (.inr (.inl ()))
   else
    bif (decide ((191 : Int) < ((s.data.getD ((iadd .i64 at_ i)).toNat 0).toNat : Int))) then
     some (.inr (.inl ()))
    else
     some (.inl ((isub .i64 (iadd .i64 (imul .i64 64 x) (IntKind.i64.wrap ((s.data.getD ((iadd .i64 at_ i)).toNat 0).toNat : Int))) 128), (iadd .i64 i 1)))
   else none
 else
  some (.inr (.inr x))
theorem kinfolkref08_sign_L0_2_ok (s : ByteArray) (at_ : Int) (s_ : Int × Int) (z_ : (Int × Int) ⊕ ((Unit) ⊕ (Int))) (h : kinfolkref08_sign_L0_2_step s at_ s_ = some z_) : RoundOk Tryz.prog cfg 125 0 (loopAt Tryz.prog 125 0) (kinfolkref08_sign_L0_2_st s at_) (kinfolkref08_sign_L0_2_ex s at_) s_ z_ := by
 rcases s_ with ⟨x, i⟩
 rcases cond_of h with ⟨h1, h⟩ | ⟨h1, h⟩
 ·rcases cond_of h with ⟨h2, h⟩ | ⟨h2, h⟩
  ·have h := some_of h
   subst h
   have t_ := tT h1 <| tT h2 <| tT (rfl : true = true) <| tT (rfl : true = true) <| tN
   exact ⟨t_.ev, (kinfolkref08_sign_L0_2_ex s at_ (.inl ())).2, .k0 t_.pf (by kernel_rfl), .same (by kernel_rfl)⟩
  ·obtain ⟨h3, h⟩ := need_of h
   rcases cond_of h with ⟨h4, h⟩ | ⟨h4, h⟩
   ·have h := some_of h
    subst h
    have t_ := tT h1 <| tF h2 <| tO h3 <| tT h4 <| tT (rfl : true = true) <| tN
    exact ⟨t_.ev, (kinfolkref08_sign_L0_2_ex s at_ (.inl ())).2, .k0 t_.pf (by kernel_rfl), .same (by kernel_rfl)⟩
   ·rcases cond_of h with ⟨h5, h⟩ | ⟨h5, h⟩
    ·have h := some_of h
     subst h
     have t_ := tT h1 <| tF h2 <| tO h3 <| tF h4 <| tO h3 <| tT h5 <| tN
     exact ⟨t_.ev, (kinfolkref08_sign_L0_2_ex s at_ (.inl ())).2, .k0 t_.pf (by kernel_rfl), .same (by kernel_rfl)⟩
    ·have h := some_of h
     subst h
     have t_ := tT h1 <| tF h2 <| tO h3 <| tF h4 <| tO h3 <| tF h5 <| tO h3 <| tN
     exact ⟨t_.ev, kinfolkref08_sign_L0_2_st s at_ ((isub .i64 (iadd .i64 (imul .i64 64 x) (IntKind.i64.wrap ((s.data.getD ((iadd .i64 at_ i)).toNat 0).toNat : Int))) 128), (iadd .i64 i 1)), .k0 t_.pf (by kernel_rfl), .same (by kernel_rfl)⟩
 ·have h := some_of h
  subst h
  have t_ := tF h1 <| tN
  exact ⟨t_.ev, ⟨[(49, (.av (.one (.pv (.bool false))))), (0, (.av (.one (.pv (.str s))))), (1, (.av (.one (.pv (.int .i64 at_))))), (8, (.av (.one (.pv (.int .i64 4))))), (9, (.av (.one (.pv (.int .i64 65536))))), (10, (.av (.one (.pv (.int .i64 x))))), (11, (.av (.one (.pv (.int .i64 i))))), (49, (.av (.one (.pv (.bool (decide ((i : Int) < 4)))))))], [], []⟩, .k0 t_.pf (by kernel_rfl), ⟨⟨⟨_, rfl, .eq rfl⟩, ⟨_, rfl, .eq rfl⟩, ⟨_, rfl, .eq rfl⟩, trivial⟩, trivial, trivial⟩⟩
theorem kinfolkref08_sign_L0_2_runs (s : ByteArray) (at_ : Int) (s_ : Int × Int) (r_ : (Unit) ⊕ (Int)) (h : runL (kinfolkref08_sign_L0_2_step s at_) s_ = some r_) : LRuns Tryz.prog (lEnv Tryz.prog cfg 125 0).nt 0 (.loop (loopAt Tryz.prog 125 0)) (kinfolkref08_sign_L0_2_st s at_ s_) (kinfolkref08_sign_L0_2_ex s at_ r_).1 (kinfolkref08_sign_L0_2_ex s at_ r_).2 :=
 loop_run h (kinfolkref08_sign_L0_2_ok s at_) (by intro r_; rcases r_ with _ | r1 <;> simp [kinfolkref08_sign_L0_2_ex])
noncomputable def kinfolkref08_sign_2 (s : ByteArray) (at_ : Int) : Option (Int × Int × Bool) :=
 bif decide ((0 : Int) ≤ at_) && decide ((at_ : Int) < (s.size : Int)) then
 bif (decide (((IntKind.i64.wrap ((s.data.getD (at_).toNat 0).toNat : Int)) : Int) < 128)) then
  some ((IntKind.i64.wrap ((s.data.getD (at_).toNat 0).toNat : Int)), 1, true)
 else
  bif (decide ((192 : Int) ≤ (IntKind.i64.wrap ((s.data.getD (at_).toNat 0).toNat : Int)))) then
   (kinfolkref08_sign_C20 s at_ (IntKind.i64.wrap ((s.data.getD (at_).toNat 0).toNat : Int)) (decide (((IntKind.i64.wrap ((s.data.getD (at_).toNat 0).toNat : Int)) : Int) < 224))).bind fun z_ => match z_ with
   | .inl (n, n2, n3) =>
    (runL (kinfolkref08_sign_L0_step s at_ n n2) (n3, 1)).bind fun z_ => match z_ with
    | .inl _ =>
     some (0, 1, false)
    | .inr n4 =>
     bif (decide ((n4 : Int) < n2)) then
      some (0, 1, false)
     else
      bif (decide ((1114111 : Int) < n4)) then
       some (0, 1, false)
      else
       bif (decide ((55296 : Int) ≤ n4)) then
        bif (decide ((n4 : Int) < 57344)) then
         some (0, 1, false)
        else
         some (n4, n, true)
       else
        some (n4, n, true)
   | .inr _ =>
    some (0, 1, false)
  else
   bif (decide ((224 : Int) ≤ (IntKind.i64.wrap ((s.data.getD (at_).toNat 0).toNat : Int)))) then
    (kinfolkref08_sign_C29 s at_ (IntKind.i64.wrap ((s.data.getD (at_).toNat 0).toNat : Int)) (decide (((IntKind.i64.wrap ((s.data.getD (at_).toNat 0).toNat : Int)) : Int) < 240))).bind fun z_ => match z_ with
    | .inl (n, n2, n3) =>
     (runL (kinfolkref08_sign_L0_step s at_ n n2) (n3, 1)).bind fun z_ => match z_ with
     | .inl _ =>
      some (0, 1, false)
     | .inr n4 =>
      bif (decide ((n4 : Int) < n2)) then
       some (0, 1, false)
      else
       bif (decide ((1114111 : Int) < n4)) then
        some (0, 1, false)
       else
        bif (decide ((55296 : Int) ≤ n4)) then
         bif (decide ((n4 : Int) < 57344)) then
          some (0, 1, false)
         else
          some (n4, n, true)
        else
         some (n4, n, true)
    | .inr _ =>
     some (0, 1, false)
   else
    bif (decide ((240 : Int) ≤ (IntKind.i64.wrap ((s.data.getD (at_).toNat 0).toNat : Int)))) then
     bif (decide (((IntKind.i64.wrap ((s.data.getD (at_).toNat 0).toNat : Int)) : Int) < 248)) then
      (runL (kinfolkref08_sign_L0_2_step s at_) ((isub .i64 (IntKind.i64.wrap ((s.data.getD (at_).toNat 0).toNat : Int)) 240), 1)).bind fun z_ => match z_ with
      | .inl _ =>
       some (0, 1, false)
      | .inr n =>
       bif (decide ((n : Int) < 65536)) then
        some (0, 1, false)
       else
        bif (decide ((1114111 : Int) < n)) then
         some (0, 1, false)
        else
         bif (decide ((55296 : Int) ≤ n)) then
          bif (decide ((n : Int) < 57344)) then
           some (0, 1, false)
          else
           some (n, 4, true)
         else
          some (n, 4, true)
     else
      some (0, 1, false)
    else
     some (0, 1, false)
 else none
theorem kinfolkref08_sign_2_runs (s : ByteArray) (at_ : Int) (r_ : Int × Int × Bool) (h : kinfolkref08_sign_2 s at_ = some r_) : Runs Tryz.prog 125 [(.one (.pv (.str s))), (.one (.pv (.int .i64 at_)))] [] [] (kinfolkref08_sign_2_out s at_ r_) := by
 unfold kinfolkref08_sign_2 at h
 obtain ⟨h1, h⟩ := need_of h
 rcases cond_of h with ⟨h2, h⟩ | ⟨h2, h⟩
 ·have h := some_of h
  subst h
  have t_ := tO h1 <| tT h2 <| tN
  exact runs_of (C := cfg) (objs := []) (sc := t_.ev) (.k0 t_.pf (by kernel_rfl))
 ·rcases cond_of h with ⟨h3, h⟩ | ⟨h3, h⟩
  ·obtain ⟨z_, h4, h⟩ := bind_of h
   rcases z_ with ⟨n, n2, n3⟩ | _
   ·have q_4 := (kinfolkref08_sign_C20_runs s at_ (IntKind.i64.wrap ((s.data.getD (at_).toNat 0).toNat : Int)) (decide (((IntKind.i64.wrap ((s.data.getD (at_).toNat 0).toNat : Int)) : Int) < 224)) _ h4)
    obtain ⟨z_, h5, h⟩ := bind_of h
    rcases z_ with _ | n4
    ·have h := some_of h
     subst h
     have t_ := tO h1 <| tF h2 <| tT h3 <| tL q_4 <| tL (kinfolkref08_sign_L0_runs s at_ n n2 _ _ h5) <| tN
     exact runs_of (C := cfg) (objs := []) (sc := t_.ev) (.k0 t_.pf (by kernel_rfl))
    ·rcases cond_of h with ⟨h6, h⟩ | ⟨h6, h⟩
     ·have h := some_of h
      subst h
      have t_ := tO h1 <| tF h2 <| tT h3 <| tL q_4 <| tL (kinfolkref08_sign_L0_runs s at_ n n2 _ _ h5) <| tT h6 <| tT (rfl : true = true) <| tT (rfl : true = true) <| tN
      exact runs_of (C := cfg) (objs := []) (sc := t_.ev) (.k0 t_.pf (by kernel_rfl))
     ·rcases cond_of h with ⟨h7, h⟩ | ⟨h7, h⟩
      ·have h := some_of h
       subst h
       have t_ := tO h1 <| tF h2 <| tT h3 <| tL q_4 <| tL (kinfolkref08_sign_L0_runs s at_ n n2 _ _ h5) <| tF h6 <| tT h7 <| tT (rfl : true = true) <| tN
       exact runs_of (C := cfg) (objs := []) (sc := t_.ev) (.k0 t_.pf (by kernel_rfl))
      ·rcases cond_of h with ⟨h8, h⟩ | ⟨h8, h⟩
       ·rcases cond_of h with ⟨h9, h⟩ | ⟨h9, h⟩
        ·have h := some_of h
         subst h
         have t_ := tO h1 <| tF h2 <| tT h3 <| tL q_4 <| tL (kinfolkref08_sign_L0_runs s at_ n n2 _ _ h5) <| tF h6 <| tF h7 <| tT h8 <| tT h9 <| tN
         exact runs_of (C := cfg) (objs := []) (sc := t_.ev) (.k0 t_.pf (by kernel_rfl))
        ·have h := some_of h
         subst h
         have t_ := tO h1 <| tF h2 <| tT h3 <| tL q_4 <| tL (kinfolkref08_sign_L0_runs s at_ n n2 _ _ h5) <| tF h6 <| tF h7 <| tT h8 <| tF h9 <| tN
         exact runs_of (C := cfg) (objs := []) (sc := t_.ev) (.k0 t_.pf (by kernel_rfl))
       ·have h := some_of h
        subst h
        have t_ := tO h1 <| tF h2 <| tT h3 <| tL q_4 <| tL (kinfolkref08_sign_L0_runs s at_ n n2 _ _ h5) <| tF h6 <| tF h7 <| tF h8 <| tF (rfl : false = false) <| tN
        exact runs_of (C := cfg) (objs := []) (sc := t_.ev) (.k0 t_.pf (by kernel_rfl))
   ·have h := some_of h
    subst h
    have t_ := tO h1 <| tF h2 <| tT h3 <| tL (kinfolkref08_sign_C20_runs s at_ (IntKind.i64.wrap ((s.data.getD (at_).toNat 0).toNat : Int)) (decide (((IntKind.i64.wrap ((s.data.getD (at_).toNat 0).toNat : Int)) : Int) < 224)) _ h4) <| tN
    exact runs_of (C := cfg) (objs := []) (sc := t_.ev) (.k0 t_.pf (by kernel_rfl))
  ·rcases cond_of h with ⟨h4, h⟩ | ⟨h4, h⟩
   ·obtain ⟨z_, h5, h⟩ := bind_of h
    rcases z_ with ⟨n, n2, n3⟩ | _
    ·have q_5 := (kinfolkref08_sign_C29_runs s at_ (IntKind.i64.wrap ((s.data.getD (at_).toNat 0).toNat : Int)) (decide (((IntKind.i64.wrap ((s.data.getD (at_).toNat 0).toNat : Int)) : Int) < 240)) _ h5)
     obtain ⟨z_, h6, h⟩ := bind_of h
     rcases z_ with _ | n4
     ·have h := some_of h
      subst h
      have t_ := tO h1 <| tF h2 <| tF h3 <| tF (rfl : false = false) <| tT h4 <| tL q_5 <| tL (kinfolkref08_sign_L0_runs s at_ n n2 _ _ h6) <| tN
      exact runs_of (C := cfg) (objs := []) (sc := t_.ev) (.k0 t_.pf (by kernel_rfl))
     ·rcases cond_of h with ⟨h7, h⟩ | ⟨h7, h⟩
      ·have h := some_of h
       subst h
       have t_ := tO h1 <| tF h2 <| tF h3 <| tF (rfl : false = false) <| tT h4 <| tL q_5 <| tL (kinfolkref08_sign_L0_runs s at_ n n2 _ _ h6) <| tT h7 <| tT (rfl : true = true) <| tT (rfl : true = true) <| tN
       exact runs_of (C := cfg) (objs := []) (sc := t_.ev) (.k0 t_.pf (by kernel_rfl))
      ·rcases cond_of h with ⟨h8, h⟩ | ⟨h8, h⟩
       ·have h := some_of h
        subst h
        have t_ := tO h1 <| tF h2 <| tF h3 <| tF (rfl : false = false) <| tT h4 <| tL q_5 <| tL (kinfolkref08_sign_L0_runs s at_ n n2 _ _ h6) <| tF h7 <| tT h8 <| tT (rfl : true = true) <| tN
        exact runs_of (C := cfg) (objs := []) (sc := t_.ev) (.k0 t_.pf (by kernel_rfl))
       ·rcases cond_of h with ⟨h9, h⟩ | ⟨h9, h⟩
        ·rcases cond_of h with ⟨h10, h⟩ | ⟨h10, h⟩
         ·have h := some_of h
          subst h
          have t_ := tO h1 <| tF h2 <| tF h3 <| tF (rfl : false = false) <| tT h4 <| tL q_5 <| tL (kinfolkref08_sign_L0_runs s at_ n n2 _ _ h6) <| tF h7 <| tF h8 <| tT h9 <| tT h10 <| tN
          exact runs_of (C := cfg) (objs := []) (sc := t_.ev) (.k0 t_.pf (by kernel_rfl))
         ·have h := some_of h
          subst h
          have t_ := tO h1 <| tF h2 <| tF h3 <| tF (rfl : false = false) <| tT h4 <| tL q_5 <| tL (kinfolkref08_sign_L0_runs s at_ n n2 _ _ h6) <| tF h7 <| tF h8 <| tT h9 <| tF h10 <| tN
          exact runs_of (C := cfg) (objs := []) (sc := t_.ev) (.k0 t_.pf (by kernel_rfl))
        ·have h := some_of h
         subst h
         have t_ := tO h1 <| tF h2 <| tF h3 <| tF (rfl : false = false) <| tT h4 <| tL q_5 <| tL (kinfolkref08_sign_L0_runs s at_ n n2 _ _ h6) <| tF h7 <| tF h8 <| tF h9 <| tF (rfl : false = false) <| tN
         exact runs_of (C := cfg) (objs := []) (sc := t_.ev) (.k0 t_.pf (by kernel_rfl))
    ·have h := some_of h
     subst h
     have t_ := tO h1 <| tF h2 <| tF h3 <| tF (rfl : false = false) <| tT h4 <| tL (kinfolkref08_sign_C29_runs s at_ (IntKind.i64.wrap ((s.data.getD (at_).toNat 0).toNat : Int)) (decide (((IntKind.i64.wrap ((s.data.getD (at_).toNat 0).toNat : Int)) : Int) < 240)) _ h5) <| tN
     exact runs_of (C := cfg) (objs := []) (sc := t_.ev) (.k0 t_.pf (by kernel_rfl))
   ·rcases cond_of h with ⟨h5, h⟩ | ⟨h5, h⟩
    ·rcases cond_of h with ⟨h6, h⟩ | ⟨h6, h⟩
     ·obtain ⟨z_, h7, h⟩ := bind_of h
      rcases z_ with _ | n
      ·have h := some_of h
       subst h
       have t_ := tO h1 <| tF h2 <| tF h3 <| tF (rfl : false = false) <| tF h4 <| tF (rfl : false = false) <| tT h5 <| tT h6 <| tL (kinfolkref08_sign_L0_2_runs s at_ _ _ h7) <| tN
       exact runs_of (C := cfg) (objs := []) (sc := t_.ev) (.k0 t_.pf (by kernel_rfl))
      ·rcases cond_of h with ⟨h8, h⟩ | ⟨h8, h⟩
       ·have h := some_of h
        subst h
        have t_ := tO h1 <| tF h2 <| tF h3 <| tF (rfl : false = false) <| tF h4 <| tF (rfl : false = false) <| tT h5 <| tT h6 <| tL (kinfolkref08_sign_L0_2_runs s at_ _ _ h7) <| tT h8 <| tT (rfl : true = true) <| tT (rfl : true = true) <| tN
        exact runs_of (C := cfg) (objs := []) (sc := t_.ev) (.k0 t_.pf (by kernel_rfl))
       ·rcases cond_of h with ⟨h9, h⟩ | ⟨h9, h⟩
        ·have h := some_of h
         subst h
         have t_ := tO h1 <| tF h2 <| tF h3 <| tF (rfl : false = false) <| tF h4 <| tF (rfl : false = false) <| tT h5 <| tT h6 <| tL (kinfolkref08_sign_L0_2_runs s at_ _ _ h7) <| tF h8 <| tT h9 <| tT (rfl : true = true) <| tN
         exact runs_of (C := cfg) (objs := []) (sc := t_.ev) (.k0 t_.pf (by kernel_rfl))
        ·rcases cond_of h with ⟨h10, h⟩ | ⟨h10, h⟩
         ·rcases cond_of h with ⟨h11, h⟩ | ⟨h11, h⟩
          ·have h := some_of h
           subst h
           have t_ := tO h1 <| tF h2 <| tF h3 <| tF (rfl : false = false) <| tF h4 <| tF (rfl : false = false) <| tT h5 <| tT h6 <| tL (kinfolkref08_sign_L0_2_runs s at_ _ _ h7) <| tF h8 <| tF h9 <| tT h10 <| tT h11 <| tN
           exact runs_of (C := cfg) (objs := []) (sc := t_.ev) (.k0 t_.pf (by kernel_rfl))
          ·have h := some_of h
           subst h
           have t_ := tO h1 <| tF h2 <| tF h3 <| tF (rfl : false = false) <| tF h4 <| tF (rfl : false = false) <| tT h5 <| tT h6 <| tL (kinfolkref08_sign_L0_2_runs s at_ _ _ h7) <| tF h8 <| tF h9 <| tT h10 <| tF h11 <| tN
           exact runs_of (C := cfg) (objs := []) (sc := t_.ev) (.k0 t_.pf (by kernel_rfl))
         ·have h := some_of h
          subst h
          have t_ := tO h1 <| tF h2 <| tF h3 <| tF (rfl : false = false) <| tF h4 <| tF (rfl : false = false) <| tT h5 <| tT h6 <| tL (kinfolkref08_sign_L0_2_runs s at_ _ _ h7) <| tF h8 <| tF h9 <| tF h10 <| tF (rfl : false = false) <| tN
          exact runs_of (C := cfg) (objs := []) (sc := t_.ev) (.k0 t_.pf (by kernel_rfl))
     ·have h := some_of h
      subst h
      have t_ := tO h1 <| tF h2 <| tF h3 <| tF (rfl : false = false) <| tF h4 <| tF (rfl : false = false) <| tT h5 <| tF h6 <| tN
      exact runs_of (C := cfg) (objs := []) (sc := t_.ev) (.k0 t_.pf (by kernel_rfl))
    ·have h := some_of h
     subst h
     have t_ := tO h1 <| tF h2 <| tF h3 <| tF (rfl : false = false) <| tF h4 <| tF (rfl : false = false) <| tF h5 <| tF (rfl : false = false) <| tN
     exact runs_of (C := cfg) (objs := []) (sc := t_.ev) (.k0 t_.pf (by kernel_rfl))
def kinfolkref08_Check_L0_st (s : ByteArray) : Int → St
 | at_ => ⟨[(0, (.av (.one (.pv (.str s))))), (5, (.av (.one (.pv (.int .i64 at_)))))], [], []⟩
def kinfolkref08_Check_L0_ex (s : ByteArray) : (Unit) ⊕ (Unit) → Ex × St
 | .inl _ => (.ret, ⟨[(4, (.av (.one (.pv (.int .i64 7)))))], [], []⟩)
 | .inr _ => ((.exit 0), ⟨[], [], []⟩)
noncomputable def kinfolkref08_Check_L0_step (s : ByteArray) : Int → Option ((Int) ⊕ ((Unit) ⊕ (Unit)))
 | at_ =>
 bif (decide ((at_ : Int) < (s.size : Int))) then
  (kinfolkref08_sign_2 s at_).bind fun (n, n2, b) =>
  bif b then
   bif (decide ((n : Int) < 32)) then
    some (.inr (.inl ()))
   else
    bif (decide ((n : Int) = 127)) then
     some (.inr (.inl ()))
    else
     some (.inl (iadd .i64 at_ n2))
  else
   some (.inr (.inl ()))
 else
  some (.inr (.inr ()))
theorem kinfolkref08_Check_L0_ok (s : ByteArray) (at_ : Int) (z_ : (Int) ⊕ ((Unit) ⊕ (Unit))) (h : kinfolkref08_Check_L0_step s at_ = some z_) : RoundOk Tryz.prog cfg 99 0 (loopAt Tryz.prog 99 0) (kinfolkref08_Check_L0_st s) (kinfolkref08_Check_L0_ex s) at_ z_ := by
 rcases cond_of h with ⟨h1, h⟩ | ⟨h1, h⟩
 ·obtain ⟨⟨n, n2, b⟩, h2, h⟩ := bind_of h
  rcases cond_of h with ⟨h3, h⟩ | ⟨h3, h⟩
  ·rcases cond_of h with ⟨h4, h⟩ | ⟨h4, h⟩
   ·have h := some_of h
    subst h
    have t_ := tT h1 <| tR (kinfolkref08_sign_2_runs s at_ _ h2) <| tF (not_of2 h3) <| tT h4 <| tT (rfl : true = true) <| tN
    exact ⟨t_.ev, (kinfolkref08_Check_L0_ex s (.inl ())).2, .k0 t_.pf (by kernel_rfl), .same (by kernel_rfl)⟩
   ·rcases cond_of h with ⟨h5, h⟩ | ⟨h5, h⟩
    ·have h := some_of h
     subst h
     have t_ := tT h1 <| tR (kinfolkref08_sign_2_runs s at_ _ h2) <| tF (not_of2 h3) <| tF h4 <| tT h5 <| tN
     exact ⟨t_.ev, (kinfolkref08_Check_L0_ex s (.inl ())).2, .k0 t_.pf (by kernel_rfl), .same (by kernel_rfl)⟩
    ·have h := some_of h
     subst h
     have t_ := tT h1 <| tR (kinfolkref08_sign_2_runs s at_ _ h2) <| tF (not_of2 h3) <| tF h4 <| tF h5 <| tN
     exact ⟨t_.ev, kinfolkref08_Check_L0_st s (iadd .i64 at_ n2), .k0 t_.pf (by kernel_rfl), .same (by kernel_rfl)⟩
  ·have h := some_of h
   subst h
   have t_ := tT h1 <| tR (kinfolkref08_sign_2_runs s at_ _ h2) <| tT (not_of h3) <| tT (rfl : true = true) <| tT (rfl : true = true) <| tN
   exact ⟨t_.ev, (kinfolkref08_Check_L0_ex s (.inl ())).2, .k0 t_.pf (by kernel_rfl), .same (by kernel_rfl)⟩
 ·have h := some_of h
  subst h
  have t_ := tF h1 <| tN
  exact ⟨t_.ev, ⟨[(16, (.av (.one (.pv (.bool false))))), (0, (.av (.one (.pv (.str s))))), (5, (.av (.one (.pv (.int .i64 at_))))), (16, (.av (.one (.pv (.bool (decide ((at_ : Int) < (s.size : Int))))))))], [], []⟩, .k0 t_.pf (by kernel_rfl), ⟨trivial, trivial, trivial⟩⟩
theorem kinfolkref08_Check_L0_runs (s : ByteArray) (s_ : Int) (r_ : (Unit) ⊕ (Unit)) (h : runL (kinfolkref08_Check_L0_step s) s_ = some r_) : LRuns Tryz.prog (lEnv Tryz.prog cfg 99 0).nt 0 (.loop (loopAt Tryz.prog 99 0)) (kinfolkref08_Check_L0_st s s_) (kinfolkref08_Check_L0_ex s r_).1 (kinfolkref08_Check_L0_ex s r_).2 :=
 loop_run h (kinfolkref08_Check_L0_ok s) (by intro r_; rcases r_ with _ | _ <;> simp [kinfolkref08_Check_L0_ex])
noncomputable def kinfolkref08_Check (s : ByteArray) (most : Int) : Option (Int) :=
 bif (decide ((most : Int) < (s.size : Int))) then
  some 9
 else
  (runL (kinfolkref08_Check_L0_step s) 0).bind fun z_ => match z_ with
  | .inl _ =>
   some 7
  | .inr _ =>
   some 0
theorem kinfolkref08_Check_runs (s : ByteArray) (most : Int) (r_ : Int) (h : kinfolkref08_Check s most = some r_) : Runs Tryz.prog 99 [(.one (.pv (.str s))), (.one (.pv (.int .i64 most)))] [] [] (kinfolkref08_Check_out s most r_) := by
 unfold kinfolkref08_Check at h
 rcases cond_of h with ⟨h1, h⟩ | ⟨h1, h⟩
 ·have h := some_of h
  subst h
  have t_ := tT h1 <| tN
  exact runs_of (C := cfg) (objs := []) (sc := t_.ev) (.k0 t_.pf (by kernel_rfl))
 ·obtain ⟨z_, h2, h⟩ := bind_of h
  rcases z_ with _ | _
  ·have h := some_of h
   subst h
   have t_ := tF h1 <| tL (kinfolkref08_Check_L0_runs s _ _ h2) <| tN
   exact runs_of (C := cfg) (objs := []) (sc := t_.ev) (.k0 t_.pf (by kernel_rfl))
  ·have h := some_of h
   subst h
   have t_ := tF h1 <| tL (kinfolkref08_Check_L0_runs s _ _ h2) <| tN
   exact runs_of (C := cfg) (objs := []) (sc := t_.ev) (.k0 t_.pf (by kernel_rfl))
def kinfolkref08_Fold_out (s : ByteArray) : ByteArray → Res
 | r1 => ([(.one (.pv (.str r1)))], [], [])
def kinfolkref08_Fold_L0_st : ByteArray → St
 | s => ⟨[(0, (.av (.one (.pv (.str s)))))], [], []⟩
def kinfolkref08_Fold_L0_ex : ByteArray → Ex × St
 | r1 => ((.exit 0), ⟨[(0, (.av (.one (.pv (.str r1)))))], [], []⟩)
noncomputable def kinfolkref08_Fold_L0_step : ByteArray → Option ((ByteArray) ⊕ (ByteArray))
 | s =>
 bif (decide ((0 : Int) < (s.size : Int))) then
  bif decide ((0 : Int) ≤ 0) && decide ((0 : Int) < (s.size : Int)) then
  bif (decide ((((s.data.getD 0 0).toNat : Int) : Int) = 32)) then
   bif decide ((0 : Int) ≤ 1) && decide ((1 : Int) ≤ (s.size : Int)) && decide (((s.size : Int) : Int) ≤ (s.size : Int)) then
   some (.inl (s.extract 1 ((s.size : Int)).toNat))
   else none
  else
   some (.inr s)
  else none
 else
  some (.inr s)
theorem kinfolkref08_Fold_L0_ok (s : ByteArray) (z_ : (ByteArray) ⊕ (ByteArray)) (h : kinfolkref08_Fold_L0_step s = some z_) : RoundOk Tryz.prog cfg 100 0 (loopAt Tryz.prog 100 0) (kinfolkref08_Fold_L0_st) (kinfolkref08_Fold_L0_ex) s z_ := by
 rcases cond_of h with ⟨h1, h⟩ | ⟨h1, h⟩
 ·obtain ⟨h2, h⟩ := need_of h
  rcases cond_of h with ⟨h3, h⟩ | ⟨h3, h⟩
  ·obtain ⟨h4, h⟩ := need_of h
   have h := some_of h
   subst h
   have t_ := tT h1 <| tO h2 <| tT h3 <| tO h4 <| tN
   exact ⟨t_.ev, kinfolkref08_Fold_L0_st (s.extract 1 ((s.size : Int)).toNat), .k0 t_.pf (by kernel_rfl), .same (by kernel_rfl)⟩
  ·have h := some_of h
   subst h
   have t_ := tT h1 <| tO h2 <| tF h3 <| tN
   exact ⟨t_.ev, ⟨[(11, (.av (.one (.pv (.bool false))))), (0, (.av (.one (.pv (.str s))))), (11, (.av (.one (.pv (.bool (decide ((((s.data.getD 0 0).toNat : Int) : Int) = 32)))))))], [], []⟩, .k0 t_.pf (by kernel_rfl), ⟨⟨⟨_, rfl, .eq rfl⟩, trivial⟩, trivial, trivial⟩⟩
 ·have h := some_of h
  subst h
  have t_ := tF h1 <| tF (rfl : false = false) <| tN
  exact ⟨t_.ev, ⟨[(11, (.av (.one (.pv (.bool false))))), (0, (.av (.one (.pv (.str s))))), (11, (.av (.one (.pv (.bool false)))))], [], []⟩, .k0 t_.pf (by kernel_rfl), ⟨⟨⟨_, rfl, .eq rfl⟩, trivial⟩, trivial, trivial⟩⟩
theorem kinfolkref08_Fold_L0_runs (s_ : ByteArray) (r_ : ByteArray) (h : runL (kinfolkref08_Fold_L0_step) s_ = some r_) : LRuns Tryz.prog (lEnv Tryz.prog cfg 100 0).nt 0 (.loop (loopAt Tryz.prog 100 0)) (kinfolkref08_Fold_L0_st s_) (kinfolkref08_Fold_L0_ex r_).1 (kinfolkref08_Fold_L0_ex r_).2 :=
 loop_run h (kinfolkref08_Fold_L0_ok) (by intro r_; rcases r_ with r1 <;> simp [kinfolkref08_Fold_L0_ex])
def kinfolkref08_Fold_L1_st : ByteArray → St
 | s => ⟨[(0, (.av (.one (.pv (.str s)))))], [], []⟩
def kinfolkref08_Fold_L1_ex : ByteArray → Ex × St
 | r1 => ((.exit 2), ⟨[(0, (.av (.one (.pv (.str r1)))))], [], []⟩)
noncomputable def kinfolkref08_Fold_L1_step : ByteArray → Option ((ByteArray) ⊕ (ByteArray))
 | s =>
 bif (decide ((0 : Int) < (s.size : Int))) then
  bif decide ((0 : Int) ≤ (isub .i64 (s.size : Int) 1)) && decide (((isub .i64 (s.size : Int) 1) : Int) < (s.size : Int)) then
  bif (decide ((((s.data.getD ((isub .i64 (s.size : Int) 1)).toNat 0).toNat : Int) : Int) = 32)) then
   bif decide ((0 : Int) ≤ 0) && decide ((0 : Int) ≤ (isub .i64 (s.size : Int) 1)) && decide (((isub .i64 (s.size : Int) 1) : Int) ≤ (s.size : Int)) then
   some (.inl (s.extract 0 ((isub .i64 (s.size : Int) 1)).toNat))
   else none
  else
   some (.inr s)
  else none
 else
  some (.inr s)
theorem kinfolkref08_Fold_L1_ok (s : ByteArray) (z_ : (ByteArray) ⊕ (ByteArray)) (h : kinfolkref08_Fold_L1_step s = some z_) : RoundOk Tryz.prog cfg 100 0 (loopAt Tryz.prog 100 1) (kinfolkref08_Fold_L1_st) (kinfolkref08_Fold_L1_ex) s z_ := by
 rcases cond_of h with ⟨h1, h⟩ | ⟨h1, h⟩
 ·obtain ⟨h2, h⟩ := need_of h
  rcases cond_of h with ⟨h3, h⟩ | ⟨h3, h⟩
  ·obtain ⟨h4, h⟩ := need_of h
   have h := some_of h
   subst h
   have t_ := tT h1 <| tO h2 <| tT h3 <| tO h4 <| tN
   exact ⟨t_.ev, kinfolkref08_Fold_L1_st (s.extract 0 ((isub .i64 (s.size : Int) 1)).toNat), .k0 t_.pf (by kernel_rfl), .same (by kernel_rfl)⟩
  ·have h := some_of h
   subst h
   have t_ := tT h1 <| tO h2 <| tF h3 <| tN
   exact ⟨t_.ev, ⟨[(24, (.av (.one (.pv (.bool false))))), (0, (.av (.one (.pv (.str s))))), (24, (.av (.one (.pv (.bool (decide ((((s.data.getD ((isub .i64 (s.size : Int) 1)).toNat 0).toNat : Int) : Int) = 32)))))))], [], []⟩, .k0 t_.pf (by kernel_rfl), ⟨⟨⟨_, rfl, .eq rfl⟩, trivial⟩, trivial, trivial⟩⟩
 ·have h := some_of h
  subst h
  have t_ := tF h1 <| tF (rfl : false = false) <| tN
  exact ⟨t_.ev, ⟨[(24, (.av (.one (.pv (.bool false))))), (0, (.av (.one (.pv (.str s))))), (24, (.av (.one (.pv (.bool false)))))], [], []⟩, .k0 t_.pf (by kernel_rfl), ⟨⟨⟨_, rfl, .eq rfl⟩, trivial⟩, trivial, trivial⟩⟩
theorem kinfolkref08_Fold_L1_runs (s_ : ByteArray) (r_ : ByteArray) (h : runL (kinfolkref08_Fold_L1_step) s_ = some r_) : LRuns Tryz.prog (lEnv Tryz.prog cfg 100 0).nt 0 (.loop (loopAt Tryz.prog 100 1)) (kinfolkref08_Fold_L1_st s_) (kinfolkref08_Fold_L1_ex r_).1 (kinfolkref08_Fold_L1_ex r_).2 :=
 loop_run h (kinfolkref08_Fold_L1_ok) (by intro r_; rcases r_ with r1 <;> simp [kinfolkref08_Fold_L1_ex])
def kinfolkref08_Fold_L2_st (s : ByteArray) : Int → St
 | i => ⟨[(0, (.av (.one (.pv (.str s))))), (3, (.av (.one (.pv (.int .i64 i)))))], [], []⟩
def kinfolkref08_Fold_L2_ex (s : ByteArray) : (ByteArray) ⊕ (Unit) → Ex × St
 | .inl r1 => (.ret, ⟨[(2, (.av (.one (.pv (.str r1)))))], [], []⟩)
 | .inr _ => ((.exit 4), ⟨[(0, (.av (.one (.pv (.str s)))))], [], []⟩)
noncomputable def kinfolkref08_Fold_L2_step (rec_kinfolkref08_Fold : ByteArray → Option (ByteArray)) (s : ByteArray) : Int → Option ((Int) ⊕ ((ByteArray) ⊕ (Unit)))
 | i =>
 bif (decide (((iadd .i64 i 1) : Int) < (s.size : Int))) then
  bif decide ((0 : Int) ≤ i) && decide ((i : Int) < (s.size : Int)) then
  bif (decide ((((s.data.getD (i).toNat 0).toNat : Int) : Int) = 32)) then
   bif decide ((0 : Int) ≤ (iadd .i64 i 1)) && decide (((iadd .i64 i 1) : Int) < (s.size : Int)) then
   bif (decide ((((s.data.getD ((iadd .i64 i 1)).toNat 0).toNat : Int) : Int) = 32)) then
    bif decide ((0 : Int) ≤ 0) && decide ((0 : Int) ≤ i) && decide ((i : Int) ≤ (s.size : Int)) then
    bif decide ((0 : Int) ≤ (iadd .i64 i 1)) && decide (((iadd .i64 i 1) : Int) ≤ (s.size : Int)) && decide (((s.size : Int) : Int) ≤ (s.size : Int)) then
    bif decide ((s.extract 0 (i).toNat).size + (s.extract ((iadd .i64 i 1)).toNat ((s.size : Int)).toNat).size ≤ 140737488355328) then
    (rec_kinfolkref08_Fold ((s.extract 0 (i).toNat) ++ (s.extract ((iadd .i64 i 1)).toNat ((s.size : Int)).toNat))).bind fun s2 =>
    some (.inr (.inl s2))
    else none
    else none
    else none
   else
    some (.inl (iadd .i64 i 1))
   else none
  else
   some (.inl (iadd .i64 i 1))
  else none
 else
  some (.inr (.inr ()))
theorem kinfolkref08_Fold_L2_ok (rec_kinfolkref08_Fold : ByteArray → Option (ByteArray)) (hrec_kinfolkref08_Fold : ∀ s r_, rec_kinfolkref08_Fold s = some r_ → Runs Tryz.prog 100 [(.one (.pv (.str s)))] [] [] (kinfolkref08_Fold_out s r_)) (s : ByteArray) (i : Int) (z_ : (Int) ⊕ ((ByteArray) ⊕ (Unit))) (h : kinfolkref08_Fold_L2_step rec_kinfolkref08_Fold s i = some z_) : RoundOk Tryz.prog cfg 100 0 (loopAt Tryz.prog 100 2) (kinfolkref08_Fold_L2_st s) (kinfolkref08_Fold_L2_ex s) i z_ := by
 rcases cond_of h with ⟨h1, h⟩ | ⟨h1, h⟩
 ·obtain ⟨h2, h⟩ := need_of h
  rcases cond_of h with ⟨h3, h⟩ | ⟨h3, h⟩
  ·obtain ⟨h4, h⟩ := need_of h
   rcases cond_of h with ⟨h5, h⟩ | ⟨h5, h⟩
   ·obtain ⟨h6, h⟩ := need_of h
    obtain ⟨h7, h⟩ := need_of h
    obtain ⟨h8, h⟩ := need_of h
    obtain ⟨s2, h9, h⟩ := bind_of h
    have h := some_of h
    subst h
    have t_ := tT h1 <| tO h2 <| tT h3 <| tO h4 <| tT h5 <| tO h6 <| tO h7 <| tO h8 <| tR (hrec_kinfolkref08_Fold ((s.extract 0 (i).toNat) ++ (s.extract ((iadd .i64 i 1)).toNat ((s.size : Int)).toNat)) _ h9) <| tN
    exact ⟨t_.ev, (kinfolkref08_Fold_L2_ex s (.inl s2)).2, .k0 t_.pf (by kernel_rfl), .same (by kernel_rfl)⟩
   ·have h := some_of h
    subst h
    have t_ := tT h1 <| tO h2 <| tT h3 <| tO h4 <| tF h5 <| tN
    exact ⟨t_.ev, kinfolkref08_Fold_L2_st s (iadd .i64 i 1), .k0 t_.pf (by kernel_rfl), .same (by kernel_rfl)⟩
  ·have h := some_of h
   subst h
   have t_ := tT h1 <| tO h2 <| tF h3 <| tF (rfl : false = false) <| tN
   exact ⟨t_.ev, kinfolkref08_Fold_L2_st s (iadd .i64 i 1), .k0 t_.pf (by kernel_rfl), .same (by kernel_rfl)⟩
 ·have h := some_of h
  subst h
  have t_ := tF h1 <| tN
  exact ⟨t_.ev, ⟨[(34, (.av (.one (.pv (.bool false))))), (0, (.av (.one (.pv (.str s))))), (3, (.av (.one (.pv (.int .i64 i))))), (34, (.av (.one (.pv (.bool (decide (((iadd .i64 i 1) : Int) < (s.size : Int))))))))], [], []⟩, .k0 t_.pf (by kernel_rfl), ⟨⟨⟨_, rfl, .eq rfl⟩, trivial⟩, trivial, trivial⟩⟩
theorem kinfolkref08_Fold_L2_runs (rec_kinfolkref08_Fold : ByteArray → Option (ByteArray)) (hrec_kinfolkref08_Fold : ∀ s r_, rec_kinfolkref08_Fold s = some r_ → Runs Tryz.prog 100 [(.one (.pv (.str s)))] [] [] (kinfolkref08_Fold_out s r_)) (s : ByteArray) (s_ : Int) (r_ : (ByteArray) ⊕ (Unit)) (h : runL (kinfolkref08_Fold_L2_step rec_kinfolkref08_Fold s) s_ = some r_) : LRuns Tryz.prog (lEnv Tryz.prog cfg 100 0).nt 0 (.loop (loopAt Tryz.prog 100 2)) (kinfolkref08_Fold_L2_st s s_) (kinfolkref08_Fold_L2_ex s r_).1 (kinfolkref08_Fold_L2_ex s r_).2 :=
 loop_run h (kinfolkref08_Fold_L2_ok rec_kinfolkref08_Fold hrec_kinfolkref08_Fold s) (by intro r_; rcases r_ with r1 | _ <;> simp [kinfolkref08_Fold_L2_ex])
noncomputable def kinfolkref08_Fold_b (rec_kinfolkref08_Fold : ByteArray → Option (ByteArray)) (s : ByteArray) : Option (ByteArray) :=
 (runL (kinfolkref08_Fold_L0_step) s).bind fun s2 =>
 (runL (kinfolkref08_Fold_L1_step) s2).bind fun s3 =>
 (runL (kinfolkref08_Fold_L2_step rec_kinfolkref08_Fold s3) 0).bind fun z_ => match z_ with
 | .inl s4 =>
  some s4
 | .inr _ =>
  some s3
theorem kinfolkref08_Fold_b_runs (rec_kinfolkref08_Fold : ByteArray → Option (ByteArray)) (hrec_kinfolkref08_Fold : ∀ s r_, rec_kinfolkref08_Fold s = some r_ → Runs Tryz.prog 100 [(.one (.pv (.str s)))] [] [] (kinfolkref08_Fold_out s r_)) (s : ByteArray) (r_ : ByteArray) (h : kinfolkref08_Fold_b rec_kinfolkref08_Fold s = some r_) : Runs Tryz.prog 100 [(.one (.pv (.str s)))] [] [] (kinfolkref08_Fold_out s r_) := by
 unfold kinfolkref08_Fold_b at h
 obtain ⟨s2, h1, h⟩ := bind_of h
 obtain ⟨s3, h2, h⟩ := bind_of h
 obtain ⟨z_, h3, h⟩ := bind_of h
 rcases z_ with s4 | _
 ·have h := some_of h
  subst h
  have t_ := tL (kinfolkref08_Fold_L0_runs _ _ h1) <| tL (kinfolkref08_Fold_L1_runs _ _ h2) <| tL (kinfolkref08_Fold_L2_runs rec_kinfolkref08_Fold hrec_kinfolkref08_Fold s3 _ _ h3) <| tN
  exact runs_of (C := cfg) (objs := []) (sc := t_.ev) (.k0 t_.pf (by kernel_rfl))
 ·have h := some_of h
  subst h
  have t_ := tL (kinfolkref08_Fold_L0_runs _ _ h1) <| tL (kinfolkref08_Fold_L1_runs _ _ h2) <| tL (kinfolkref08_Fold_L2_runs rec_kinfolkref08_Fold hrec_kinfolkref08_Fold s3 _ _ h3) <| tN
  exact runs_of (C := cfg) (objs := []) (sc := t_.ev) (.k0 t_.pf (by kernel_rfl))
noncomputable def kinfolkref08_Fold : Nat → ByteArray → Option (ByteArray)
 | 0, _ => none
 | N + 1, s => kinfolkref08_Fold_b (kinfolkref08_Fold N) s
theorem kinfolkref08_Fold_runs : ∀ (N : Nat) (s : ByteArray) (r_ : ByteArray), kinfolkref08_Fold N s = some r_ → Runs Tryz.prog 100 [(.one (.pv (.str s)))] [] [] (kinfolkref08_Fold_out s r_)
 | 0, _, _, h => by cases h
 | N + 1, s, r_, h => kinfolkref08_Fold_b_runs (kinfolkref08_Fold N) (kinfolkref08_Fold_runs N) s r_ h
def kinfolkref08_Phone_out (s : ByteArray) : Bool → Res
 | r1 => ([(.one (.pv (.bool r1)))], [], [])
def kinfolkref08_Phone_L0_st (s : ByteArray) : Int × Int → St
 | (digits, i) => ⟨[(0, (.av (.one (.pv (.str s))))), (3, (.av (.one (.pv (.int .i64 digits))))), (4, (.av (.one (.pv (.int .i64 i)))))], [], []⟩
def kinfolkref08_Phone_L0_ex (s : ByteArray) : (Unit) ⊕ (Int) → Ex × St
 | .inl _ => (.ret, ⟨[(2, (.av (.one (.pv (.bool false)))))], [], []⟩)
 | .inr r1 => ((.exit 0), ⟨[(0, (.av (.one (.pv (.str s))))), (3, (.av (.one (.pv (.int .i64 r1)))))], [], []⟩)
noncomputable def kinfolkref08_Phone_L0_step (s : ByteArray) : Int × Int → Option ((Int × Int) ⊕ ((Unit) ⊕ (Int)))
 | (digits, i) =>
 bif (decide ((i : Int) < (s.size : Int))) then
  bif decide ((0 : Int) ≤ i) && decide ((i : Int) < (s.size : Int)) then
  bif (decide ((48 : Int) ≤ ((s.data.getD (i).toNat 0).toNat : Int))) then
   bif (decide ((((s.data.getD (i).toNat 0).toNat : Int) : Int) ≤ 57)) then
    some (.inl ((iadd .i64 digits 1), (iadd .i64 i 1)))
   else
    bif (decide ((((s.data.getD (i).toNat 0).toNat : Int) : Int) = 32)) then
     some (.inl (digits, (iadd .i64 i 1)))
    else
     bif (decide ((((s.data.getD (i).toNat 0).toNat : Int) : Int) = 45)) then
      some (.inl (digits, (iadd .i64 i 1)))
     else
      bif (decide ((((s.data.getD (i).toNat 0).toNat : Int) : Int) = 43)) then
       bif (decide ((0 : Int) < i)) then
        some (.inr (.inl ()))
       else
        some (.inl (digits, (iadd .i64 i 1)))
      else
       some (.inr (.inl ()))
  else
   bif (decide ((((s.data.getD (i).toNat 0).toNat : Int) : Int) = 32)) then
    some (.inl (digits, (iadd .i64 i 1)))
   else
    bif (decide ((((s.data.getD (i).toNat 0).toNat : Int) : Int) = 45)) then
     some (.inl (digits, (iadd .i64 i 1)))
    else
     bif (decide ((((s.data.getD (i).toNat 0).toNat : Int) : Int) = 43)) then
      bif (decide ((0 : Int) < i)) then
       some (.inr (.inl ()))
      else
       some (.inl (digits, (iadd .i64 i 1)))
     else
      some (.inr (.inl ()))
  else none
 else
  some (.inr (.inr digits))
theorem kinfolkref08_Phone_L0_ok (s : ByteArray) (s_ : Int × Int) (z_ : (Int × Int) ⊕ ((Unit) ⊕ (Int))) (h : kinfolkref08_Phone_L0_step s s_ = some z_) : RoundOk Tryz.prog cfg 101 0 (loopAt Tryz.prog 101 0) (kinfolkref08_Phone_L0_st s) (kinfolkref08_Phone_L0_ex s) s_ z_ := by
 rcases s_ with ⟨digits, i⟩
 rcases cond_of h with ⟨h1, h⟩ | ⟨h1, h⟩
 ·obtain ⟨h2, h⟩ := need_of h
  rcases cond_of h with ⟨h3, h⟩ | ⟨h3, h⟩
  ·rcases cond_of h with ⟨h4, h⟩ | ⟨h4, h⟩
   ·have h := some_of h
    subst h
    have t_ := tT h1 <| tO h2 <| tT h3 <| tO h2 <| tT h4 <| tN
    exact ⟨t_.ev, kinfolkref08_Phone_L0_st s ((iadd .i64 digits 1), (iadd .i64 i 1)), .k0 t_.pf (by kernel_rfl), .same (by kernel_rfl)⟩
   ·rcases cond_of h with ⟨h5, h⟩ | ⟨h5, h⟩
    ·have h := some_of h
     subst h
     have t_ := tT h1 <| tO h2 <| tT h3 <| tO h2 <| tF h4 <| tO h2 <| tF (not_of2 h5) <| tF (rfl : false = false) <| tF (rfl : false = false) <| tN
     exact ⟨t_.ev, kinfolkref08_Phone_L0_st s (digits, (iadd .i64 i 1)), .k0 t_.pf (by kernel_rfl), .same (by kernel_rfl)⟩
    ·rcases cond_of h with ⟨h6, h⟩ | ⟨h6, h⟩
     ·have h := some_of h
      subst h
      have t_ := tT h1 <| tO h2 <| tT h3 <| tO h2 <| tF h4 <| tO h2 <| tT (not_of h5) <| tO h2 <| tF (not_of2 h6) <| tF (rfl : false = false) <| tN
      exact ⟨t_.ev, kinfolkref08_Phone_L0_st s (digits, (iadd .i64 i 1)), .k0 t_.pf (by kernel_rfl), .same (by kernel_rfl)⟩
     ·rcases cond_of h with ⟨h7, h⟩ | ⟨h7, h⟩
      ·rcases cond_of h with ⟨h8, h⟩ | ⟨h8, h⟩
       ·have h := some_of h
        subst h
        have t_ := tT h1 <| tO h2 <| tT h3 <| tO h2 <| tF h4 <| tO h2 <| tT (not_of h5) <| tO h2 <| tT (not_of h6) <| tO h2 <| tF (not_of2 h7) <| tT h8 <| tN
        exact ⟨t_.ev, (kinfolkref08_Phone_L0_ex s (.inl ())).2, .k0 t_.pf (by kernel_rfl), .same (by kernel_rfl)⟩
       ·have h := some_of h
        subst h
        have t_ := tT h1 <| tO h2 <| tT h3 <| tO h2 <| tF h4 <| tO h2 <| tT (not_of h5) <| tO h2 <| tT (not_of h6) <| tO h2 <| tF (not_of2 h7) <| tF h8 <| tN
        exact ⟨t_.ev, kinfolkref08_Phone_L0_st s (digits, (iadd .i64 i 1)), .k0 t_.pf (by kernel_rfl), .same (by kernel_rfl)⟩
      ·have h := some_of h
       subst h
       have t_ := tT h1 <| tO h2 <| tT h3 <| tO h2 <| tF h4 <| tO h2 <| tT (not_of h5) <| tO h2 <| tT (not_of h6) <| tO h2 <| tT (not_of h7) <| tT (rfl : true = true) <| tN
       exact ⟨t_.ev, (kinfolkref08_Phone_L0_ex s (.inl ())).2, .k0 t_.pf (by kernel_rfl), .same (by kernel_rfl)⟩
  ·rcases cond_of h with ⟨h4, h⟩ | ⟨h4, h⟩
   ·have h := some_of h
    subst h
    have t_ := tT h1 <| tO h2 <| tF h3 <| tF (rfl : false = false) <| tO h2 <| tF (not_of2 h4) <| tF (rfl : false = false) <| tF (rfl : false = false) <| tN
    exact ⟨t_.ev, kinfolkref08_Phone_L0_st s (digits, (iadd .i64 i 1)), .k0 t_.pf (by kernel_rfl), .same (by kernel_rfl)⟩
   ·rcases cond_of h with ⟨h5, h⟩ | ⟨h5, h⟩
    ·have h := some_of h
     subst h
     have t_ := tT h1 <| tO h2 <| tF h3 <| tF (rfl : false = false) <| tO h2 <| tT (not_of h4) <| tO h2 <| tF (not_of2 h5) <| tF (rfl : false = false) <| tN
     exact ⟨t_.ev, kinfolkref08_Phone_L0_st s (digits, (iadd .i64 i 1)), .k0 t_.pf (by kernel_rfl), .same (by kernel_rfl)⟩
    ·rcases cond_of h with ⟨h6, h⟩ | ⟨h6, h⟩
     ·rcases cond_of h with ⟨h7, h⟩ | ⟨h7, h⟩
      ·have h := some_of h
       subst h
       have t_ := tT h1 <| tO h2 <| tF h3 <| tF (rfl : false = false) <| tO h2 <| tT (not_of h4) <| tO h2 <| tT (not_of h5) <| tO h2 <| tF (not_of2 h6) <| tT h7 <| tN
       exact ⟨t_.ev, (kinfolkref08_Phone_L0_ex s (.inl ())).2, .k0 t_.pf (by kernel_rfl), .same (by kernel_rfl)⟩
      ·have h := some_of h
       subst h
       have t_ := tT h1 <| tO h2 <| tF h3 <| tF (rfl : false = false) <| tO h2 <| tT (not_of h4) <| tO h2 <| tT (not_of h5) <| tO h2 <| tF (not_of2 h6) <| tF h7 <| tN
       exact ⟨t_.ev, kinfolkref08_Phone_L0_st s (digits, (iadd .i64 i 1)), .k0 t_.pf (by kernel_rfl), .same (by kernel_rfl)⟩
     ·have h := some_of h
      subst h
      have t_ := tT h1 <| tO h2 <| tF h3 <| tF (rfl : false = false) <| tO h2 <| tT (not_of h4) <| tO h2 <| tT (not_of h5) <| tO h2 <| tT (not_of h6) <| tT (rfl : true = true) <| tN
      exact ⟨t_.ev, (kinfolkref08_Phone_L0_ex s (.inl ())).2, .k0 t_.pf (by kernel_rfl), .same (by kernel_rfl)⟩
 ·have h := some_of h
  subst h
  have t_ := tF h1 <| tN
  exact ⟨t_.ev, ⟨[(8, (.av (.one (.pv (.bool false))))), (0, (.av (.one (.pv (.str s))))), (3, (.av (.one (.pv (.int .i64 digits))))), (4, (.av (.one (.pv (.int .i64 i))))), (8, (.av (.one (.pv (.bool (decide ((i : Int) < (s.size : Int))))))))], [], []⟩, .k0 t_.pf (by kernel_rfl), ⟨⟨⟨_, rfl, .eq rfl⟩, ⟨_, rfl, .eq rfl⟩, trivial⟩, trivial, trivial⟩⟩
theorem kinfolkref08_Phone_L0_runs (s : ByteArray) (s_ : Int × Int) (r_ : (Unit) ⊕ (Int)) (h : runL (kinfolkref08_Phone_L0_step s) s_ = some r_) : LRuns Tryz.prog (lEnv Tryz.prog cfg 101 0).nt 0 (.loop (loopAt Tryz.prog 101 0)) (kinfolkref08_Phone_L0_st s s_) (kinfolkref08_Phone_L0_ex s r_).1 (kinfolkref08_Phone_L0_ex s r_).2 :=
 loop_run h (kinfolkref08_Phone_L0_ok s) (by intro r_; rcases r_ with _ | r1 <;> simp [kinfolkref08_Phone_L0_ex])
end Go.Proofs.YteiikkpajcggfaaGreatDoor
