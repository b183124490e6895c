/- What functions compute, and that they do. -/
import Derived.Test.YteiikkpajcggfaaGreatDoorA3
set_option linter.unusedVariables false
set_option linter.unusedSimpArgs false
set_option maxRecDepth 100000
namespace Go.Proofs.YteiikkpajcggfaaGreatDoor
open Go.Ev
noncomputable def kinfolkref08_Phone (s : ByteArray) : Option (Bool) :=
 (runL (kinfolkref08_Phone_L0_step s) (0, 0)).bind fun z_ => match z_ with
 | .inl _ =>
  some false
 | .inr n =>
  bif (decide ((0 : Int) < n)) then
   some (decide (((s.size : Int) : Int) ≤ 20))
  else
   some false
theorem kinfolkref08_Phone_runs (s : ByteArray) (r_ : Bool) (h : kinfolkref08_Phone s = some r_) : Runs Tryz.prog 101 [(.one (.pv (.str s)))] [] [] (kinfolkref08_Phone_out s r_) := by
 unfold kinfolkref08_Phone at h
 obtain ⟨z_, h1, h⟩ := bind_of h
 rcases z_ with _ | n
 ·have h := some_of h
  subst h
  have t_ := tL (kinfolkref08_Phone_L0_runs s _ _ h1) <| tN
  exact runs_of (C := cfg) (objs := []) (sc := t_.ev) (.k0 t_.pf (by kernel_rfl))
 ·rcases cond_of h with ⟨h2, h⟩ | ⟨h2, h⟩
  ·have h := some_of h
   subst h
   have t_ := tL (kinfolkref08_Phone_L0_runs s _ _ h1) <| tT h2 <| tN
   exact runs_of (C := cfg) (objs := []) (sc := t_.ev) (.k0 t_.pf (by kernel_rfl))
  ·have h := some_of h
   subst h
   have t_ := tL (kinfolkref08_Phone_L0_runs s _ _ h1) <| tF h2 <| tN
   exact runs_of (C := cfg) (objs := []) (sc := t_.ev) (.k0 t_.pf (by kernel_rfl))
def kinfolkref08_Mail_out (s : ByteArray) : Bool → Res
 | r1 => ([(.one (.pv (.bool r1)))], [], [])
def kinfolkref08_Mail_L0_st (s : ByteArray) : Int × Int × Int → St
 | (at_, count, i) => ⟨[(0, (.av (.one (.pv (.str s))))), (3, (.av (.one (.pv (.int .i64 at_))))), (4, (.av (.one (.pv (.int .i64 count))))), (5, (.av (.one (.pv (.int .i64 i)))))], [], []⟩
def kinfolkref08_Mail_L0_ex (s : ByteArray) : (Unit) ⊕ (Int × Int) → Ex × St
 | .inl _ => (.ret, ⟨[(2, (.av (.one (.pv (.bool false)))))], [], []⟩)
 | .inr (r1, r2) => ((.exit 0), ⟨[(0, (.av (.one (.pv (.str s))))), (3, (.av (.one (.pv (.int .i64 r1))))), (4, (.av (.one (.pv (.int .i64 r2)))))], [], []⟩)
noncomputable def kinfolkref08_Mail_L0_step (s : ByteArray) : Int × Int × Int → Option ((Int × Int × Int) ⊕ ((Unit) ⊕ (Int × Int)))
 | (at_, count, i) =>
 bif (decide ((i : Int) < (s.size : Int))) then
  bif decide ((0 : Int) ≤ i) && decide ((i : Int) < (s.size : Int)) then
  bif (decide ((((s.data.getD (i).toNat 0).toNat : Int) : Int) < 33)) then
   some (.inr (.inl ()))
  else
   bif (decide ((126 : Int) < ((s.data.getD (i).toNat 0).toNat : Int))) then
    some (.inr (.inl ()))
   else
    bif (decide ((((s.data.getD (i).toNat 0).toNat : Int) : Int) = 64)) then
     some (.inl (i, (iadd .i64 count 1), (iadd .i64 i 1)))
    else
     some (.inl (at_, count, (iadd .i64 i 1)))
  else none
 else
  some (.inr (.inr (at_, count)))
theorem kinfolkref08_Mail_L0_ok (s : ByteArray) (s_ : Int × Int × Int) (z_ : (Int × Int × Int) ⊕ ((Unit) ⊕ (Int × Int))) (h : kinfolkref08_Mail_L0_step s s_ = some z_) : RoundOk Tryz.prog cfg 102 0 (loopAt Tryz.prog 102 0) (kinfolkref08_Mail_L0_st s) (kinfolkref08_Mail_L0_ex s) s_ z_ := by
 rcases s_ with ⟨at_, count, i⟩
 rcases cond_of h with ⟨h1, h⟩ | ⟨h1, h⟩
 ·obtain ⟨h2, h⟩ := need_of h
  rcases cond_of h with ⟨h3, h⟩ | ⟨h3, h⟩
  ·have h := some_of h
   subst h
   have t_ := tT h1 <| tO h2 <| tT h3 <| tT (rfl : true = true) <| tN
   exact ⟨t_.ev, (kinfolkref08_Mail_L0_ex s (.inl ())).2, .k0 t_.pf (by kernel_rfl), .same (by kernel_rfl)⟩
  ·rcases cond_of h with ⟨h4, h⟩ | ⟨h4, h⟩
   ·have h := some_of h
    subst h
    have t_ := tT h1 <| tO h2 <| tF h3 <| tO h2 <| tT h4 <| tN
    exact ⟨t_.ev, (kinfolkref08_Mail_L0_ex s (.inl ())).2, .k0 t_.pf (by kernel_rfl), .same (by kernel_rfl)⟩
   ·rcases cond_of h with ⟨h5, h⟩ | ⟨h5, h⟩
    ·have h := some_of h
     subst h
     have t_ := tT h1 <| tO h2 <| tF h3 <| tO h2 <| tF h4 <| tO h2 <| tT h5 <| tN
     exact ⟨t_.ev, kinfolkref08_Mail_L0_st s (i, (iadd .i64 count 1), (iadd .i64 i 1)), .k0 t_.pf (by kernel_rfl), .same (by kernel_rfl)⟩
    ·have h := some_of h
     subst h
     have t_ := tT h1 <| tO h2 <| tF h3 <| tO h2 <| tF h4 <| tO h2 <| tF h5 <| tN
     exact ⟨t_.ev, kinfolkref08_Mail_L0_st s (at_, count, (iadd .i64 i 1)), .k0 t_.pf (by kernel_rfl), .same (by kernel_rfl)⟩
 ·have h := some_of h
  subst h
  have t_ := tF h1 <| tN
  exact ⟨t_.ev, ⟨[(11, (.av (.one (.pv (.bool false))))), (0, (.av (.one (.pv (.str s))))), (3, (.av (.one (.pv (.int .i64 at_))))), (4, (.av (.one (.pv (.int .i64 count))))), (5, (.av (.one (.pv (.int .i64 i))))), (11, (.av (.one (.pv (.bool (decide ((i : Int) < (s.size : Int))))))))], [], []⟩, .k0 t_.pf (by kernel_rfl), ⟨⟨⟨_, rfl, .eq rfl⟩, ⟨_, rfl, .eq rfl⟩, ⟨_, rfl, .eq rfl⟩, trivial⟩, trivial, trivial⟩⟩
theorem kinfolkref08_Mail_L0_runs (s : ByteArray) (s_ : Int × Int × Int) (r_ : (Unit) ⊕ (Int × Int)) (h : runL (kinfolkref08_Mail_L0_step s) s_ = some r_) : LRuns Tryz.prog (lEnv Tryz.prog cfg 102 0).nt 0 (.loop (loopAt Tryz.prog 102 0)) (kinfolkref08_Mail_L0_st s s_) (kinfolkref08_Mail_L0_ex s r_).1 (kinfolkref08_Mail_L0_ex s r_).2 :=
 loop_run h (kinfolkref08_Mail_L0_ok s) (by intro r_; rcases r_ with _ | ⟨r1, r2⟩ <;> simp [kinfolkref08_Mail_L0_ex])
def kinfolkref08_Mail_L1_st (where_ : ByteArray) : Int → St
 | i => ⟨[(6, (.av (.one (.pv (.str where_))))), (7, (.av (.one (.pv (.int .i64 i)))))], [], []⟩
def kinfolkref08_Mail_L1_ex (where_ : ByteArray) : (Unit) ⊕ (Unit) → Ex × St
 | .inl _ => (.ret, ⟨[(2, (.av (.one (.pv (.bool true)))))], [], []⟩)
 | .inr _ => ((.exit 2), ⟨[], [], []⟩)
noncomputable def kinfolkref08_Mail_L1_step (where_ : ByteArray) : Int → Option ((Int) ⊕ ((Unit) ⊕ (Unit)))
 | i =>
 bif (decide ((i : Int) < (where_.size : Int))) then
  bif decide ((0 : Int) ≤ i) && decide ((i : Int) < (where_.size : Int)) then
  bif (decide ((((where_.data.getD (i).toNat 0).toNat : Int) : Int) = 46)) then
   some (.inr (.inl ()))
  else
   some (.inl (iadd .i64 i 1))
  else none
 else
  some (.inr (.inr ()))
theorem kinfolkref08_Mail_L1_ok (where_ : ByteArray) (i : Int) (z_ : (Int) ⊕ ((Unit) ⊕ (Unit))) (h : kinfolkref08_Mail_L1_step where_ i = some z_) : RoundOk Tryz.prog cfg 102 0 (loopAt Tryz.prog 102 1) (kinfolkref08_Mail_L1_st where_) (kinfolkref08_Mail_L1_ex where_) i z_ := by
 rcases cond_of h with ⟨h1, h⟩ | ⟨h1, h⟩
 ·obtain ⟨h2, h⟩ := need_of h
  rcases cond_of h with ⟨h3, h⟩ | ⟨h3, h⟩
  ·have h := some_of h
   subst h
   have t_ := tT h1 <| tO h2 <| tT h3 <| tN
   exact ⟨t_.ev, (kinfolkref08_Mail_L1_ex where_ (.inl ())).2, .k0 t_.pf (by kernel_rfl), .same (by kernel_rfl)⟩
  ·have h := some_of h
   subst h
   have t_ := tT h1 <| tO h2 <| tF h3 <| tN
   exact ⟨t_.ev, kinfolkref08_Mail_L1_st where_ (iadd .i64 i 1), .k0 t_.pf (by kernel_rfl), .same (by kernel_rfl)⟩
 ·have h := some_of h
  subst h
  have t_ := tF h1 <| tN
  exact ⟨t_.ev, ⟨[(60, (.av (.one (.pv (.bool false))))), (6, (.av (.one (.pv (.str where_))))), (7, (.av (.one (.pv (.int .i64 i))))), (60, (.av (.one (.pv (.bool (decide ((i : Int) < (where_.size : Int))))))))], [], []⟩, .k0 t_.pf (by kernel_rfl), ⟨trivial, trivial, trivial⟩⟩
theorem kinfolkref08_Mail_L1_runs (where_ : ByteArray) (s_ : Int) (r_ : (Unit) ⊕ (Unit)) (h : runL (kinfolkref08_Mail_L1_step where_) s_ = some r_) : LRuns Tryz.prog (lEnv Tryz.prog cfg 102 0).nt 0 (.loop (loopAt Tryz.prog 102 1)) (kinfolkref08_Mail_L1_st where_ s_) (kinfolkref08_Mail_L1_ex where_ r_).1 (kinfolkref08_Mail_L1_ex where_ r_).2 :=
 loop_run h (kinfolkref08_Mail_L1_ok where_) (by intro r_; rcases r_ with _ | _ <;> simp [kinfolkref08_Mail_L1_ex])
noncomputable def kinfolkref08_Mail (s : ByteArray) : Option (Bool) :=
 (runL (kinfolkref08_Mail_L0_step s) (0, 0, 0)).bind fun z_ => match z_ with
 | .inl _ =>
  some false
 | .inr (n, n2) =>
  bif (decide ((n2 : Int) = 1)) then
   bif (decide ((n : Int) = 0)) then
    some false
   else
    bif decide ((0 : Int) ≤ (iadd .i64 n 1)) && decide (((iadd .i64 n 1) : Int) ≤ (s.size : Int)) && decide (((s.size : Int) : Int) ≤ (s.size : Int)) then
    bif (decide ((((s.extract ((iadd .i64 n 1)).toNat ((s.size : Int)).toNat).size : Int) : Int) = 0)) then
     some false
    else
     bif decide ((0 : Int) ≤ 0) && decide ((0 : Int) < ((s.extract ((iadd .i64 n 1)).toNat ((s.size : Int)).toNat).size : Int)) then
     bif (decide (((((s.extract ((iadd .i64 n 1)).toNat ((s.size : Int)).toNat).data.getD 0 0).toNat : Int) : Int) = 46)) then
      some false
     else
      bif decide ((0 : Int) ≤ (isub .i64 ((s.extract ((iadd .i64 n 1)).toNat ((s.size : Int)).toNat).size : Int) 1)) && decide (((isub .i64 ((s.extract ((iadd .i64 n 1)).toNat ((s.size : Int)).toNat).size : Int) 1) : Int) < ((s.extract ((iadd .i64 n 1)).toNat ((s.size : Int)).toNat).size : Int)) then
      bif (decide (((((s.extract ((iadd .i64 n 1)).toNat ((s.size : Int)).toNat).data.getD ((isub .i64 ((s.extract ((iadd .i64 n 1)).toNat ((s.size : Int)).toNat).size : Int) 1)).toNat 0).toNat : Int) : Int) = 46)) then
       some false
      else
       (runL (kinfolkref08_Mail_L1_step (s.extract ((iadd .i64 n 1)).toNat ((s.size : Int)).toNat)) 0).bind fun z_ => match z_ with
       | .inl _ =>
        some true
       | .inr _ =>
        some false
      else none
     else none
    else none
  else
   some false
theorem kinfolkref08_Mail_runs (s : ByteArray) (r_ : Bool) (h : kinfolkref08_Mail s = some r_) : Runs Tryz.prog 102 [(.one (.pv (.str s)))] [] [] (kinfolkref08_Mail_out s r_) := by
 unfold kinfolkref08_Mail at h
 obtain ⟨z_, h1, h⟩ := bind_of h
 rcases z_ with _ | ⟨n, n2⟩
 ·have h := some_of h
  subst h
  have t_ := tL (kinfolkref08_Mail_L0_runs s _ _ h1) <| tN
  exact runs_of (C := cfg) (objs := []) (sc := t_.ev) (.k0 t_.pf (by kernel_rfl))
 ·rcases cond_of h with ⟨h2, h⟩ | ⟨h2, h⟩
  ·rcases cond_of h with ⟨h3, h⟩ | ⟨h3, h⟩
   ·have h := some_of h
    subst h
    have t_ := tL (kinfolkref08_Mail_L0_runs s _ _ h1) <| tF (not_of2 h2) <| tT h3 <| tN
    exact runs_of (C := cfg) (objs := []) (sc := t_.ev) (.k0 t_.pf (by kernel_rfl))
   ·obtain ⟨h4, h⟩ := need_of h
    rcases cond_of h with ⟨h5, h⟩ | ⟨h5, h⟩
    ·have h := some_of h
     subst h
     have t_ := tL (kinfolkref08_Mail_L0_runs s _ _ h1) <| tF (not_of2 h2) <| tF h3 <| tO h4 <| tT h5 <| tT (rfl : true = true) <| tT (rfl : true = true) <| tN
     exact runs_of (C := cfg) (objs := []) (sc := t_.ev) (.k0 t_.pf (by kernel_rfl))
    ·obtain ⟨h6, h⟩ := need_of h
     rcases cond_of h with ⟨h7, h⟩ | ⟨h7, h⟩
     ·have h := some_of h
      subst h
      have t_ := tL (kinfolkref08_Mail_L0_runs s _ _ h1) <| tF (not_of2 h2) <| tF h3 <| tO h4 <| tF h5 <| tO h6 <| tT h7 <| tT (rfl : true = true) <| tN
      exact runs_of (C := cfg) (objs := []) (sc := t_.ev) (.k0 t_.pf (by kernel_rfl))
     ·obtain ⟨h8, h⟩ := need_of h
      rcases cond_of h with ⟨h9, h⟩ | ⟨h9, h⟩
      ·have h := some_of h
       subst h
       have t_ := tL (kinfolkref08_Mail_L0_runs s _ _ h1) <| tF (not_of2 h2) <| tF h3 <| tO h4 <| tF h5 <| tO h6 <| tF h7 <| tO h8 <| tT h9 <| tN
       exact runs_of (C := cfg) (objs := []) (sc := t_.ev) (.k0 t_.pf (by kernel_rfl))
      ·obtain ⟨z_, h10, h⟩ := bind_of h
       rcases z_ with _ | _
       ·have h := some_of h
        subst h
        have t_ := tL (kinfolkref08_Mail_L0_runs s _ _ h1) <| tF (not_of2 h2) <| tF h3 <| tO h4 <| tF h5 <| tO h6 <| tF h7 <| tO h8 <| tF h9 <| tL (kinfolkref08_Mail_L1_runs (s.extract ((iadd .i64 n 1)).toNat ((s.size : Int)).toNat) _ _ h10) <| tN
        exact runs_of (C := cfg) (objs := []) (sc := t_.ev) (.k0 t_.pf (by kernel_rfl))
       ·have h := some_of h
        subst h
        have t_ := tL (kinfolkref08_Mail_L0_runs s _ _ h1) <| tF (not_of2 h2) <| tF h3 <| tO h4 <| tF h5 <| tO h6 <| tF h7 <| tO h8 <| tF h9 <| tL (kinfolkref08_Mail_L1_runs (s.extract ((iadd .i64 n 1)).toNat ((s.size : Int)).toNat) _ _ h10) <| tN
        exact runs_of (C := cfg) (objs := []) (sc := t_.ev) (.k0 t_.pf (by kernel_rfl))
  ·have h := some_of h
   subst h
   have t_ := tL (kinfolkref08_Mail_L0_runs s _ _ h1) <| tT (not_of h2) <| tT (rfl : true = true) <| tN
   exact runs_of (C := cfg) (objs := []) (sc := t_.ev) (.k0 t_.pf (by kernel_rfl))
noncomputable def kinfolkref09_Right (N : Nat) (f : Int) (f2 : ByteArray) (f3 : ByteArray) : Option (Int) :=
 bif (decide ((f : Int) < 1)) then
  some 1
 else
  bif (decide ((6 : Int) < f)) then
   some 1
  else
   (kinfolkref08_Check f2 12).bind fun n =>
   bif (decide ((n : Int) = 0)) then
    (kinfolkref08_Check f3 40).bind fun n2 =>
    bif (decide ((n2 : Int) = 0)) then
     bif (decide (f3 = (⟨#[]⟩ : ByteArray))) then
      some 7
     else
      (kinfolkref08_Fold N f3).bind fun s =>
      bif decide (s = f3) then
       bif (decide ((f : Int) = 2)) then
        (kinfolkref08_Phone f3).bind fun b =>
        bif b then
         bif (decide ((f : Int) = 3)) then
          (kinfolkref08_Mail f3).bind fun b2 =>
          bif b2 then
           some 0
          else
           some 7
         else
          some 0
        else
         some 7
       else
        bif (decide ((f : Int) = 3)) then
         (kinfolkref08_Mail f3).bind fun b =>
         bif b then
          some 0
         else
          some 7
        else
         some 0
      else
       some 7
    else
     some n2
   else
    some n
theorem kinfolkref09_Right_runs (N : Nat) (f : Int) (f2 : ByteArray) (f3 : ByteArray) (r_ : Int) (h : kinfolkref09_Right N f f2 f3 = some r_) : Runs Tryz.prog 58 [(.agg [(.pv (.int .i64 f)), (.pv (.str f2)), (.pv (.str f3))])] [] [] (kinfolkref09_Right_out f f2 f3 r_) := by
 unfold kinfolkref09_Right at h
 rcases cond_of h with ⟨h1, h⟩ | ⟨h1, h⟩
 ·have h := some_of h
  subst h
  have t_ := tT h1 <| tT (rfl : true = true) <| tN
  exact runs_of (C := cfg) (objs := []) (sc := t_.ev) (.k0 t_.pf (by kernel_rfl))
 ·rcases cond_of h with ⟨h2, h⟩ | ⟨h2, h⟩
  ·have h := some_of h
   subst h
   have t_ := tF h1 <| tT h2 <| tN
   exact runs_of (C := cfg) (objs := []) (sc := t_.ev) (.k0 t_.pf (by kernel_rfl))
  ·obtain ⟨n, h3, h⟩ := bind_of h
   rcases cond_of h with ⟨h4, h⟩ | ⟨h4, h⟩
   ·obtain ⟨n2, h5, h⟩ := bind_of h
    rcases cond_of h with ⟨h6, h⟩ | ⟨h6, h⟩
    ·rcases cond_of h with ⟨h7, h⟩ | ⟨h7, h⟩
     ·have h := some_of h
      subst h
      have t_ := tF h1 <| tF h2 <| tR (kinfolkref08_Check_runs f2 12 _ h3) <| tF (not_of2 h4) <| tR (kinfolkref08_Check_runs f3 40 _ h5) <| tF (not_of2 h6) <| tT h7 <| tT (rfl : true = true) <| tT (rfl : true = true) <| tT (rfl : true = true) <| tN
      exact runs_of (C := cfg) (objs := []) (sc := t_.ev) (.k1 t_.pf (by kernel_rfl) (by kernel_rfl))
     ·obtain ⟨s, h8, h⟩ := bind_of h
      rcases cond_of h with ⟨h9, h⟩ | ⟨h9, h⟩
      ·rcases cond_of h with ⟨h10, h⟩ | ⟨h10, h⟩
       ·obtain ⟨b, h11, h⟩ := bind_of h
        rcases cond_of h with ⟨h12, h⟩ | ⟨h12, h⟩
        ·have p12_ := fun {sc_ : List Ev} {Q_ : Prop} (t_ : Tell sc_ Q_) => tF h1 <| tF h2 <| tR (kinfolkref08_Check_runs f2 12 _ h3) <| tF (not_of2 h4) <| tR (kinfolkref08_Check_runs f3 40 _ h5) <| tF (not_of2 h6) <| tF h7 <| tR (kinfolkref08_Fold_runs N f3 _ h8) <| tR (kinfolkref08_Fold_runs N f3 _ h8) <| tF (not_of2 h9) <| tT h10 <| tR (kinfolkref08_Phone_runs f3 _ h11) <| tF (not_of2 h12) <| t_
         rcases cond_of h with ⟨h13, h⟩ | ⟨h13, h⟩
         ·obtain ⟨b2, h14, h⟩ := bind_of h
          rcases cond_of h with ⟨h15, h⟩ | ⟨h15, h⟩
          ·have h := some_of h
           subst h
           have t_ := p12_ <| tT h13 <| tR (kinfolkref08_Mail_runs f3 _ h14) <| tF (not_of2 h15) <| tN
           exact runs_of (C := cfg) (objs := []) (sc := t_.ev) (.k1 t_.pf (by kernel_rfl) (by kernel_rfl))
          ·have h := some_of h
           subst h
           have t_ := p12_ <| tT h13 <| tR (kinfolkref08_Mail_runs f3 _ h14) <| tT (not_of h15) <| tN
           exact runs_of (C := cfg) (objs := []) (sc := t_.ev) (.k1 t_.pf (by kernel_rfl) (by kernel_rfl))
         ·have h := some_of h
          subst h
          have t_ := p12_ <| tF h13 <| tF (rfl : false = false) <| tN
          exact runs_of (C := cfg) (objs := []) (sc := t_.ev) (.k1 t_.pf (by kernel_rfl) (by kernel_rfl))
        ·have h := some_of h
         subst h
         have t_ := tF h1 <| tF h2 <| tR (kinfolkref08_Check_runs f2 12 _ h3) <| tF (not_of2 h4) <| tR (kinfolkref08_Check_runs f3 40 _ h5) <| tF (not_of2 h6) <| tF h7 <| tR (kinfolkref08_Fold_runs N f3 _ h8) <| tR (kinfolkref08_Fold_runs N f3 _ h8) <| tF (not_of2 h9) <| tT h10 <| tR (kinfolkref08_Phone_runs f3 _ h11) <| tT (not_of h12) <| tT (rfl : true = true) <| tN
         exact runs_of (C := cfg) (objs := []) (sc := t_.ev) (.k1 t_.pf (by kernel_rfl) (by kernel_rfl))
       ·rcases cond_of h with ⟨h11, h⟩ | ⟨h11, h⟩
        ·obtain ⟨b, h12, h⟩ := bind_of h
         have p12_ := fun {sc_ : List Ev} {Q_ : Prop} (t_ : Tell sc_ Q_) => tF h1 <| tF h2 <| tR (kinfolkref08_Check_runs f2 12 _ h3) <| tF (not_of2 h4) <| tR (kinfolkref08_Check_runs f3 40 _ h5) <| tF (not_of2 h6) <| tF h7 <| tR (kinfolkref08_Fold_runs N f3 _ h8) <| tR (kinfolkref08_Fold_runs N f3 _ h8) <| tF (not_of2 h9) <| tF h10 <| tF (rfl : false = false) <| tT h11 <| tR (kinfolkref08_Mail_runs f3 _ h12) <| t_
         rcases cond_of h with ⟨h13, h⟩ | ⟨h13, h⟩
         ·have h := some_of h
          subst h
          have t_ := p12_ <| tF (not_of2 h13) <| tN
          exact runs_of (C := cfg) (objs := []) (sc := t_.ev) (.k1 t_.pf (by kernel_rfl) (by kernel_rfl))
         ·have h := some_of h
          subst h
          have t_ := p12_ <| tT (not_of h13) <| tN
          exact runs_of (C := cfg) (objs := []) (sc := t_.ev) (.k1 t_.pf (by kernel_rfl) (by kernel_rfl))
        ·have h := some_of h
         subst h
         have t_ := tF h1 <| tF h2 <| tR (kinfolkref08_Check_runs f2 12 _ h3) <| tF (not_of2 h4) <| tR (kinfolkref08_Check_runs f3 40 _ h5) <| tF (not_of2 h6) <| tF h7 <| tR (kinfolkref08_Fold_runs N f3 _ h8) <| tR (kinfolkref08_Fold_runs N f3 _ h8) <| tF (not_of2 h9) <| tF h10 <| tF (rfl : false = false) <| tF h11 <| tF (rfl : false = false) <| tN
         exact runs_of (C := cfg) (objs := []) (sc := t_.ev) (.k1 t_.pf (by kernel_rfl) (by kernel_rfl))
      ·have h := some_of h
       subst h
       have t_ := tF h1 <| tF h2 <| tR (kinfolkref08_Check_runs f2 12 _ h3) <| tF (not_of2 h4) <| tR (kinfolkref08_Check_runs f3 40 _ h5) <| tF (not_of2 h6) <| tF h7 <| tR (kinfolkref08_Fold_runs N f3 _ h8) <| tR (kinfolkref08_Fold_runs N f3 _ h8) <| tT (not_of h9) <| tT (rfl : true = true) <| tT (rfl : true = true) <| tN
       exact runs_of (C := cfg) (objs := []) (sc := t_.ev) (.k1 t_.pf (by kernel_rfl) (by kernel_rfl))
    ·have h := some_of h
     subst h
     have t_ := tF h1 <| tF h2 <| tR (kinfolkref08_Check_runs f2 12 _ h3) <| tF (not_of2 h4) <| tR (kinfolkref08_Check_runs f3 40 _ h5) <| tT (not_of h6) <| tN
     exact runs_of (C := cfg) (objs := []) (sc := t_.ev) (.k0 t_.pf (by kernel_rfl))
   ·have h := some_of h
    subst h
    have t_ := tF h1 <| tF h2 <| tR (kinfolkref08_Check_runs f2 12 _ h3) <| tT (not_of h4) <| tN
    exact runs_of (C := cfg) (objs := []) (sc := t_.ev) (.k0 t_.pf (by kernel_rfl))
def kinfolkref09_Less_out (a : Int) (a2 : ByteArray) (a3 : ByteArray) (b : Int) (b2 : ByteArray) (b3 : ByteArray) : Bool → Res
 | r1 => ([(.one (.pv (.bool r1)))], [], [])
def kinfolkref09_before_out (a : ByteArray) (b : ByteArray) : Bool → Res
 | r1 => ([(.one (.pv (.bool r1)))], [], [])
def kinfolkref09_before_L0_st (a : ByteArray) (b : ByteArray) : Int → St
 | i => ⟨[(0, (.av (.one (.pv (.str a))))), (1, (.av (.one (.pv (.str b))))), (5, (.av (.one (.pv (.int .i64 i)))))], [], []⟩
def kinfolkref09_before_L0_ex (a : ByteArray) (b : ByteArray) : (Bool) ⊕ (Unit) → Ex × St
 | .inl r1 => (.ret, ⟨[(4, (.av (.one (.pv (.bool r1)))))], [], []⟩)
 | .inr _ => ((.exit 0), ⟨[(0, (.av (.one (.pv (.str a))))), (1, (.av (.one (.pv (.str b)))))], [], []⟩)
noncomputable def kinfolkref09_before_L0_step (a : ByteArray) (b : ByteArray) : Int → Option ((Int) ⊕ ((Bool) ⊕ (Unit)))
 | i =>
 bif (decide ((i : Int) < (a.size : Int))) then
  bif (decide ((i : Int) < (b.size : Int))) then
   bif decide ((0 : Int) ≤ i) && decide ((i : Int) < (a.size : Int)) then
   bif decide ((0 : Int) ≤ i) && decide ((i : Int) < (b.size : Int)) then
   bif (decide ((((a.data.getD (i).toNat 0).toNat : Int) : Int) = ((b.data.getD (i).toNat 0).toNat : Int))) then
    some (.inl (iadd .i64 i 1))
   else
    some (.inr (.inl (decide ((((a.data.getD (i).toNat 0).toNat : Int) : Int) < ((b.data.getD (i).toNat 0).toNat : Int)))))
   else none
   else none
  else
   some (.inr (.inr ()))
 else
  some (.inr (.inr ()))
theorem kinfolkref09_before_L0_ok (a : ByteArray) (b : ByteArray) (i : Int) (z_ : (Int) ⊕ ((Bool) ⊕ (Unit))) (h : kinfolkref09_before_L0_step a b i = some z_) : RoundOk Tryz.prog cfg 126 0 (loopAt Tryz.prog 126 0) (kinfolkref09_before_L0_st a b) (kinfolkref09_before_L0_ex a b) i z_ := by
 rcases cond_of h with ⟨h1, h⟩ | ⟨h1, h⟩
 ·rcases cond_of h with ⟨h2, h⟩ | ⟨h2, h⟩
  ·obtain ⟨h3, h⟩ := need_of h
   obtain ⟨h4, h⟩ := need_of h
   rcases cond_of h with ⟨h5, h⟩ | ⟨h5, h⟩
   ·have h := some_of h
    subst h
    have t_ := tT h1 <| tT h2 <| tO h3 <| tO h4 <| tF (not_of2 h5) <| tN
    exact ⟨t_.ev, kinfolkref09_before_L0_st a b (iadd .i64 i 1), .k0 t_.pf (by kernel_rfl), .same (by kernel_rfl)⟩
   ·have h := some_of h
    subst h
    have t_ := tT h1 <| tT h2 <| tO h3 <| tO h4 <| tT (not_of h5) <| tO h3 <| tO h4 <| tN
    exact ⟨t_.ev, (kinfolkref09_before_L0_ex a b (.inl (decide ((((a.data.getD (i).toNat 0).toNat : Int) : Int) < ((b.data.getD (i).toNat 0).toNat : Int))))).2, .k0 t_.pf (by kernel_rfl), .same (by kernel_rfl)⟩
  ·have h := some_of h
   subst h
   have t_ := tT h1 <| tF h2 <| tN
   exact ⟨t_.ev, ⟨[(15, (.av (.one (.pv (.bool false))))), (0, (.av (.one (.pv (.str a))))), (1, (.av (.one (.pv (.str b))))), (5, (.av (.one (.pv (.int .i64 i))))), (15, (.av (.one (.pv (.bool (decide ((i : Int) < (b.size : Int))))))))], [], []⟩, .k0 t_.pf (by kernel_rfl), ⟨⟨⟨_, rfl, .eq rfl⟩, ⟨_, rfl, .eq rfl⟩, trivial⟩, trivial, trivial⟩⟩
 ·have h := some_of h
  subst h
  have t_ := tF h1 <| tF (rfl : false = false) <| tN
  exact ⟨t_.ev, ⟨[(15, (.av (.one (.pv (.bool false))))), (0, (.av (.one (.pv (.str a))))), (1, (.av (.one (.pv (.str b))))), (5, (.av (.one (.pv (.int .i64 i))))), (15, (.av (.one (.pv (.bool false)))))], [], []⟩, .k0 t_.pf (by kernel_rfl), ⟨⟨⟨_, rfl, .eq rfl⟩, ⟨_, rfl, .eq rfl⟩, trivial⟩, trivial, trivial⟩⟩
theorem kinfolkref09_before_L0_runs (a : ByteArray) (b : ByteArray) (s_ : Int) (r_ : (Bool) ⊕ (Unit)) (h : runL (kinfolkref09_before_L0_step a b) s_ = some r_) : LRuns Tryz.prog (lEnv Tryz.prog cfg 126 0).nt 0 (.loop (loopAt Tryz.prog 126 0)) (kinfolkref09_before_L0_st a b s_) (kinfolkref09_before_L0_ex a b r_).1 (kinfolkref09_before_L0_ex a b r_).2 :=
 loop_run h (kinfolkref09_before_L0_ok a b) (by intro r_; rcases r_ with r1 | _ <;> simp [kinfolkref09_before_L0_ex])
noncomputable def kinfolkref09_before (a : ByteArray) (b : ByteArray) : Option (Bool) :=
 (runL (kinfolkref09_before_L0_step a b) 0).bind fun z_ => match z_ with
 | .inl b2 =>
  some b2
 | .inr _ =>
  some (decide (((a.size : Int) : Int) < (b.size : Int)))
theorem kinfolkref09_before_runs (a : ByteArray) (b : ByteArray) (r_ : Bool) (h : kinfolkref09_before a b = some r_) : Runs Tryz.prog 126 [(.one (.pv (.str a))), (.one (.pv (.str b)))] [] [] (kinfolkref09_before_out a b r_) := by
 unfold kinfolkref09_before at h
 obtain ⟨z_, h1, h⟩ := bind_of h
 rcases z_ with b2 | _
 ·have h := some_of h
  subst h
  have t_ := tL (kinfolkref09_before_L0_runs a b _ _ h1) <| tN
  exact runs_of (C := cfg) (objs := []) (sc := t_.ev) (.k0 t_.pf (by kernel_rfl))
 ·have h := some_of h
  subst h
  have t_ := tL (kinfolkref09_before_L0_runs a b _ _ h1) <| tN
  exact runs_of (C := cfg) (objs := []) (sc := t_.ev) (.k0 t_.pf (by kernel_rfl))
noncomputable def kinfolkref09_Less (a : Int) (a2 : ByteArray) (a3 : ByteArray) (b : Int) (b2 : ByteArray) (b3 : ByteArray) : Option (Bool) :=
 bif (decide ((a : Int) = b)) then
  bif decide (a2 = b2) then
   (kinfolkref09_before a3 b3).bind fun b4 =>
   some b4
  else
   (kinfolkref09_before a2 b2).bind fun b4 =>
   some b4
 else
  some (decide ((a : Int) < b))
theorem kinfolkref09_Less_runs (a : Int) (a2 : ByteArray) (a3 : ByteArray) (b : Int) (b2 : ByteArray) (b3 : ByteArray) (r_ : Bool) (h : kinfolkref09_Less a a2 a3 b b2 b3 = some r_) : Runs Tryz.prog 103 [(.agg [(.pv (.int .i64 a)), (.pv (.str a2)), (.pv (.str a3))]), (.agg [(.pv (.int .i64 b)), (.pv (.str b2)), (.pv (.str b3))])] [] [] (kinfolkref09_Less_out a a2 a3 b b2 b3 r_) := by
 unfold kinfolkref09_Less at h
 rcases cond_of h with ⟨h1, h⟩ | ⟨h1, h⟩
 ·rcases cond_of h with ⟨h2, h⟩ | ⟨h2, h⟩
  ·obtain ⟨b4, h3, h⟩ := bind_of h
   have h := some_of h
   subst h
   have t_ := tF (not_of2 h1) <| tF (not_of2 h2) <| tR (kinfolkref09_before_runs a3 b3 _ h3) <| tN
   exact runs_of (C := cfg) (objs := []) (sc := t_.ev) (.k0 t_.pf (by kernel_rfl))
  ·obtain ⟨b4, h3, h⟩ := bind_of h
   have h := some_of h
   subst h
   have t_ := tF (not_of2 h1) <| tT (not_of h2) <| tR (kinfolkref09_before_runs a2 b2 _ h3) <| tN
   exact runs_of (C := cfg) (objs := []) (sc := t_.ev) (.k0 t_.pf (by kernel_rfl))
 ·have h := some_of h
  subst h
  have t_ := tT (not_of h1) <| tN
  exact runs_of (C := cfg) (objs := []) (sc := t_.ev) (.k0 t_.pf (by kernel_rfl))
def kinfolkref10_GetCard_L0_2_st (n : Int) (l : List Int) : Int × Int × Int × List E_kinfolkref09_Field → St
 | (k, n2, n3, r) => ⟨[(0, (.av (.one (.ref 0 0)))), (3, (.av (.one (.pv (.int .u64 n))))), (4, (.av (.one (.own 0 0 ((List.map E_kinfolkref09_Field.pv r)).length false)))), (5, (.av (.one (.pv (.int .u64 k)))))], [(0, [(.pv (.ints .u8 l false)), (.pv (.int .i64 n2)), (.pv (.int .i64 n3))])], [(0, (.live (.recs 3 (List.map E_kinfolkref09_Field.pv r))))]⟩
def kinfolkref10_GetCard_L0_2_ex (n : Int) (l : List Int) : Int × Int × List E_kinfolkref09_Field → Ex × St
 | (r1, r2, r3) => ((.exit 0), ⟨[(0, (.av (.one (.ref 0 0)))), (4, (.av (.one (.own 0 0 ((List.map E_kinfolkref09_Field.pv r3)).length false))))], [(0, [(.pv (.ints .u8 l false)), (.pv (.int .i64 r1)), (.pv (.int .i64 r2))])], [(0, (.live (.recs 3 (List.map E_kinfolkref09_Field.pv r3))))]⟩)
noncomputable def kinfolkref10_GetCard_L0_2_step (N : Nat) (n : Int) (l : List Int) : Int × Int × Int × List E_kinfolkref09_Field → Option ((Int × Int × Int × List E_kinfolkref09_Field) ⊕ (Int × Int × List E_kinfolkref09_Field))
 | (k, n2, n3, r) =>
 bif (decide ((k : Int) < n)) then
  bif (decide ((n3 : Int) = 0)) then
   (kinfolkref06_Byte l n2 n3).bind fun (n4, n5, n6) =>
   (kinfolkref06_GetText 12 l n5 n6).bind fun (s, n7, n8) =>
   (kinfolkref06_GetText 40 l n7 n8).bind fun (s2, n9, n10) =>
   bif (decide ((n10 : Int) = 0)) then
    (kinfolkref09_Right N (IntKind.i64.wrap n4) s s2).bind fun n11 =>
    bif (decide ((n11 : Int) = 0)) then
     bif (decide ((0 : Int) < (((List.map E_kinfolkref09_Field.pv r)).length : Int))) then
      bif decide ((0 : Int) ≤ (isub .i64 (((List.map E_kinfolkref09_Field.pv r)).length : Int) 1)) && decide (((isub .i64 (((List.map E_kinfolkref09_Field.pv r)).length : Int) 1) : Int) < (((List.map E_kinfolkref09_Field.pv r)).length : Int)) then
      (r[(0 + ((isub .i64 (((List.map E_kinfolkref09_Field.pv r)).length : Int) 1)).toNat)]?).bind fun e_ => match e_ with
      | .mk n12 s3 s4 =>
      (kinfolkref09_Less n12 s3 s4 (IntKind.i64.wrap n4) s s2).bind fun b =>
      bif b then
       bif fits (((List.map E_kinfolkref09_Field.pv r) ++ ([[(.int .i64 (IntKind.i64.wrap n4)), (.str s), (.str s2)]] : List (List PV)))).length then
       some (.inl ((iadd .u64 k 1), n9, n11, (r ++ [(E_kinfolkref09_Field.mk (IntKind.i64.wrap n4) s s2)])))
       else none
      else
       bif fits (((List.map E_kinfolkref09_Field.pv r) ++ ([[(.int .i64 (IntKind.i64.wrap n4)), (.str s), (.str s2)]] : List (List PV)))).length then
       some (.inl ((iadd .u64 k 1), n9, 6, (r ++ [(E_kinfolkref09_Field.mk (IntKind.i64.wrap n4) s s2)])))
       else none
      else none
     else
      bif fits (((List.map E_kinfolkref09_Field.pv r) ++ ([[(.int .i64 (IntKind.i64.wrap n4)), (.str s), (.str s2)]] : List (List PV)))).length then
      some (.inl ((iadd .u64 k 1), n9, n11, (r ++ [(E_kinfolkref09_Field.mk (IntKind.i64.wrap n4) s s2)])))
      else none
    else
     bif fits (((List.map E_kinfolkref09_Field.pv r) ++ ([[(.int .i64 (IntKind.i64.wrap n4)), (.str s), (.str s2)]] : List (List PV)))).length then
     some (.inl ((iadd .u64 k 1), n9, n11, (r ++ [(E_kinfolkref09_Field.mk (IntKind.i64.wrap n4) s s2)])))
     else none
   else
    bif fits (((List.map E_kinfolkref09_Field.pv r) ++ ([[(.int .i64 (IntKind.i64.wrap n4)), (.str s), (.str s2)]] : List (List PV)))).length then
    some (.inl ((iadd .u64 k 1), n9, n10, (r ++ [(E_kinfolkref09_Field.mk (IntKind.i64.wrap n4) s s2)])))
    else none
  else
   some (.inr (n2, n3, r))
 else
  some (.inr (n2, n3, r))
theorem kinfolkref10_GetCard_L0_2_ok (N : Nat) (n : Int) (l : List Int) (s_ : Int × Int × Int × List E_kinfolkref09_Field) (z_ : (Int × Int × Int × List E_kinfolkref09_Field) ⊕ (Int × Int × List E_kinfolkref09_Field)) (h : kinfolkref10_GetCard_L0_2_step N n l s_ = some z_) : RoundOk Tryz.prog cfg 69 1 (loopAt Tryz.prog 69 0) (kinfolkref10_GetCard_L0_2_st n l) (kinfolkref10_GetCard_L0_2_ex n l) s_ z_ := by
 rcases s_ with ⟨k, n2, n3, r⟩
 rcases cond_of h with ⟨h1, h⟩ | ⟨h1, h⟩
 ·rcases cond_of h with ⟨h2, h⟩ | ⟨h2, h⟩
  ·obtain ⟨⟨n4, n5, n6⟩, h3, h⟩ := bind_of h
   obtain ⟨⟨s, n7, n8⟩, h4, h⟩ := bind_of h
   obtain ⟨⟨s2, n9, n10⟩, h5, h⟩ := bind_of h
   rcases cond_of h with ⟨h6, h⟩ | ⟨h6, h⟩
   ·obtain ⟨n11, h7, h⟩ := bind_of h
    have q_7 := (kinfolkref09_Right_runs N (IntKind.i64.wrap n4) s s2 _ h7)
    rcases cond_of h with ⟨h8, h⟩ | ⟨h8, h⟩
    ·rcases cond_of h with ⟨h9, h⟩ | ⟨h9, h⟩
     ·obtain ⟨h10, h⟩ := need_of h
      obtain ⟨⟨n12, s3, s4⟩, h11, h⟩ := bind_of h
      obtain ⟨b, h12, h⟩ := bind_of h
      have q_12 := (kinfolkref09_Less_runs n12 s3 s4 (IntKind.i64.wrap n4) s s2 _ h12)
      have p12_ := fun {sc_ : List Ev} {Q_ : Prop} (t_ : Tell sc_ Q_) => tT h1 <| tT h2 <| tR (kinfolkref06_Byte_runs l n2 n3 _ h3) <| tR (kinfolkref06_GetText_runs 12 l n5 n6 _ h4) <| tR (kinfolkref06_GetText_runs 40 l n7 n8 _ h5) <| tT h6 <| tR q_7 <| tT h8 <| tT h9 <| tO h10 <| tE (.el [(.int .i64 n12), (.str s3), (.str s4)]) <| tO (el_of (f := E_kinfolkref09_Field.pv) h11) <| tE (.el [(.int .i64 n12), (.str s3), (.str s4)]) <| tO (el_of (f := E_kinfolkref09_Field.pv) h11) <| tR q_12 <| t_
      rcases cond_of h with ⟨h13, h⟩ | ⟨h13, h⟩
      ·obtain ⟨h14, h⟩ := need_of h
       have h := some_of h
       subst h
       have t_ := p12_ <| tF (not_of2 h13) <| tO (show (Nat.beq ((List.map E_kinfolkref09_Field.pv r)).length ((List.map E_kinfolkref09_Field.pv r)).length) = true from Nat.beq_refl _) <| tO h14 <| tN
       exact ⟨t_.ev, ⟨[(0, (.av (.one (.ref 0 0)))), (3, (.av (.one (.pv (.int .u64 n))))), (4, (.av (.one (.own 0 0 (((List.map E_kinfolkref09_Field.pv r) ++ ([[(.int .i64 (IntKind.i64.wrap n4)), (.str s), (.str s2)]] : List (List PV)))).length false)))), (5, (.av (.one (.pv (.int .u64 (iadd .u64 k 1))))))], [(0, [(.pv (.ints .u8 l false)), (.pv (.int .i64 n9)), (.pv (.int .i64 n11))])], [(0, (.live (.recs 3 ((List.map E_kinfolkref09_Field.pv r) ++ ([[(.int .i64 (IntKind.i64.wrap n4)), (.str s), (.str s2)]] : List (List PV))))))]⟩, .k1 t_.pf (by kernel_rfl) (by kernel_rfl), ⟨⟨⟨_, rfl, .eq rfl⟩, ⟨_, rfl, .eq rfl⟩, ⟨_, rfl, .own (by first | rfl | (simp only [List.take_length, List.drop_zero, List.map_take, List.nil_append]; done) | (simp; done) | (simp only [E_card_Field.upd, E_kinfolkref09_Field.upd]; done) | (simp [E_card_Field.pv, E_kinfolkref09_Field.pv]; done))⟩, ⟨_, rfl, .eq rfl⟩, trivial⟩, ⟨⟨rfl, ⟨.eq rfl, .eq rfl, .eq rfl, trivial⟩⟩, trivial⟩, ⟨⟨rfl, .recs (.app (.eq rfl) (.cons (.cons (.eq rfl) (.cons (.eq rfl) (.cons (.eq rfl) (.nil)))) (.nil)))⟩, trivial⟩⟩⟩
      ·obtain ⟨h14, h⟩ := need_of h
       have h := some_of h
       subst h
       have t_ := p12_ <| tT (not_of h13) <| tO (show (Nat.beq ((List.map E_kinfolkref09_Field.pv r)).length ((List.map E_kinfolkref09_Field.pv r)).length) = true from Nat.beq_refl _) <| tO h14 <| tN
       exact ⟨t_.ev, ⟨[(0, (.av (.one (.ref 0 0)))), (3, (.av (.one (.pv (.int .u64 n))))), (4, (.av (.one (.own 0 0 (((List.map E_kinfolkref09_Field.pv r) ++ ([[(.int .i64 (IntKind.i64.wrap n4)), (.str s), (.str s2)]] : List (List PV)))).length false)))), (5, (.av (.one (.pv (.int .u64 (iadd .u64 k 1))))))], [(0, [(.pv (.ints .u8 l false)), (.pv (.int .i64 n9)), (.pv (.int .i64 6))])], [(0, (.live (.recs 3 ((List.map E_kinfolkref09_Field.pv r) ++ ([[(.int .i64 (IntKind.i64.wrap n4)), (.str s), (.str s2)]] : List (List PV))))))]⟩, .k1 t_.pf (by kernel_rfl) (by kernel_rfl), ⟨⟨⟨_, rfl, .eq rfl⟩, ⟨_, rfl, .eq rfl⟩, ⟨_, rfl, .own (by first | rfl | (simp only [List.take_length, List.drop_zero, List.map_take, List.nil_append]; done) | (simp; done) | (simp only [E_card_Field.upd, E_kinfolkref09_Field.upd]; done) | (simp [E_card_Field.pv, E_kinfolkref09_Field.pv]; done))⟩, ⟨_, rfl, .eq rfl⟩, trivial⟩, ⟨⟨rfl, ⟨.eq rfl, .eq rfl, .eq rfl, trivial⟩⟩, trivial⟩, ⟨⟨rfl, .recs (.app (.eq rfl) (.cons (.cons (.eq rfl) (.cons (.eq rfl) (.cons (.eq rfl) (.nil)))) (.nil)))⟩, trivial⟩⟩⟩
     ·obtain ⟨h10, h⟩ := need_of h
      have h := some_of h
      subst h
      have t_ := tT h1 <| tT h2 <| tR (kinfolkref06_Byte_runs l n2 n3 _ h3) <| tR (kinfolkref06_GetText_runs 12 l n5 n6 _ h4) <| tR (kinfolkref06_GetText_runs 40 l n7 n8 _ h5) <| tT h6 <| tR q_7 <| tT h8 <| tF h9 <| tF (rfl : false = false) <| tO (show (Nat.beq ((List.map E_kinfolkref09_Field.pv r)).length ((List.map E_kinfolkref09_Field.pv r)).length) = true from Nat.beq_refl _) <| tO h10 <| tN
      exact ⟨t_.ev, ⟨[(0, (.av (.one (.ref 0 0)))), (3, (.av (.one (.pv (.int .u64 n))))), (4, (.av (.one (.own 0 0 (((List.map E_kinfolkref09_Field.pv r) ++ ([[(.int .i64 (IntKind.i64.wrap n4)), (.str s), (.str s2)]] : List (List PV)))).length false)))), (5, (.av (.one (.pv (.int .u64 (iadd .u64 k 1))))))], [(0, [(.pv (.ints .u8 l false)), (.pv (.int .i64 n9)), (.pv (.int .i64 n11))])], [(0, (.live (.recs 3 ((List.map E_kinfolkref09_Field.pv r) ++ ([[(.int .i64 (IntKind.i64.wrap n4)), (.str s), (.str s2)]] : List (List PV))))))]⟩, .k1 t_.pf (by kernel_rfl) (by kernel_rfl), ⟨⟨⟨_, rfl, .eq rfl⟩, ⟨_, rfl, .eq rfl⟩, ⟨_, rfl, .own (by first | rfl | (simp only [List.take_length, List.drop_zero, List.map_take, List.nil_append]; done) | (simp; done) | (simp only [E_card_Field.upd, E_kinfolkref09_Field.upd]; done) | (simp [E_card_Field.pv, E_kinfolkref09_Field.pv]; done))⟩, ⟨_, rfl, .eq rfl⟩, trivial⟩, ⟨⟨rfl, ⟨.eq rfl, .eq rfl, .eq rfl, trivial⟩⟩, trivial⟩, ⟨⟨rfl, .recs (.app (.eq rfl) (.cons (.cons (.eq rfl) (.cons (.eq rfl) (.cons (.eq rfl) (.nil)))) (.nil)))⟩, trivial⟩⟩⟩
    ·obtain ⟨h9, h⟩ := need_of h
     have h := some_of h
     subst h
     have t_ := tT h1 <| tT h2 <| tR (kinfolkref06_Byte_runs l n2 n3 _ h3) <| tR (kinfolkref06_GetText_runs 12 l n5 n6 _ h4) <| tR (kinfolkref06_GetText_runs 40 l n7 n8 _ h5) <| tT h6 <| tR q_7 <| tF h8 <| tF (rfl : false = false) <| tF (rfl : false = false) <| tO (show (Nat.beq ((List.map E_kinfolkref09_Field.pv r)).length ((List.map E_kinfolkref09_Field.pv r)).length) = true from Nat.beq_refl _) <| tO h9 <| tN
     exact ⟨t_.ev, ⟨[(0, (.av (.one (.ref 0 0)))), (3, (.av (.one (.pv (.int .u64 n))))), (4, (.av (.one (.own 0 0 (((List.map E_kinfolkref09_Field.pv r) ++ ([[(.int .i64 (IntKind.i64.wrap n4)), (.str s), (.str s2)]] : List (List PV)))).length false)))), (5, (.av (.one (.pv (.int .u64 (iadd .u64 k 1))))))], [(0, [(.pv (.ints .u8 l false)), (.pv (.int .i64 n9)), (.pv (.int .i64 n11))])], [(0, (.live (.recs 3 ((List.map E_kinfolkref09_Field.pv r) ++ ([[(.int .i64 (IntKind.i64.wrap n4)), (.str s), (.str s2)]] : List (List PV))))))]⟩, .k1 t_.pf (by kernel_rfl) (by kernel_rfl), ⟨⟨⟨_, rfl, .eq rfl⟩, ⟨_, rfl, .eq rfl⟩, ⟨_, rfl, .own (by first | rfl | (simp only [List.take_length, List.drop_zero, List.map_take, List.nil_append]; done) | (simp; done) | (simp only [E_card_Field.upd, E_kinfolkref09_Field.upd]; done) | (simp [E_card_Field.pv, E_kinfolkref09_Field.pv]; done))⟩, ⟨_, rfl, .eq rfl⟩, trivial⟩, ⟨⟨rfl, ⟨.eq rfl, .eq rfl, .eq rfl, trivial⟩⟩, trivial⟩, ⟨⟨rfl, .recs (.app (.eq rfl) (.cons (.cons (.eq rfl) (.cons (.eq rfl) (.cons (.eq rfl) (.nil)))) (.nil)))⟩, trivial⟩⟩⟩
   ·obtain ⟨h7, h⟩ := need_of h
    have h := some_of h
    subst h
    have t_ := tT h1 <| tT h2 <| tR (kinfolkref06_Byte_runs l n2 n3 _ h3) <| tR (kinfolkref06_GetText_runs 12 l n5 n6 _ h4) <| tR (kinfolkref06_GetText_runs 40 l n7 n8 _ h5) <| tF h6 <| tF h6 <| tF (rfl : false = false) <| tF (rfl : false = false) <| tO (show (Nat.beq ((List.map E_kinfolkref09_Field.pv r)).length ((List.map E_kinfolkref09_Field.pv r)).length) = true from Nat.beq_refl _) <| tO h7 <| tN
    exact ⟨t_.ev, ⟨[(0, (.av (.one (.ref 0 0)))), (3, (.av (.one (.pv (.int .u64 n))))), (4, (.av (.one (.own 0 0 (((List.map E_kinfolkref09_Field.pv r) ++ ([[(.int .i64 (IntKind.i64.wrap n4)), (.str s), (.str s2)]] : List (List PV)))).length false)))), (5, (.av (.one (.pv (.int .u64 (iadd .u64 k 1))))))], [(0, [(.pv (.ints .u8 l false)), (.pv (.int .i64 n9)), (.pv (.int .i64 n10))])], [(0, (.live (.recs 3 ((List.map E_kinfolkref09_Field.pv r) ++ ([[(.int .i64 (IntKind.i64.wrap n4)), (.str s), (.str s2)]] : List (List PV))))))]⟩, .k1 t_.pf (by kernel_rfl) (by kernel_rfl), ⟨⟨⟨_, rfl, .eq rfl⟩, ⟨_, rfl, .eq rfl⟩, ⟨_, rfl, .own (by first | rfl | (simp only [List.take_length, List.drop_zero, List.map_take, List.nil_append]; done) | (simp; done) | (simp only [E_card_Field.upd, E_kinfolkref09_Field.upd]; done) | (simp [E_card_Field.pv, E_kinfolkref09_Field.pv]; done))⟩, ⟨_, rfl, .eq rfl⟩, trivial⟩, ⟨⟨rfl, ⟨.eq rfl, .eq rfl, .eq rfl, trivial⟩⟩, trivial⟩, ⟨⟨rfl, .recs (.app (.eq rfl) (.cons (.cons (.eq rfl) (.cons (.eq rfl) (.cons (.eq rfl) (.nil)))) (.nil)))⟩, trivial⟩⟩⟩
  ·have h := some_of h
   subst h
   have t_ := tT h1 <| tF h2 <| tN
   exact ⟨t_.ev, ⟨[(24, (.av (.one (.pv (.bool false))))), (0, (.av (.one (.ref 0 0)))), (3, (.av (.one (.pv (.int .u64 n))))), (4, (.av (.one (.own 0 0 ((List.map E_kinfolkref09_Field.pv r)).length false)))), (5, (.av (.one (.pv (.int .u64 k))))), (24, (.av (.one (.pv (.bool (decide ((n3 : Int) = 0)))))))], [(0, [(.pv (.ints .u8 l false)), (.pv (.int .i64 n2)), (.pv (.int .i64 n3))])], [(0, (.live (.recs 3 (List.map E_kinfolkref09_Field.pv r))))]⟩, .k0 t_.pf (by kernel_rfl), ⟨⟨⟨_, rfl, .eq rfl⟩, ⟨_, rfl, .eq rfl⟩, trivial⟩, ⟨⟨rfl, ⟨.eq rfl, .eq rfl, .eq rfl, trivial⟩⟩, trivial⟩, ⟨⟨rfl, .eq rfl⟩, trivial⟩⟩⟩
 ·have h := some_of h
  subst h
  have t_ := tF h1 <| tF (rfl : false = false) <| tN
  exact ⟨t_.ev, ⟨[(24, (.av (.one (.pv (.bool false))))), (0, (.av (.one (.ref 0 0)))), (3, (.av (.one (.pv (.int .u64 n))))), (4, (.av (.one (.own 0 0 ((List.map E_kinfolkref09_Field.pv r)).length false)))), (5, (.av (.one (.pv (.int .u64 k))))), (24, (.av (.one (.pv (.bool false)))))], [(0, [(.pv (.ints .u8 l false)), (.pv (.int .i64 n2)), (.pv (.int .i64 n3))])], [(0, (.live (.recs 3 (List.map E_kinfolkref09_Field.pv r))))]⟩, .k0 t_.pf (by kernel_rfl), ⟨⟨⟨_, rfl, .eq rfl⟩, ⟨_, rfl, .eq rfl⟩, trivial⟩, ⟨⟨rfl, ⟨.eq rfl, .eq rfl, .eq rfl, trivial⟩⟩, trivial⟩, ⟨⟨rfl, .eq rfl⟩, trivial⟩⟩⟩
theorem kinfolkref10_GetCard_L0_2_runs (N : Nat) (n : Int) (l : List Int) (s_ : Int × Int × Int × List E_kinfolkref09_Field) (r_ : Int × Int × List E_kinfolkref09_Field) (h : runL (kinfolkref10_GetCard_L0_2_step N n l) s_ = some r_) : LRuns Tryz.prog (lEnv Tryz.prog cfg 69 1).nt 1 (.loop (loopAt Tryz.prog 69 0)) (kinfolkref10_GetCard_L0_2_st n l s_) (kinfolkref10_GetCard_L0_2_ex n l r_).1 (kinfolkref10_GetCard_L0_2_ex n l r_).2 :=
 loop_run h (kinfolkref10_GetCard_L0_2_ok N n l) (by intro r_; rcases r_ with ⟨r1, r2, r3⟩ <;> simp [kinfolkref10_GetCard_L0_2_ex])
noncomputable def kinfolkref10_GetCard (N : Nat) (l : List Int) (n : Int) (n2 : Int) : Option (List E_kinfolkref09_Field × Int × Int) :=
 (kinfolkref06_GetNum l n n2).bind fun (n3, n4, n5) =>
 bif (decide ((8 : Int) < n3)) then
  (kinfolkref06_Fail 8 l n4 n5).bind fun n6 =>
  (runL (kinfolkref10_GetCard_L0_2_step N n3 l) (0, n4, n6, [])).bind fun (n7, n8, r) =>
  bif (decide ((n8 : Int) = 0)) then
   some ((List.take ((List.map E_kinfolkref09_Field.pv r)).length r), n7, n8)
  else
   some ([], n7, n8)
 else
  (runL (kinfolkref10_GetCard_L0_2_step N n3 l) (0, n4, n5, [])).bind fun (n6, n7, r) =>
  bif (decide ((n7 : Int) = 0)) then
   some ((List.take ((List.map E_kinfolkref09_Field.pv r)).length r), n6, n7)
  else
   some ([], n6, n7)
theorem kinfolkref10_GetCard_runs (N : Nat) (l : List Int) (n : Int) (n2 : Int) (r_ : List E_kinfolkref09_Field × Int × Int) (h : kinfolkref10_GetCard N l n n2 = some r_) : Runs Tryz.prog 69 [(.one (.ref 0 0))] [[(.pv (.ints .u8 l false)), (.pv (.int .i64 n)), (.pv (.int .i64 n2))]] [] (kinfolkref10_GetCard_out l n n2 r_) := by
 unfold kinfolkref10_GetCard at h
 obtain ⟨⟨n3, n4, n5⟩, h1, h⟩ := bind_of h
 rcases cond_of h with ⟨h2, h⟩ | ⟨h2, h⟩
 ·obtain ⟨n6, h3, h⟩ := bind_of h
  obtain ⟨⟨n7, n8, r⟩, h4, h⟩ := bind_of h
  have q_4 := (LRuns.coe (s0 := ⟨[(0, (.av (.one (.ref 0 0)))), (3, (.av (.one (.pv (.int .u64 n3))))), (4, (.av (.one (.own 0 0 0 false)))), (5, (.av (.one (.pv (.int .u64 0)))))], [(0, [(.pv (.ints .u8 l false)), (.pv (.int .i64 n4)), (.pv (.int .i64 n6))])], [(0, (.live (.recs 3 [])))]⟩) (kinfolkref10_GetCard_L0_2_runs N n3 l _ _ h4) ⟨⟨⟨_, rfl, .eq rfl⟩, ⟨_, rfl, .eq rfl⟩, ⟨_, rfl, .own (by first | rfl | (simp only [List.take_length, List.drop_zero, List.map_take, List.nil_append]; done) | (simp; done) | (simp only [E_card_Field.upd, E_kinfolkref09_Field.upd]; done) | (simp [E_card_Field.pv, E_kinfolkref09_Field.pv]; done))⟩, ⟨_, rfl, .eq rfl⟩, trivial⟩, ⟨⟨rfl, ⟨.eq rfl, .eq rfl, .eq rfl, trivial⟩⟩, trivial⟩, ⟨⟨rfl, .recs (.nil)⟩, trivial⟩⟩)
  rcases cond_of h with ⟨h5, h⟩ | ⟨h5, h⟩
  ·have h := some_of h
   subst h
   have t_ := tR (kinfolkref06_GetNum_runs l n n2 _ h1) <| tT h2 <| tR (kinfolkref06_Fail_runs 8 l n4 n5 _ h3) <| tL q_4 <| tF (not_of2 h5) <| tN
   have e_ : Runs Tryz.prog 69 [(.one (.ref 0 0))] [[(.pv (.ints .u8 l false)), (.pv (.int .i64 n)), (.pv (.int .i64 n2))]] [] ([(.one (.own 0 0 ((List.map E_kinfolkref09_Field.pv r)).length false))], [[(.pv (.ints .u8 l false)), (.pv (.int .i64 n7)), (.pv (.int .i64 n8))]], [(.recs 3 (List.map E_kinfolkref09_Field.pv r))]) := runs_of (C := cfg) (objs := [[(.pv (.ints .u8 l false)), (.pv (.int .i64 n)), (.pv (.int .i64 n2))]]) (sc := t_.ev) (.k0 t_.pf (by kernel_rfl))
   have e_ := e_.shut (res' := ([(.one (.pv (.recs 3 (List.take ((List.map E_kinfolkref09_Field.pv r)).length (List.map E_kinfolkref09_Field.pv r)) false)))], [[(.pv (.ints .u8 l false)), (.pv (.int .i64 n7)), (.pv (.int .i64 n8))]], [])) [0] (by kernel_rfl)
   exact e_.out ⟨.pv (.recsT (.eq (by first | rfl | (simp only [List.take_length, List.drop_zero, List.map_take, List.nil_append]; done) | (simp; done) | (simp only [E_card_Field.upd, E_kinfolkref09_Field.upd]; done) | (simp [E_card_Field.pv, E_kinfolkref09_Field.pv]; done)))), trivial⟩ ⟨⟨.eq rfl, .eq rfl, .eq rfl, trivial⟩, trivial⟩ trivial rfl
  ·have h := some_of h
   subst h
   have t_ := tR (kinfolkref06_GetNum_runs l n n2 _ h1) <| tT h2 <| tR (kinfolkref06_Fail_runs 8 l n4 n5 _ h3) <| tL q_4 <| tT (not_of h5) <| tN
   have e_ : Runs Tryz.prog 69 [(.one (.ref 0 0))] [[(.pv (.ints .u8 l false)), (.pv (.int .i64 n)), (.pv (.int .i64 n2))]] [] ([(.one (.pv .nils))], [[(.pv (.ints .u8 l false)), (.pv (.int .i64 n7)), (.pv (.int .i64 n8))]], []) := runs_of (C := cfg) (objs := [[(.pv (.ints .u8 l false)), (.pv (.int .i64 n)), (.pv (.int .i64 n2))]]) (sc := t_.ev) (.k0 t_.pf (by kernel_rfl))
   exact e_.out ⟨.pv (.nilsR), trivial⟩ ⟨⟨.eq rfl, .eq rfl, .eq rfl, trivial⟩, trivial⟩ trivial rfl
 ·obtain ⟨⟨n6, n7, r⟩, h3, h⟩ := bind_of h
  have q_3 := (LRuns.coe (s0 := ⟨[(0, (.av (.one (.ref 0 0)))), (3, (.av (.one (.pv (.int .u64 n3))))), (4, (.av (.one (.own 0 0 0 false)))), (5, (.av (.one (.pv (.int .u64 0)))))], [(0, [(.pv (.ints .u8 l false)), (.pv (.int .i64 n4)), (.pv (.int .i64 n5))])], [(0, (.live (.recs 3 [])))]⟩) (kinfolkref10_GetCard_L0_2_runs N n3 l _ _ h3) ⟨⟨⟨_, rfl, .eq rfl⟩, ⟨_, rfl, .eq rfl⟩, ⟨_, rfl, .own (by first | rfl | (simp only [List.take_length, List.drop_zero, List.map_take, List.nil_append]; done) | (simp; done) | (simp only [E_card_Field.upd, E_kinfolkref09_Field.upd]; done) | (simp [E_card_Field.pv, E_kinfolkref09_Field.pv]; done))⟩, ⟨_, rfl, .eq rfl⟩, trivial⟩, ⟨⟨rfl, ⟨.eq rfl, .eq rfl, .eq rfl, trivial⟩⟩, trivial⟩, ⟨⟨rfl, .recs (.nil)⟩, trivial⟩⟩)
  rcases cond_of h with ⟨h4, h⟩ | ⟨h4, h⟩
  ·have h := some_of h
   subst h
   have t_ := tR (kinfolkref06_GetNum_runs l n n2 _ h1) <| tF h2 <| tL q_3 <| tF (not_of2 h4) <| tN
   have e_ : Runs Tryz.prog 69 [(.one (.ref 0 0))] [[(.pv (.ints .u8 l false)), (.pv (.int .i64 n)), (.pv (.int .i64 n2))]] [] ([(.one (.own 0 0 ((List.map E_kinfolkref09_Field.pv r)).length false))], [[(.pv (.ints .u8 l false)), (.pv (.int .i64 n6)), (.pv (.int .i64 n7))]], [(.recs 3 (List.map E_kinfolkref09_Field.pv r))]) := runs_of (C := cfg) (objs := [[(.pv (.ints .u8 l false)), (.pv (.int .i64 n)), (.pv (.int .i64 n2))]]) (sc := t_.ev) (.k0 t_.pf (by kernel_rfl))
   have e_ := e_.shut (res' := ([(.one (.pv (.recs 3 (List.take ((List.map E_kinfolkref09_Field.pv r)).length (List.map E_kinfolkref09_Field.pv r)) false)))], [[(.pv (.ints .u8 l false)), (.pv (.int .i64 n6)), (.pv (.int .i64 n7))]], [])) [0] (by kernel_rfl)
   exact e_.out ⟨.pv (.recsT (.eq (by first | rfl | (simp only [List.take_length, List.drop_zero, List.map_take, List.nil_append]; done) | (simp; done) | (simp only [E_card_Field.upd, E_kinfolkref09_Field.upd]; done) | (simp [E_card_Field.pv, E_kinfolkref09_Field.pv]; done)))), trivial⟩ ⟨⟨.eq rfl, .eq rfl, .eq rfl, trivial⟩, trivial⟩ trivial rfl
  ·have h := some_of h
   subst h
   have t_ := tR (kinfolkref06_GetNum_runs l n n2 _ h1) <| tF h2 <| tL q_3 <| tT (not_of h4) <| tN
   have e_ : Runs Tryz.prog 69 [(.one (.ref 0 0))] [[(.pv (.ints .u8 l false)), (.pv (.int .i64 n)), (.pv (.int .i64 n2))]] [] ([(.one (.pv .nils))], [[(.pv (.ints .u8 l false)), (.pv (.int .i64 n6)), (.pv (.int .i64 n7))]], []) := runs_of (C := cfg) (objs := [[(.pv (.ints .u8 l false)), (.pv (.int .i64 n)), (.pv (.int .i64 n2))]]) (sc := t_.ev) (.k0 t_.pf (by kernel_rfl))
   exact e_.out ⟨.pv (.nilsR), trivial⟩ ⟨⟨.eq rfl, .eq rfl, .eq rfl, trivial⟩, trivial⟩ trivial rfl
def kinfolkref06_End_out (l : List Int) (n : Int) (n2 : Int) : Int × Int → Res
 | (r1, r2) => ([(.one (.pv (.int .i64 r1)))], [[(.pv (.ints .u8 l false)), (.pv (.int .i64 n)), (.pv (.int .i64 r2))]], [])
noncomputable def kinfolkref06_End (l : List Int) (n : Int) (n2 : Int) : Option (Int × Int) :=
 bif (decide ((n : Int) < ((l).length : Int))) then
  (kinfolkref06_Fail 6 l n n2).bind fun n3 =>
  some (n3, n3)
 else
  some (n2, n2)
theorem kinfolkref06_End_runs (l : List Int) (n : Int) (n2 : Int) (r_ : Int × Int) (h : kinfolkref06_End l n n2 = some r_) : Runs Tryz.prog 70 [(.one (.ref 0 0))] [[(.pv (.ints .u8 l false)), (.pv (.int .i64 n)), (.pv (.int .i64 n2))]] [] (kinfolkref06_End_out l n n2 r_) := by
 unfold kinfolkref06_End at h
 rcases cond_of h with ⟨h1, h⟩ | ⟨h1, h⟩
 ·obtain ⟨n3, h2, h⟩ := bind_of h
  have h := some_of h
  subst h
  have t_ := tT h1 <| tR (kinfolkref06_Fail_runs 6 l n n2 _ h2) <| tN
  exact runs_of (C := cfg) (objs := [[(.pv (.ints .u8 l false)), (.pv (.int .i64 n)), (.pv (.int .i64 n2))]]) (sc := t_.ev) (.k1 t_.pf (by kernel_rfl) (by kernel_rfl))
 ·have h := some_of h
  subst h
  have t_ := tF h1 <| tN
  exact runs_of (C := cfg) (objs := [[(.pv (.ints .u8 l false)), (.pv (.int .i64 n)), (.pv (.int .i64 n2))]]) (sc := t_.ev) (.k1 t_.pf (by kernel_rfl) (by kernel_rfl))
noncomputable def kinfolkref10_ReadCard (N : Nat) (p : List Int) : Option (List E_kinfolkref09_Field × Int) :=
 (kinfolkref10_GetCard N p 0 0).bind fun (r, n, n2) =>
 (kinfolkref06_End p n n2).bind fun (n3, n4) =>
 bif (decide ((n3 : Int) = 0)) then
  some (r, 0)
 else
  some ([], n3)
theorem kinfolkref10_ReadCard_runs (N : Nat) (p : List Int) (r_ : List E_kinfolkref09_Field × Int) (h : kinfolkref10_ReadCard N p = some r_) : Runs Tryz.prog 27 [(.one (.pv (.ints .u8 p false)))] [] [] (kinfolkref10_ReadCard_out p r_) := by
 unfold kinfolkref10_ReadCard at h
 obtain ⟨⟨r, n, n2⟩, h1, h⟩ := bind_of h
 obtain ⟨⟨n3, n4⟩, h2, h⟩ := bind_of h
 rcases cond_of h with ⟨h3, h⟩ | ⟨h3, h⟩
 ·have h := some_of h
  subst h
  have t_ := tR (kinfolkref10_GetCard_runs N p 0 0 _ h1) <| tR (kinfolkref06_End_runs p n n2 _ h2) <| tF (not_of2 h3) <| tN
  exact runs_of (C := cfg) (objs := []) (sc := t_.ev) (.k0 t_.pf (by kernel_rfl))
 ·have h := some_of h
  subst h
  have t_ := tR (kinfolkref10_GetCard_runs N p 0 0 _ h1) <| tR (kinfolkref06_End_runs p n n2 _ h2) <| tT (not_of h3) <| tN
  have e_ : Runs Tryz.prog 27 [(.one (.pv (.ints .u8 p false)))] [] [] ([(.one (.pv .nils)), (.one (.pv (.int .i64 n3)))], [], []) := runs_of (C := cfg) (objs := []) (sc := t_.ev) (.k0 t_.pf (by kernel_rfl))
  exact e_.out ⟨.pv (.nilsR), .eq rfl, trivial⟩ trivial trivial rfl
def kinfolklaw10_own_out (l : List E_card_Field) : List E_kinfolkref09_Field → Res
 | r1 => ([(.one (.own 0 0 ((List.map E_kinfolkref09_Field.pv r1)).length false))], [], [(.recs 3 (List.map E_kinfolkref09_Field.pv r1))])
def kinfolklaw10_own_L0_2_st (r : List E_card_Field) (n : Int) : Int × List E_kinfolkref09_Field → St
 | (n2, r2) => ⟨[(3, (.av (.one (.own 0 0 ((List.map E_kinfolkref09_Field.pv r2)).length false)))), (6, (.av (.one (.pv (.recs 3 (List.map E_card_Field.pv r) false))))), (7, (.av (.one (.pv (.int .i64 n))))), (8, (.av (.one (.pv (.int .i64 n2)))))], [], [(0, (.live (.recs 3 (List.map E_kinfolkref09_Field.pv r2))))]⟩
def kinfolklaw10_own_L0_2_ex (r : List E_card_Field) (n : Int) : List E_kinfolkref09_Field → Ex × St
 | r1 => ((.exit 0), ⟨[(3, (.av (.one (.own 0 0 ((List.map E_kinfolkref09_Field.pv r1)).length false))))], [], [(0, (.live (.recs 3 (List.map E_kinfolkref09_Field.pv r1))))]⟩)
noncomputable def kinfolklaw10_own_L0_2_step (r : List E_card_Field) (n : Int) : Int × List E_kinfolkref09_Field → Option ((Int × List E_kinfolkref09_Field) ⊕ (List E_kinfolkref09_Field))
 | (n2, r2) =>
 bif (decide ((n2 : Int) < n)) then
  bif decide ((0 : Int) ≤ n2) && decide ((n2 : Int) < (((List.map E_card_Field.pv r)).length : Int)) then
  (r[(n2).toNat]?).bind fun e_ => match e_ with
  | .mk n3 s s2 =>
  bif fits (((List.map E_kinfolkref09_Field.pv r2) ++ ([[(.int .i64 n3), (.str s), (.str s2)]] : List (List PV)))).length then
  some (.inl ((iadd .i64 n2 1), (r2 ++ [(E_kinfolkref09_Field.mk n3 s s2)])))
  else none
  else none
 else
  some (.inr r2)
theorem kinfolklaw10_own_L0_2_ok (r : List E_card_Field) (n : Int) (s_ : Int × List E_kinfolkref09_Field) (z_ : (Int × List E_kinfolkref09_Field) ⊕ (List E_kinfolkref09_Field)) (h : kinfolklaw10_own_L0_2_step r n s_ = some z_) : RoundOk Tryz.prog cfg 28 0 (loopAt Tryz.prog 28 0) (kinfolklaw10_own_L0_2_st r n) (kinfolklaw10_own_L0_2_ex r n) s_ z_ := by
 rcases s_ with ⟨n2, r2⟩
 rcases cond_of h with ⟨h1, h⟩ | ⟨h1, h⟩
 ·obtain ⟨h2, h⟩ := need_of h
  obtain ⟨⟨n3, s, s2⟩, h3, h⟩ := bind_of h
  obtain ⟨h4, h⟩ := need_of h
  have h := some_of h
  subst h
  have t_ := tT h1 <| tO h2 <| tE (.el [(.int .i64 n3), (.str s), (.str s2)]) <| tO (el_of (f := E_card_Field.pv) h3) <| tO (show (Nat.beq ((List.map E_kinfolkref09_Field.pv r2)).length ((List.map E_kinfolkref09_Field.pv r2)).length) = true from Nat.beq_refl _) <| tO h4 <| tN
  exact ⟨t_.ev, ⟨[(3, (.av (.one (.own 0 0 (((List.map E_kinfolkref09_Field.pv r2) ++ ([[(.int .i64 n3), (.str s), (.str s2)]] : List (List PV)))).length false)))), (6, (.av (.one (.pv (.recs 3 (List.map E_card_Field.pv r) false))))), (7, (.av (.one (.pv (.int .i64 n))))), (8, (.av (.one (.pv (.int .i64 (iadd .i64 n2 1))))))], [], [(0, (.live (.recs 3 ((List.map E_kinfolkref09_Field.pv r2) ++ ([[(.int .i64 n3), (.str s), (.str s2)]] : List (List PV))))))]⟩, .k0 t_.pf (by kernel_rfl), ⟨⟨⟨_, rfl, .own (by first | rfl | (simp only [List.take_length, List.drop_zero, List.map_take, List.nil_append]; done) | (simp; done) | (simp only [E_card_Field.upd, E_kinfolkref09_Field.upd]; done) | (simp [E_card_Field.pv, E_kinfolkref09_Field.pv]; done))⟩, ⟨_, rfl, .eq rfl⟩, ⟨_, rfl, .eq rfl⟩, ⟨_, rfl, .eq rfl⟩, trivial⟩, trivial, ⟨⟨rfl, .recs (.app (.eq rfl) (.cons (.cons (.eq rfl) (.cons (.eq rfl) (.cons (.eq rfl) (.nil)))) (.nil)))⟩, trivial⟩⟩⟩
 ·have h := some_of h
  subst h
  have t_ := tF h1 <| tN
  exact ⟨t_.ev, ⟨[(9, (.av (.one (.pv (.bool false))))), (3, (.av (.one (.own 0 0 ((List.map E_kinfolkref09_Field.pv r2)).length false)))), (6, (.av (.one (.pv (.recs 3 (List.map E_card_Field.pv r) false))))), (7, (.av (.one (.pv (.int .i64 n))))), (8, (.av (.one (.pv (.int .i64 n2))))), (9, (.av (.one (.pv (.bool (decide ((n2 : Int) < n)))))))], [], [(0, (.live (.recs 3 (List.map E_kinfolkref09_Field.pv r2))))]⟩, .k0 t_.pf (by kernel_rfl), ⟨⟨⟨_, rfl, .eq rfl⟩, trivial⟩, trivial, ⟨⟨rfl, .eq rfl⟩, trivial⟩⟩⟩
theorem kinfolklaw10_own_L0_2_runs (r : List E_card_Field) (n : Int) (s_ : Int × List E_kinfolkref09_Field) (r_ : List E_kinfolkref09_Field) (h : runL (kinfolklaw10_own_L0_2_step r n) s_ = some r_) : LRuns Tryz.prog (lEnv Tryz.prog cfg 28 0).nt 0 (.loop (loopAt Tryz.prog 28 0)) (kinfolklaw10_own_L0_2_st r n s_) (kinfolklaw10_own_L0_2_ex r n r_).1 (kinfolklaw10_own_L0_2_ex r n r_).2 :=
 loop_run h (kinfolklaw10_own_L0_2_ok r n) (by intro r_; rcases r_ with r1 <;> simp [kinfolklaw10_own_L0_2_ex])
noncomputable def kinfolklaw10_own (l : List E_card_Field) : Option (List E_kinfolkref09_Field) :=
 (runL (kinfolklaw10_own_L0_2_step l (((List.map E_card_Field.pv l)).length : Int)) (0, [])).bind fun r =>
 some r
theorem kinfolklaw10_own_runs (l : List E_card_Field) (r_ : List E_kinfolkref09_Field) (h : kinfolklaw10_own l = some r_) : Runs Tryz.prog 28 [(.one (.pv (.recs 3 (List.map E_card_Field.pv l) false)))] [] [] (kinfolklaw10_own_out l r_) := by
 unfold kinfolklaw10_own at h
 obtain ⟨r, h1, h⟩ := bind_of h
 have h := some_of h
 subst h
 have t_ := tL (LRuns.coe (s0 := ⟨[(3, (.av (.one (.own 0 0 0 false)))), (6, (.av (.one (.pv (.recs 3 (List.map E_card_Field.pv l) false))))), (7, (.av (.one (.pv (.int .i64 (((List.map E_card_Field.pv l)).length : Int)))))), (8, (.av (.one (.pv (.int .i64 0)))))], [], [(0, (.live (.recs 3 [])))]⟩) (kinfolklaw10_own_L0_2_runs l (((List.map E_card_Field.pv l)).length : Int) _ _ h1) ⟨⟨⟨_, rfl, .own (by first | rfl | (simp only [List.take_length, List.drop_zero, List.map_take, List.nil_append]; done) | (simp; done) | (simp only [E_card_Field.upd, E_kinfolkref09_Field.upd]; done) | (simp [E_card_Field.pv, E_kinfolkref09_Field.pv]; done))⟩, ⟨_, rfl, .eq rfl⟩, ⟨_, rfl, .eq rfl⟩, ⟨_, rfl, .eq rfl⟩, trivial⟩, trivial, ⟨⟨rfl, .recs (.nil)⟩, trivial⟩⟩) <| tN
 exact runs_of (C := cfg) (objs := []) (sc := t_.ev) (.k0 t_.pf (by kernel_rfl))
def kinfolkref09_Same_out (a : List E_kinfolkref09_Field) (b : List E_kinfolkref09_Field) : Bool → Res
 | r1 => ([(.one (.pv (.bool r1)))], [], [])
def kinfolkref09_Same_L0_st (a : List E_kinfolkref09_Field) (b : List E_kinfolkref09_Field) (n : Int) : Int → St
 | n2 => ⟨[(0, (.av (.one (.pv (.recs 3 (List.map E_kinfolkref09_Field.pv a) false))))), (1, (.av (.one (.pv (.recs 3 (List.map E_kinfolkref09_Field.pv b) false))))), (12, (.av (.one (.pv (.int .i64 n))))), (13, (.av (.one (.pv (.int .i64 n2)))))], [], []⟩
def kinfolkref09_Same_L0_ex (a : List E_kinfolkref09_Field) (b : List E_kinfolkref09_Field) (n : Int) : (Unit) ⊕ (Unit) → Ex × St
 | .inl _ => (.ret, ⟨[(4, (.av (.one (.pv (.bool false)))))], [], []⟩)
 | .inr _ => ((.exit 0), ⟨[], [], []⟩)
noncomputable def kinfolkref09_Same_L0_step (a : List E_kinfolkref09_Field) (b : List E_kinfolkref09_Field) (n : Int) : Int → Option ((Int) ⊕ ((Unit) ⊕ (Unit)))
 | n2 =>
 bif (decide ((n2 : Int) < n)) then
  bif decide ((0 : Int) ≤ n2) && decide ((n2 : Int) < (((List.map E_kinfolkref09_Field.pv a)).length : Int)) then
  (a[(n2).toNat]?).bind fun e_ => match e_ with
  | .mk n3 s s2 =>
  bif decide ((0 : Int) ≤ n2) && decide ((n2 : Int) < (((List.map E_kinfolkref09_Field.pv b)).length : Int)) then
  (b[(n2).toNat]?).bind fun e_ => match e_ with
  | .mk n4 s3 s4 =>
  bif ((decide ((n3 : Int) = n4)) && ((decide ((s : ByteArray) = s3)) && ((decide ((s2 : ByteArray) = s4)) && true))) then
   some (.inl (iadd .i64 n2 1))
  else
   some (.inr (.inl ()))
  else none
  else none
 else
  some (.inr (.inr ()))
theorem kinfolkref09_Same_L0_ok (a : List E_kinfolkref09_Field) (b : List E_kinfolkref09_Field) (n : Int) (n2 : Int) (z_ : (Int) ⊕ ((Unit) ⊕ (Unit))) (h : kinfolkref09_Same_L0_step a b n n2 = some z_) : RoundOk Tryz.prog cfg 18 0 (loopAt Tryz.prog 18 0) (kinfolkref09_Same_L0_st a b n) (kinfolkref09_Same_L0_ex a b n) n2 z_ := by
 rcases cond_of h with ⟨h1, h⟩ | ⟨h1, h⟩
 ·obtain ⟨h2, h⟩ := need_of h
  obtain ⟨⟨n3, s, s2⟩, h3, h⟩ := bind_of h
  obtain ⟨h4, h⟩ := need_of h
  obtain ⟨⟨n4, s3, s4⟩, h5, h⟩ := bind_of h
  rcases cond_of h with ⟨h6, h⟩ | ⟨h6, h⟩
  ·have h := some_of h
   subst h
   have t_ := tT h1 <| tO h2 <| tE (.el [(.int .i64 n3), (.str s), (.str s2)]) <| tO (el_of (f := E_kinfolkref09_Field.pv) h3) <| tO h4 <| tE (.el [(.int .i64 n4), (.str s3), (.str s4)]) <| tO (el_of (f := E_kinfolkref09_Field.pv) h5) <| tF (not_of2 h6) <| tN
   exact ⟨t_.ev, kinfolkref09_Same_L0_st a b n (iadd .i64 n2 1), .k0 t_.pf (by kernel_rfl), .same (by kernel_rfl)⟩
  ·have h := some_of h
   subst h
   have t_ := tT h1 <| tO h2 <| tE (.el [(.int .i64 n3), (.str s), (.str s2)]) <| tO (el_of (f := E_kinfolkref09_Field.pv) h3) <| tO h4 <| tE (.el [(.int .i64 n4), (.str s3), (.str s4)]) <| tO (el_of (f := E_kinfolkref09_Field.pv) h5) <| tT (not_of h6) <| tN
   exact ⟨t_.ev, (kinfolkref09_Same_L0_ex a b n (.inl ())).2, .k0 t_.pf (by kernel_rfl), .same (by kernel_rfl)⟩
 ·have h := some_of h
  subst h
  have t_ := tF h1 <| tN
  exact ⟨t_.ev, ⟨[(14, (.av (.one (.pv (.bool false))))), (0, (.av (.one (.pv (.recs 3 (List.map E_kinfolkref09_Field.pv a) false))))), (1, (.av (.one (.pv (.recs 3 (List.map E_kinfolkref09_Field.pv b) false))))), (12, (.av (.one (.pv (.int .i64 n))))), (13, (.av (.one (.pv (.int .i64 n2))))), (14, (.av (.one (.pv (.bool (decide ((n2 : Int) < n)))))))], [], []⟩, .k0 t_.pf (by kernel_rfl), ⟨trivial, trivial, trivial⟩⟩
theorem kinfolkref09_Same_L0_runs (a : List E_kinfolkref09_Field) (b : List E_kinfolkref09_Field) (n : Int) (s_ : Int) (r_ : (Unit) ⊕ (Unit)) (h : runL (kinfolkref09_Same_L0_step a b n) s_ = some r_) : LRuns Tryz.prog (lEnv Tryz.prog cfg 18 0).nt 0 (.loop (loopAt Tryz.prog 18 0)) (kinfolkref09_Same_L0_st a b n s_) (kinfolkref09_Same_L0_ex a b n r_).1 (kinfolkref09_Same_L0_ex a b n r_).2 :=
 loop_run h (kinfolkref09_Same_L0_ok a b n) (by intro r_; rcases r_ with _ | _ <;> simp [kinfolkref09_Same_L0_ex])
noncomputable def kinfolkref09_Same (a : List E_kinfolkref09_Field) (b : List E_kinfolkref09_Field) : Option (Bool) :=
 bif (decide (((((List.map E_kinfolkref09_Field.pv a)).length : Int) : Int) = (((List.map E_kinfolkref09_Field.pv b)).length : Int))) then
  (runL (kinfolkref09_Same_L0_step a b (((List.map E_kinfolkref09_Field.pv a)).length : Int)) 0).bind fun z_ => match z_ with
  | .inl _ =>
   some false
  | .inr _ =>
   some true
 else
  some false
theorem kinfolkref09_Same_runs (a : List E_kinfolkref09_Field) (b : List E_kinfolkref09_Field) (r_ : Bool) (h : kinfolkref09_Same a b = some r_) : Runs Tryz.prog 18 [(.one (.pv (.recs 3 (List.map E_kinfolkref09_Field.pv a) false))), (.one (.pv (.recs 3 (List.map E_kinfolkref09_Field.pv b) false)))] [] [] (kinfolkref09_Same_out a b r_) := by
 unfold kinfolkref09_Same at h
 rcases cond_of h with ⟨h1, h⟩ | ⟨h1, h⟩
 ·obtain ⟨z_, h2, h⟩ := bind_of h
  rcases z_ with _ | _
  ·have h := some_of h
   subst h
   have t_ := tF (not_of2 h1) <| tL (kinfolkref09_Same_L0_runs a b (((List.map E_kinfolkref09_Field.pv a)).length : Int) _ _ h2) <| tN
   exact runs_of (C := cfg) (objs := []) (sc := t_.ev) (.k0 t_.pf (by kernel_rfl))
  ·have h := some_of h
   subst h
   have t_ := tF (not_of2 h1) <| tL (kinfolkref09_Same_L0_runs a b (((List.map E_kinfolkref09_Field.pv a)).length : Int) _ _ h2) <| tN
   exact runs_of (C := cfg) (objs := []) (sc := t_.ev) (.k0 t_.pf (by kernel_rfl))
 ·have h := some_of h
  subst h
  have t_ := tT (not_of h1) <| tN
  exact runs_of (C := cfg) (objs := []) (sc := t_.ev) (.k0 t_.pf (by kernel_rfl))
def kinfolklaw10_made_out (l : List E_card_Field) : List E_card_Field × List E_kinfolkref09_Field → Res
 | (r1, r2) => ([(.agg [(.pv (.recs 3 (List.map E_card_Field.pv r1) false))]), (.one (.pv (.recs 3 (List.map E_kinfolkref09_Field.pv r2) false)))], [], [])
def kinfolklaw10_few_out (l : List E_card_Field) : List E_card_Field → Res
 | r1 => ([(.one (.own 0 0 ((List.map E_card_Field.pv r1)).length false))], [], [(.recs 3 (List.map E_card_Field.pv r1))])
def kinfolklaw10_few_L0_2_st (r : List E_card_Field) (n : Int) : Int × List E_card_Field → St
 | (n2, r2) => ⟨[(3, (.av (.one (.own 0 0 ((List.map E_card_Field.pv r2)).length false)))), (6, (.av (.one (.pv (.recs 3 (List.map E_card_Field.pv r) false))))), (7, (.av (.one (.pv (.int .i64 n))))), (8, (.av (.one (.pv (.int .i64 n2)))))], [], [(0, (.live (.recs 3 (List.map E_card_Field.pv r2))))]⟩
def kinfolklaw10_few_L0_2_ex (r : List E_card_Field) (n : Int) : List E_card_Field → Ex × St
 | r1 => ((.exit 0), ⟨[(3, (.av (.one (.own 0 0 ((List.map E_card_Field.pv r1)).length false))))], [], [(0, (.live (.recs 3 (List.map E_card_Field.pv r1))))]⟩)
noncomputable def kinfolklaw10_few_L0_2_step (r : List E_card_Field) (n : Int) : Int × List E_card_Field → Option ((Int × List E_card_Field) ⊕ (List E_card_Field))
 | (n2, r2) =>
 bif (decide ((n2 : Int) < n)) then
  bif decide ((0 : Int) ≤ n2) && decide ((n2 : Int) < (((List.map E_card_Field.pv r)).length : Int)) then
  (r[(n2).toNat]?).bind fun e_ => match e_ with
  | .mk n3 s s2 =>
  bif (decide ((n2 : Int) < 14)) then
   bif decide ((0 : Int) ≤ 0) && decide ((0 : Int) ≤ (if (60 : Int) < (s.size : Int) then 60 else (s.size : Int))) && decide (((if (60 : Int) < (s.size : Int) then 60 else (s.size : Int)) : Int) ≤ (s.size : Int)) then
   bif decide ((0 : Int) ≤ 0) && decide ((0 : Int) ≤ (if (60 : Int) < (s2.size : Int) then 60 else (s2.size : Int))) && decide (((if (60 : Int) < (s2.size : Int) then 60 else (s2.size : Int)) : Int) ≤ (s2.size : Int)) then
   bif fits (((List.map E_card_Field.pv r2) ++ ([[(.int .i64 n3), (.str (s.extract 0 ((if (60 : Int) < (s.size : Int) then 60 else (s.size : Int))).toNat)), (.str (s2.extract 0 ((if (60 : Int) < (s2.size : Int) then 60 else (s2.size : Int))).toNat))]] : List (List PV)))).length then
   some (.inl ((iadd .i64 n2 1), (r2 ++ [(E_card_Field.mk n3 (s.extract 0 ((if (60 : Int) < (s.size : Int) then 60 else (s.size : Int))).toNat) (s2.extract 0 ((if (60 : Int) < (s2.size : Int) then 60 else (s2.size : Int))).toNat))])))
   else none
   else none
   else none
  else
   some (.inl ((iadd .i64 n2 1), r2))
  else none
 else
  some (.inr r2)
theorem kinfolklaw10_few_L0_2_ok (r : List E_card_Field) (n : Int) (s_ : Int × List E_card_Field) (z_ : (Int × List E_card_Field) ⊕ (List E_card_Field)) (h : kinfolklaw10_few_L0_2_step r n s_ = some z_) : RoundOk Tryz.prog cfg 43 0 (loopAt Tryz.prog 43 0) (kinfolklaw10_few_L0_2_st r n) (kinfolklaw10_few_L0_2_ex r n) s_ z_ := by
 rcases s_ with ⟨n2, r2⟩
 rcases cond_of h with ⟨h1, h⟩ | ⟨h1, h⟩
 ·obtain ⟨h2, h⟩ := need_of h
  obtain ⟨⟨n3, s, s2⟩, h3, h⟩ := bind_of h
  rcases cond_of h with ⟨h4, h⟩ | ⟨h4, h⟩
  ·obtain ⟨h5, h⟩ := need_of h
   obtain ⟨h6, h⟩ := need_of h
   obtain ⟨h7, h⟩ := need_of h
   have h := some_of h
   subst h
   have t_ := tT h1 <| tO h2 <| tE (.el [(.int .i64 n3), (.str s), (.str s2)]) <| tO (el_of (f := E_card_Field.pv) h3) <| tT h4 <| tO h5 <| tO h6 <| tO h6 <| tO h5 <| tO h5 <| tO h6 <| tO h5 <| tO h6 <| tO (show (Nat.beq ((List.map E_card_Field.pv r2)).length ((List.map E_card_Field.pv r2)).length) = true from Nat.beq_refl _) <| tO h7 <| tN
   exact ⟨t_.ev, ⟨[(3, (.av (.one (.own 0 0 (((List.map E_card_Field.pv r2) ++ ([[(.int .i64 n3), (.str (s.extract 0 ((if (60 : Int) < (s.size : Int) then 60 else (s.size : Int))).toNat)), (.str (s2.extract 0 ((if (60 : Int) < (s2.size : Int) then 60 else (s2.size : Int))).toNat))]] : List (List PV)))).length false)))), (6, (.av (.one (.pv (.recs 3 (List.map E_card_Field.pv r) false))))), (7, (.av (.one (.pv (.int .i64 n))))), (8, (.av (.one (.pv (.int .i64 (iadd .i64 n2 1))))))], [], [(0, (.live (.recs 3 ((List.map E_card_Field.pv r2) ++ ([[(.int .i64 n3), (.str (s.extract 0 ((if (60 : Int) < (s.size : Int) then 60 else (s.size : Int))).toNat)), (.str (s2.extract 0 ((if (60 : Int) < (s2.size : Int) then 60 else (s2.size : Int))).toNat))]] : List (List PV))))))]⟩, .k1 t_.pf (by kernel_rfl) (by kernel_rfl), ⟨⟨⟨_, rfl, .own (by first | rfl | (simp only [List.take_length, List.drop_zero, List.map_take, List.nil_append]; done) | (simp; done) | (simp only [E_card_Field.upd, E_kinfolkref09_Field.upd, E_L_card_Field.upd, E_card_Card.upd]; done) | (simp [E_card_Field.pv, E_kinfolkref09_Field.pv, E_L_card_Field.pv, E_card_Card.pv]; done))⟩, ⟨_, rfl, .eq rfl⟩, ⟨_, rfl, .eq rfl⟩, ⟨_, rfl, .eq rfl⟩, trivial⟩, trivial, ⟨⟨rfl, .recs (.app (.eq rfl) (.cons (.cons (.eq rfl) (.cons (.eq rfl) (.cons (.eq rfl) (.nil)))) (.nil)))⟩, trivial⟩⟩⟩
  ·have h := some_of h
   subst h
   have t_ := tT h1 <| tO h2 <| tE (.el [(.int .i64 n3), (.str s), (.str s2)]) <| tO (el_of (f := E_card_Field.pv) h3) <| tF h4 <| tN
   exact ⟨t_.ev, kinfolklaw10_few_L0_2_st r n ((iadd .i64 n2 1), r2), .k0 t_.pf (by kernel_rfl), .same (by kernel_rfl)⟩
 ·have h := some_of h
  subst h
  have t_ := tF h1 <| tN
  exact ⟨t_.ev, ⟨[(9, (.av (.one (.pv (.bool false))))), (3, (.av (.one (.own 0 0 ((List.map E_card_Field.pv r2)).length false)))), (6, (.av (.one (.pv (.recs 3 (List.map E_card_Field.pv r) false))))), (7, (.av (.one (.pv (.int .i64 n))))), (8, (.av (.one (.pv (.int .i64 n2))))), (9, (.av (.one (.pv (.bool (decide ((n2 : Int) < n)))))))], [], [(0, (.live (.recs 3 (List.map E_card_Field.pv r2))))]⟩, .k0 t_.pf (by kernel_rfl), ⟨⟨⟨_, rfl, .eq rfl⟩, trivial⟩, trivial, ⟨⟨rfl, .eq rfl⟩, trivial⟩⟩⟩
theorem kinfolklaw10_few_L0_2_runs (r : List E_card_Field) (n : Int) (s_ : Int × List E_card_Field) (r_ : List E_card_Field) (h : runL (kinfolklaw10_few_L0_2_step r n) s_ = some r_) : LRuns Tryz.prog (lEnv Tryz.prog cfg 43 0).nt 0 (.loop (loopAt Tryz.prog 43 0)) (kinfolklaw10_few_L0_2_st r n s_) (kinfolklaw10_few_L0_2_ex r n r_).1 (kinfolklaw10_few_L0_2_ex r n r_).2 :=
 loop_run h (kinfolklaw10_few_L0_2_ok r n) (by intro r_; rcases r_ with r1 <;> simp [kinfolklaw10_few_L0_2_ex])
noncomputable def kinfolklaw10_few (l : List E_card_Field) : Option (List E_card_Field) :=
 (runL (kinfolklaw10_few_L0_2_step l (((List.map E_card_Field.pv l)).length : Int)) (0, [])).bind fun r =>
 some r
theorem kinfolklaw10_few_runs (l : List E_card_Field) (r_ : List E_card_Field) (h : kinfolklaw10_few l = some r_) : Runs Tryz.prog 43 [(.one (.pv (.recs 3 (List.map E_card_Field.pv l) false)))] [] [] (kinfolklaw10_few_out l r_) := by
 unfold kinfolklaw10_few at h
 obtain ⟨r, h1, h⟩ := bind_of h
 have h := some_of h
 subst h
 have t_ := tL (LRuns.coe (s0 := ⟨[(3, (.av (.one (.own 0 0 0 false)))), (6, (.av (.one (.pv (.recs 3 (List.map E_card_Field.pv l) false))))), (7, (.av (.one (.pv (.int .i64 (((List.map E_card_Field.pv l)).length : Int)))))), (8, (.av (.one (.pv (.int .i64 0)))))], [], [(0, (.live (.recs 3 [])))]⟩) (kinfolklaw10_few_L0_2_runs l (((List.map E_card_Field.pv l)).length : Int) _ _ h1) ⟨⟨⟨_, rfl, .own (by first | rfl | (simp only [List.take_length, List.drop_zero, List.map_take, List.nil_append]; done) | (simp; done) | (simp only [E_card_Field.upd, E_kinfolkref09_Field.upd, E_L_card_Field.upd, E_card_Card.upd]; done) | (simp [E_card_Field.pv, E_kinfolkref09_Field.pv, E_L_card_Field.pv, E_card_Card.pv]; done))⟩, ⟨_, rfl, .eq rfl⟩, ⟨_, rfl, .eq rfl⟩, ⟨_, rfl, .eq rfl⟩, trivial⟩, trivial, ⟨⟨rfl, .recs (.nil)⟩, trivial⟩⟩) <| tN
 exact runs_of (C := cfg) (objs := []) (sc := t_.ev) (.k0 t_.pf (by kernel_rfl))
def kinfolklaw10_made_L0_2_st (n : Int) (r : List E_card_Field) : Int × List E_card_Field → St
 | (n2, r2) => ⟨[(2, (.av (.one (.ref 0 0)))), (4, (.av (.one (.own 0 0 ((List.map E_card_Field.pv r2)).length false)))), (12, (.av (.one (.own 1 0 ((List.map E_card_Field.pv r)).length false)))), (13, (.av (.one (.pv (.int .i64 n))))), (14, (.av (.one (.pv (.int .i64 n2)))))], [(0, [(.pv .nils)])], [(0, (.live (.recs 3 (List.map E_card_Field.pv r2)))), (1, (.live (.recs 3 (List.map E_card_Field.pv r))))]⟩
def kinfolklaw10_made_L0_2_ex (n : Int) (r : List E_card_Field) : List E_card_Field → Ex × St
 | r1 => ((.exit 0), ⟨[(2, (.av (.one (.ref 0 0)))), (4, (.av (.one (.own 0 0 ((List.map E_card_Field.pv r1)).length false))))], [(0, [(.pv .nils)])], [(0, (.live (.recs 3 (List.map E_card_Field.pv r1)))), (1, (.live (.recs 3 (List.map E_card_Field.pv r))))]⟩)
noncomputable def kinfolklaw10_made_L0_2_step (n : Int) (r : List E_card_Field) : Int × List E_card_Field → Option ((Int × List E_card_Field) ⊕ (List E_card_Field))
 | (n2, r2) =>
 bif (decide ((n2 : Int) < n)) then
  bif decide ((0 : Int) ≤ n2) && decide ((n2 : Int) < (((List.map E_card_Field.pv r)).length : Int)) then
  (r[(0 + (n2).toNat)]?).bind fun e_ => match e_ with
  | .mk n3 s s2 =>
  (card_Field_Right n3 s s2).bind fun n4 =>
  bif (decide ((n4 : Int) = 0)) then
   bif (decide (((((List.map E_card_Field.pv r2)).length : Int) : Int) < 8)) then
    bif fits (((List.map E_card_Field.pv r2) ++ ([[(.int .i64 n3), (.str s), (.str s2)]] : List (List PV)))).length then
    some (.inl ((iadd .i64 n2 1), (r2 ++ [(E_card_Field.mk n3 s s2)])))
    else none
   else
    some (.inl ((iadd .i64 n2 1), r2))
  else
   some (.inl ((iadd .i64 n2 1), r2))
  else none
 else
  some (.inr r2)
theorem kinfolklaw10_made_L0_2_ok (n : Int) (r : List E_card_Field) (s_ : Int × List E_card_Field) (z_ : (Int × List E_card_Field) ⊕ (List E_card_Field)) (h : kinfolklaw10_made_L0_2_step n r s_ = some z_) : RoundOk Tryz.prog cfg 31 0 (loopAt Tryz.prog 31 0) (kinfolklaw10_made_L0_2_st n r) (kinfolklaw10_made_L0_2_ex n r) s_ z_ := by
 rcases s_ with ⟨n2, r2⟩
 rcases cond_of h with ⟨h1, h⟩ | ⟨h1, h⟩
 ·obtain ⟨h2, h⟩ := need_of h
  obtain ⟨⟨n3, s, s2⟩, h3, h⟩ := bind_of h
  obtain ⟨n4, h4, h⟩ := bind_of h
  rcases cond_of h with ⟨h5, h⟩ | ⟨h5, h⟩
  ·rcases cond_of h with ⟨h6, h⟩ | ⟨h6, h⟩
   ·obtain ⟨h7, h⟩ := need_of h
    have h := some_of h
    subst h
    have t_ := tT h1 <| tO h2 <| tE (.el [(.int .i64 n3), (.str s), (.str s2)]) <| tO (el_of (f := E_card_Field.pv) h3) <| tR (card_Field_Right_runs n3 s s2 _ h4) <| tT h5 <| tT h6 <| tO (show (Nat.beq ((List.map E_card_Field.pv r2)).length ((List.map E_card_Field.pv r2)).length) = true from Nat.beq_refl _) <| tO h7 <| tN
    exact ⟨t_.ev, ⟨[(2, (.av (.one (.ref 0 0)))), (4, (.av (.one (.own 0 0 (((List.map E_card_Field.pv r2) ++ ([[(.int .i64 n3), (.str s), (.str s2)]] : List (List PV)))).length false)))), (12, (.av (.one (.own 1 0 ((List.map E_card_Field.pv r)).length false)))), (13, (.av (.one (.pv (.int .i64 n))))), (14, (.av (.one (.pv (.int .i64 (iadd .i64 n2 1))))))], [(0, [(.pv .nils)])], [(0, (.live (.recs 3 ((List.map E_card_Field.pv r2) ++ ([[(.int .i64 n3), (.str s), (.str s2)]] : List (List PV)))))), (1, (.live (.recs 3 (List.map E_card_Field.pv r))))]⟩, .k0 t_.pf (by kernel_rfl), ⟨⟨⟨_, rfl, .eq rfl⟩, ⟨_, rfl, .own (by first | rfl | (simp only [List.take_length, List.drop_zero, List.map_take, List.nil_append]; done) | (simp; done) | (simp only [E_card_Field.upd, E_kinfolkref09_Field.upd, E_L_card_Field.upd, E_card_Card.upd]; done) | (simp [E_card_Field.pv, E_kinfolkref09_Field.pv, E_L_card_Field.pv, E_card_Card.pv]; done))⟩, ⟨_, rfl, .eq rfl⟩, ⟨_, rfl, .eq rfl⟩, ⟨_, rfl, .eq rfl⟩, trivial⟩, ⟨⟨rfl, ⟨.eq rfl, trivial⟩⟩, trivial⟩, ⟨⟨rfl, .recs (.app (.eq rfl) (.cons (.cons (.eq rfl) (.cons (.eq rfl) (.cons (.eq rfl) (.nil)))) (.nil)))⟩, ⟨rfl, .eq rfl⟩, trivial⟩⟩⟩
   ·have h := some_of h
    subst h
    have t_ := tT h1 <| tO h2 <| tE (.el [(.int .i64 n3), (.str s), (.str s2)]) <| tO (el_of (f := E_card_Field.pv) h3) <| tR (card_Field_Right_runs n3 s s2 _ h4) <| tT h5 <| tF h6 <| tN
    exact ⟨t_.ev, kinfolklaw10_made_L0_2_st n r ((iadd .i64 n2 1), r2), .k0 t_.pf (by kernel_rfl), .same (by kernel_rfl)⟩
  ·have h := some_of h
   subst h
   have t_ := tT h1 <| tO h2 <| tE (.el [(.int .i64 n3), (.str s), (.str s2)]) <| tO (el_of (f := E_card_Field.pv) h3) <| tR (card_Field_Right_runs n3 s s2 _ h4) <| tF h5 <| tF (rfl : false = false) <| tN
   exact ⟨t_.ev, kinfolklaw10_made_L0_2_st n r ((iadd .i64 n2 1), r2), .k0 t_.pf (by kernel_rfl), .same (by kernel_rfl)⟩
 ·have h := some_of h
  subst h
  have t_ := tF h1 <| tN
  exact ⟨t_.ev, ⟨[(15, (.av (.one (.pv (.bool false))))), (2, (.av (.one (.ref 0 0)))), (4, (.av (.one (.own 0 0 ((List.map E_card_Field.pv r2)).length false)))), (12, (.av (.one (.own 1 0 ((List.map E_card_Field.pv r)).length false)))), (13, (.av (.one (.pv (.int .i64 n))))), (14, (.av (.one (.pv (.int .i64 n2))))), (15, (.av (.one (.pv (.bool (decide ((n2 : Int) < n)))))))], [(0, [(.pv .nils)])], [(0, (.live (.recs 3 (List.map E_card_Field.pv r2)))), (1, (.live (.recs 3 (List.map E_card_Field.pv r))))]⟩, .k0 t_.pf (by kernel_rfl), ⟨⟨⟨_, rfl, .eq rfl⟩, ⟨_, rfl, .eq rfl⟩, trivial⟩, ⟨⟨rfl, ⟨.eq rfl, trivial⟩⟩, trivial⟩, ⟨⟨rfl, .eq rfl⟩, ⟨rfl, .eq rfl⟩, trivial⟩⟩⟩
theorem kinfolklaw10_made_L0_2_runs (n : Int) (r : List E_card_Field) (s_ : Int × List E_card_Field) (r_ : List E_card_Field) (h : runL (kinfolklaw10_made_L0_2_step n r) s_ = some r_) : LRuns Tryz.prog (lEnv Tryz.prog cfg 31 0).nt 0 (.loop (loopAt Tryz.prog 31 0)) (kinfolklaw10_made_L0_2_st n r s_) (kinfolklaw10_made_L0_2_ex n r r_).1 (kinfolklaw10_made_L0_2_ex n r r_).2 :=
 loop_run h (kinfolklaw10_made_L0_2_ok n r) (by intro r_; rcases r_ with r1 <;> simp [kinfolklaw10_made_L0_2_ex])
def kinfolkref09_Make_out (l : List E_kinfolkref09_Field) : List E_kinfolkref09_Field × Int → Res
 | (r1, r2) => ([(.one (.pv (.recs 3 (List.map E_kinfolkref09_Field.pv r1) false))), (.one (.pv (.int .i64 r2)))], [], [])
def kinfolkref09_Put_out (l : List E_kinfolkref09_Field) (f : Int) (f2 : ByteArray) (f3 : ByteArray) : List E_kinfolkref09_Field → Res
 | r1 => ([(.one (.pv (.recs 3 (List.map E_kinfolkref09_Field.pv r1) false)))], [], [])
def kinfolkref09_Has_out (l : List E_kinfolkref09_Field) (f : Int) (f2 : ByteArray) (f3 : ByteArray) : Bool → Res
 | r1 => ([(.one (.pv (.bool r1)))], [], [])
def kinfolkref09_Has_L0_st (r : List E_kinfolkref09_Field) (n : Int) (n2 : Int) (s : ByteArray) (s2 : ByteArray) : Int → St
 | n3 => ⟨[(3, (.av (.one (.ref 0 0)))), (7, (.av (.one (.pv (.recs 3 (List.map E_kinfolkref09_Field.pv r) false))))), (8, (.av (.one (.pv (.int .i64 n))))), (9, (.av (.one (.pv (.int .i64 n3)))))], [(0, [(.pv (.int .i64 n2)), (.pv (.str s)), (.pv (.str s2))])], []⟩
def kinfolkref09_Has_L0_ex (r : List E_kinfolkref09_Field) (n : Int) (n2 : Int) (s : ByteArray) (s2 : ByteArray) : (Unit) ⊕ (Unit) → Ex × St
 | .inl _ => (.ret, ⟨[(4, (.av (.one (.pv (.bool true)))))], [], []⟩)
 | .inr _ => ((.exit 0), ⟨[], [(0, [(.pv (.int .i64 n2)), (.pv (.str s)), (.pv (.str s2))])], []⟩)
noncomputable def kinfolkref09_Has_L0_step (r : List E_kinfolkref09_Field) (n : Int) (n2 : Int) (s : ByteArray) (s2 : ByteArray) : Int → Option ((Int) ⊕ ((Unit) ⊕ (Unit)))
 | n3 =>
 bif (decide ((n3 : Int) < n)) then
  bif decide ((0 : Int) ≤ n3) && decide ((n3 : Int) < (((List.map E_kinfolkref09_Field.pv r)).length : Int)) then
  (r[(n3).toNat]?).bind fun e_ => match e_ with
  | .mk n4 s3 s4 =>
  bif ((decide ((n4 : Int) = n2)) && ((decide ((s3 : ByteArray) = s)) && ((decide ((s4 : ByteArray) = s2)) && true))) then
   some (.inr (.inl ()))
  else
   some (.inl (iadd .i64 n3 1))
  else none
 else
  some (.inr (.inr ()))
theorem kinfolkref09_Has_L0_ok (r : List E_kinfolkref09_Field) (n : Int) (n2 : Int) (s : ByteArray) (s2 : ByteArray) (n3 : Int) (z_ : (Int) ⊕ ((Unit) ⊕ (Unit))) (h : kinfolkref09_Has_L0_step r n n2 s s2 n3 = some z_) : RoundOk Tryz.prog cfg 59 0 (loopAt Tryz.prog 59 0) (kinfolkref09_Has_L0_st r n n2 s s2) (kinfolkref09_Has_L0_ex r n n2 s s2) n3 z_ := by
 rcases cond_of h with ⟨h1, h⟩ | ⟨h1, h⟩
 ·obtain ⟨h2, h⟩ := need_of h
  obtain ⟨⟨n4, s3, s4⟩, h3, h⟩ := bind_of h
  rcases cond_of h with ⟨h4, h⟩ | ⟨h4, h⟩
  ·have h := some_of h
   subst h
   have t_ := tT h1 <| tO h2 <| tE (.el [(.int .i64 n4), (.str s3), (.str s4)]) <| tO (el_of (f := E_kinfolkref09_Field.pv) h3) <| tT h4 <| tN
   exact ⟨t_.ev, (kinfolkref09_Has_L0_ex r n n2 s s2 (.inl ())).2, .k0 t_.pf (by kernel_rfl), .same (by kernel_rfl)⟩
  ·have h := some_of h
   subst h
   have t_ := tT h1 <| tO h2 <| tE (.el [(.int .i64 n4), (.str s3), (.str s4)]) <| tO (el_of (f := E_kinfolkref09_Field.pv) h3) <| tF h4 <| tN
   exact ⟨t_.ev, kinfolkref09_Has_L0_st r n n2 s s2 (iadd .i64 n3 1), .k0 t_.pf (by kernel_rfl), .same (by kernel_rfl)⟩
 ·have h := some_of h
  subst h
  have t_ := tF h1 <| tN
  exact ⟨t_.ev, ⟨[(10, (.av (.one (.pv (.bool false))))), (3, (.av (.one (.ref 0 0)))), (7, (.av (.one (.pv (.recs 3 (List.map E_kinfolkref09_Field.pv r) false))))), (8, (.av (.one (.pv (.int .i64 n))))), (9, (.av (.one (.pv (.int .i64 n3))))), (10, (.av (.one (.pv (.bool (decide ((n3 : Int) < n)))))))], [(0, [(.pv (.int .i64 n2)), (.pv (.str s)), (.pv (.str s2))])], []⟩, .k0 t_.pf (by kernel_rfl), ⟨trivial, ⟨⟨rfl, ⟨.eq rfl, .eq rfl, .eq rfl, trivial⟩⟩, trivial⟩, trivial⟩⟩
theorem kinfolkref09_Has_L0_runs (r : List E_kinfolkref09_Field) (n : Int) (n2 : Int) (s : ByteArray) (s2 : ByteArray) (s_ : Int) (r_ : (Unit) ⊕ (Unit)) (h : runL (kinfolkref09_Has_L0_step r n n2 s s2) s_ = some r_) : LRuns Tryz.prog (lEnv Tryz.prog cfg 59 0).nt 0 (.loop (loopAt Tryz.prog 59 0)) (kinfolkref09_Has_L0_st r n n2 s s2 s_) (kinfolkref09_Has_L0_ex r n n2 s s2 r_).1 (kinfolkref09_Has_L0_ex r n n2 s s2 r_).2 :=
 loop_run h (kinfolkref09_Has_L0_ok r n n2 s s2) (by intro r_; rcases r_ with _ | _ <;> simp [kinfolkref09_Has_L0_ex])
noncomputable def kinfolkref09_Has (l : List E_kinfolkref09_Field) (f : Int) (f2 : ByteArray) (f3 : ByteArray) : Option (Bool) :=
 (runL (kinfolkref09_Has_L0_step l (((List.map E_kinfolkref09_Field.pv l)).length : Int) f f2 f3) 0).bind fun z_ => match z_ with
 | .inl _ =>
  some true
 | .inr _ =>
  some false
theorem kinfolkref09_Has_runs (l : List E_kinfolkref09_Field) (f : Int) (f2 : ByteArray) (f3 : ByteArray) (r_ : Bool) (h : kinfolkref09_Has l f f2 f3 = some r_) : Runs Tryz.prog 59 [(.one (.pv (.recs 3 (List.map E_kinfolkref09_Field.pv l) false))), (.agg [(.pv (.int .i64 f)), (.pv (.str f2)), (.pv (.str f3))])] [] [] (kinfolkref09_Has_out l f f2 f3 r_) := by
 unfold kinfolkref09_Has at h
 obtain ⟨z_, h1, h⟩ := bind_of h
 rcases z_ with _ | _
 ·have h := some_of h
  subst h
  have t_ := tL (kinfolkref09_Has_L0_runs l (((List.map E_kinfolkref09_Field.pv l)).length : Int) f f2 f3 _ _ h1) <| tN
  exact runs_of (C := cfg) (objs := []) (sc := t_.ev) (.k0 t_.pf (by kernel_rfl))
 ·have h := some_of h
  subst h
  have t_ := tL (kinfolkref09_Has_L0_runs l (((List.map E_kinfolkref09_Field.pv l)).length : Int) f f2 f3 _ _ h1) <| tN
  exact runs_of (C := cfg) (objs := []) (sc := t_.ev) (.k0 t_.pf (by kernel_rfl))
def kinfolkref09_Put_L0_2_st (r : List E_kinfolkref09_Field) (n : Int) (n2 : Int) (s : ByteArray) (s2 : ByteArray) : Bool × Int × List E_kinfolkref09_Field → St
 | (placed, n3, r2) => ⟨[(3, (.av (.one (.ref 0 0)))), (5, (.av (.one (.own 0 0 ((List.map E_kinfolkref09_Field.pv r2)).length false)))), (6, (.av (.one (.pv (.bool placed))))), (13, (.av (.one (.pv (.recs 3 (List.map E_kinfolkref09_Field.pv r) false))))), (14, (.av (.one (.pv (.int .i64 n))))), (15, (.av (.one (.pv (.int .i64 n3)))))], [(0, [(.pv (.int .i64 n2)), (.pv (.str s)), (.pv (.str s2))])], [(0, (.live (.recs 3 (List.map E_kinfolkref09_Field.pv r2))))]⟩
def kinfolkref09_Put_L0_2_ex (r : List E_kinfolkref09_Field) (n : Int) (n2 : Int) (s : ByteArray) (s2 : ByteArray) : Bool × List E_kinfolkref09_Field → Ex × St
 | (r1, r2) => ((.exit 0), ⟨[(3, (.av (.one (.ref 0 0)))), (5, (.av (.one (.own 0 0 ((List.map E_kinfolkref09_Field.pv r2)).length false)))), (6, (.av (.one (.pv (.bool r1)))))], [(0, [(.pv (.int .i64 n2)), (.pv (.str s)), (.pv (.str s2))])], [(0, (.live (.recs 3 (List.map E_kinfolkref09_Field.pv r2))))]⟩)
noncomputable def kinfolkref09_Put_L0_2_step (r : List E_kinfolkref09_Field) (n : Int) (n2 : Int) (s : ByteArray) (s2 : ByteArray) : Bool × Int × List E_kinfolkref09_Field → Option ((Bool × Int × List E_kinfolkref09_Field) ⊕ (Bool × List E_kinfolkref09_Field))
 | (placed, n3, r2) =>
 bif (decide ((n3 : Int) < n)) then
  bif decide ((0 : Int) ≤ n3) && decide ((n3 : Int) < (((List.map E_kinfolkref09_Field.pv r)).length : Int)) then
  (r[(n3).toNat]?).bind fun e_ => match e_ with
  | .mk n4 s3 s4 =>
  bif placed then
   bif fits (((List.map E_kinfolkref09_Field.pv r2) ++ ([[(.int .i64 n4), (.str s3), (.str s4)]] : List (List PV)))).length then
   some (.inl (placed, (iadd .i64 n3 1), (r2 ++ [(E_kinfolkref09_Field.mk n4 s3 s4)])))
   else none
  else
   (kinfolkref09_Less n2 s s2 n4 s3 s4).bind fun b =>
   bif b then
    bif fits (((List.map E_kinfolkref09_Field.pv r2) ++ ([[(.int .i64 n2), (.str s), (.str s2)]] : List (List PV)))).length then
    bif fits ((((List.map E_kinfolkref09_Field.pv r2) ++ ([[(.int .i64 n2), (.str s), (.str s2)]] : List (List PV))) ++ ([[(.int .i64 n4), (.str s3), (.str s4)]] : List (List PV)))).length then
    some (.inl (true, (iadd .i64 n3 1), ((r2 ++ [(E_kinfolkref09_Field.mk n2 s s2)]) ++ [(E_kinfolkref09_Field.mk n4 s3 s4)])))
    else none
    else none
   else
    bif fits (((List.map E_kinfolkref09_Field.pv r2) ++ ([[(.int .i64 n4), (.str s3), (.str s4)]] : List (List PV)))).length then
    some (.inl (placed, (iadd .i64 n3 1), (r2 ++ [(E_kinfolkref09_Field.mk n4 s3 s4)])))
    else none
  else none
 else
  some (.inr (placed, r2))
theorem kinfolkref09_Put_L0_2_ok (r : List E_kinfolkref09_Field) (n : Int) (n2 : Int) (s : ByteArray) (s2 : ByteArray) (s_ : Bool × Int × List E_kinfolkref09_Field) (z_ : (Bool × Int × List E_kinfolkref09_Field) ⊕ (Bool × List E_kinfolkref09_Field)) (h : kinfolkref09_Put_L0_2_step r n n2 s s2 s_ = some z_) : RoundOk Tryz.prog cfg 60 0 (loopAt Tryz.prog 60 0) (kinfolkref09_Put_L0_2_st r n n2 s s2) (kinfolkref09_Put_L0_2_ex r n n2 s s2) s_ z_ := by
 rcases s_ with ⟨placed, n3, r2⟩
 rcases cond_of h with ⟨h1, h⟩ | ⟨h1, h⟩
 ·obtain ⟨h2, h⟩ := need_of h
  obtain ⟨⟨n4, s3, s4⟩, h3, h⟩ := bind_of h
  rcases cond_of h with ⟨h4, h⟩ | ⟨h4, h⟩
  ·obtain ⟨h5, h⟩ := need_of h
   have h := some_of h
   subst h
   have t_ := tT h1 <| tO h2 <| tE (.el [(.int .i64 n4), (.str s3), (.str s4)]) <| tO (el_of (f := E_kinfolkref09_Field.pv) h3) <| tF (not_of2 h4) <| tF (rfl : false = false) <| tO (show (Nat.beq ((List.map E_kinfolkref09_Field.pv r2)).length ((List.map E_kinfolkref09_Field.pv r2)).length) = true from Nat.beq_refl _) <| tO h5 <| tN
   exact ⟨t_.ev, ⟨[(3, (.av (.one (.ref 0 0)))), (5, (.av (.one (.own 0 0 (((List.map E_kinfolkref09_Field.pv r2) ++ ([[(.int .i64 n4), (.str s3), (.str s4)]] : List (List PV)))).length false)))), (6, (.av (.one (.pv (.bool placed))))), (13, (.av (.one (.pv (.recs 3 (List.map E_kinfolkref09_Field.pv r) false))))), (14, (.av (.one (.pv (.int .i64 n))))), (15, (.av (.one (.pv (.int .i64 (iadd .i64 n3 1))))))], [(0, [(.pv (.int .i64 n2)), (.pv (.str s)), (.pv (.str s2))])], [(0, (.live (.recs 3 ((List.map E_kinfolkref09_Field.pv r2) ++ ([[(.int .i64 n4), (.str s3), (.str s4)]] : List (List PV))))))]⟩, .k0 t_.pf (by kernel_rfl), ⟨⟨⟨_, rfl, .eq rfl⟩, ⟨_, rfl, .own (by first | rfl | (simp only [List.take_length, List.drop_zero, List.map_take, List.nil_append]; done) | (simp; done) | (simp only [E_card_Field.upd, E_kinfolkref09_Field.upd, E_L_card_Field.upd, E_card_Card.upd]; done) | (simp [E_card_Field.pv, E_kinfolkref09_Field.pv, E_L_card_Field.pv, E_card_Card.pv]; done))⟩, ⟨_, rfl, .eq rfl⟩, ⟨_, rfl, .eq rfl⟩, ⟨_, rfl, .eq rfl⟩, ⟨_, rfl, .eq rfl⟩, trivial⟩, ⟨⟨rfl, ⟨.eq rfl, .eq rfl, .eq rfl, trivial⟩⟩, trivial⟩, ⟨⟨rfl, .recs (.app (.eq rfl) (.cons (.cons (.eq rfl) (.cons (.eq rfl) (.cons (.eq rfl) (.nil)))) (.nil)))⟩, trivial⟩⟩⟩
  ·obtain ⟨b, h5, h⟩ := bind_of h
   rcases cond_of h with ⟨h6, h⟩ | ⟨h6, h⟩
   ·obtain ⟨h7, h⟩ := need_of h
    obtain ⟨h8, h⟩ := need_of h
    have h := some_of h
    subst h
    have t_ := tT h1 <| tO h2 <| tE (.el [(.int .i64 n4), (.str s3), (.str s4)]) <| tO (el_of (f := E_kinfolkref09_Field.pv) h3) <| tT (not_of h4) <| tR (kinfolkref09_Less_runs n2 s s2 n4 s3 s4 _ h5) <| tT h6 <| tO (show (Nat.beq ((List.map E_kinfolkref09_Field.pv r2)).length ((List.map E_kinfolkref09_Field.pv r2)).length) = true from Nat.beq_refl _) <| tO h7 <| tO (show (Nat.beq (((List.map E_kinfolkref09_Field.pv r2) ++ ([[(.int .i64 n2), (.str s), (.str s2)]] : List (List PV)))).length (((List.map E_kinfolkref09_Field.pv r2) ++ ([[(.int .i64 n2), (.str s), (.str s2)]] : List (List PV)))).length) = true from Nat.beq_refl _) <| tO h8 <| tN
    exact ⟨t_.ev, ⟨[(3, (.av (.one (.ref 0 0)))), (5, (.av (.one (.own 0 0 ((((List.map E_kinfolkref09_Field.pv r2) ++ ([[(.int .i64 n2), (.str s), (.str s2)]] : List (List PV))) ++ ([[(.int .i64 n4), (.str s3), (.str s4)]] : List (List PV)))).length false)))), (6, (.av (.one (.pv (.bool true))))), (13, (.av (.one (.pv (.recs 3 (List.map E_kinfolkref09_Field.pv r) false))))), (14, (.av (.one (.pv (.int .i64 n))))), (15, (.av (.one (.pv (.int .i64 (iadd .i64 n3 1))))))], [(0, [(.pv (.int .i64 n2)), (.pv (.str s)), (.pv (.str s2))])], [(0, (.live (.recs 3 (((List.map E_kinfolkref09_Field.pv r2) ++ ([[(.int .i64 n2), (.str s), (.str s2)]] : List (List PV))) ++ ([[(.int .i64 n4), (.str s3), (.str s4)]] : List (List PV))))))]⟩, .k0 t_.pf (by kernel_rfl), ⟨⟨⟨_, rfl, .eq rfl⟩, ⟨_, rfl, .own (by first | rfl | (simp only [List.take_length, List.drop_zero, List.map_take, List.nil_append]; done) | (simp; done) | (simp only [E_card_Field.upd, E_kinfolkref09_Field.upd, E_L_card_Field.upd, E_card_Card.upd]; done) | (simp [E_card_Field.pv, E_kinfolkref09_Field.pv, E_L_card_Field.pv, E_card_Card.pv]; done))⟩, ⟨_, rfl, .eq rfl⟩, ⟨_, rfl, .eq rfl⟩, ⟨_, rfl, .eq rfl⟩, ⟨_, rfl, .eq rfl⟩, trivial⟩, ⟨⟨rfl, ⟨.eq rfl, .eq rfl, .eq rfl, trivial⟩⟩, trivial⟩, ⟨⟨rfl, .recs (.app (.app (.eq rfl) (.cons (.cons (.eq rfl) (.cons (.eq rfl) (.cons (.eq rfl) (.nil)))) (.nil))) (.cons (.cons (.eq rfl) (.cons (.eq rfl) (.cons (.eq rfl) (.nil)))) (.nil)))⟩, trivial⟩⟩⟩
   ·obtain ⟨h7, h⟩ := need_of h
    have h := some_of h
    subst h
    have t_ := tT h1 <| tO h2 <| tE (.el [(.int .i64 n4), (.str s3), (.str s4)]) <| tO (el_of (f := E_kinfolkref09_Field.pv) h3) <| tT (not_of h4) <| tR (kinfolkref09_Less_runs n2 s s2 n4 s3 s4 _ h5) <| tF h6 <| tO (show (Nat.beq ((List.map E_kinfolkref09_Field.pv r2)).length ((List.map E_kinfolkref09_Field.pv r2)).length) = true from Nat.beq_refl _) <| tO h7 <| tN
    exact ⟨t_.ev, ⟨[(3, (.av (.one (.ref 0 0)))), (5, (.av (.one (.own 0 0 (((List.map E_kinfolkref09_Field.pv r2) ++ ([[(.int .i64 n4), (.str s3), (.str s4)]] : List (List PV)))).length false)))), (6, (.av (.one (.pv (.bool placed))))), (13, (.av (.one (.pv (.recs 3 (List.map E_kinfolkref09_Field.pv r) false))))), (14, (.av (.one (.pv (.int .i64 n))))), (15, (.av (.one (.pv (.int .i64 (iadd .i64 n3 1))))))], [(0, [(.pv (.int .i64 n2)), (.pv (.str s)), (.pv (.str s2))])], [(0, (.live (.recs 3 ((List.map E_kinfolkref09_Field.pv r2) ++ ([[(.int .i64 n4), (.str s3), (.str s4)]] : List (List PV))))))]⟩, .k0 t_.pf (by kernel_rfl), ⟨⟨⟨_, rfl, .eq rfl⟩, ⟨_, rfl, .own (by first | rfl | (simp only [List.take_length, List.drop_zero, List.map_take, List.nil_append]; done) | (simp; done) | (simp only [E_card_Field.upd, E_kinfolkref09_Field.upd, E_L_card_Field.upd, E_card_Card.upd]; done) | (simp [E_card_Field.pv, E_kinfolkref09_Field.pv, E_L_card_Field.pv, E_card_Card.pv]; done))⟩, ⟨_, rfl, .eq rfl⟩, ⟨_, rfl, .eq rfl⟩, ⟨_, rfl, .eq rfl⟩, ⟨_, rfl, .eq rfl⟩, trivial⟩, ⟨⟨rfl, ⟨.eq rfl, .eq rfl, .eq rfl, trivial⟩⟩, trivial⟩, ⟨⟨rfl, .recs (.app (.eq rfl) (.cons (.cons (.eq rfl) (.cons (.eq rfl) (.cons (.eq rfl) (.nil)))) (.nil)))⟩, trivial⟩⟩⟩
 ·have h := some_of h
  subst h
  have t_ := tF h1 <| tN
  exact ⟨t_.ev, ⟨[(16, (.av (.one (.pv (.bool false))))), (3, (.av (.one (.ref 0 0)))), (5, (.av (.one (.own 0 0 ((List.map E_kinfolkref09_Field.pv r2)).length false)))), (6, (.av (.one (.pv (.bool placed))))), (13, (.av (.one (.pv (.recs 3 (List.map E_kinfolkref09_Field.pv r) false))))), (14, (.av (.one (.pv (.int .i64 n))))), (15, (.av (.one (.pv (.int .i64 n3))))), (16, (.av (.one (.pv (.bool (decide ((n3 : Int) < n)))))))], [(0, [(.pv (.int .i64 n2)), (.pv (.str s)), (.pv (.str s2))])], [(0, (.live (.recs 3 (List.map E_kinfolkref09_Field.pv r2))))]⟩, .k0 t_.pf (by kernel_rfl), ⟨⟨⟨_, rfl, .eq rfl⟩, ⟨_, rfl, .eq rfl⟩, ⟨_, rfl, .eq rfl⟩, trivial⟩, ⟨⟨rfl, ⟨.eq rfl, .eq rfl, .eq rfl, trivial⟩⟩, trivial⟩, ⟨⟨rfl, .eq rfl⟩, trivial⟩⟩⟩
theorem kinfolkref09_Put_L0_2_runs (r : List E_kinfolkref09_Field) (n : Int) (n2 : Int) (s : ByteArray) (s2 : ByteArray) (s_ : Bool × Int × List E_kinfolkref09_Field) (r_ : Bool × List E_kinfolkref09_Field) (h : runL (kinfolkref09_Put_L0_2_step r n n2 s s2) s_ = some r_) : LRuns Tryz.prog (lEnv Tryz.prog cfg 60 0).nt 0 (.loop (loopAt Tryz.prog 60 0)) (kinfolkref09_Put_L0_2_st r n n2 s s2 s_) (kinfolkref09_Put_L0_2_ex r n n2 s s2 r_).1 (kinfolkref09_Put_L0_2_ex r n n2 s s2 r_).2 :=
 loop_run h (kinfolkref09_Put_L0_2_ok r n n2 s s2) (by intro r_; rcases r_ with ⟨r1, r2⟩ <;> simp [kinfolkref09_Put_L0_2_ex])
end Go.Proofs.YteiikkpajcggfaaGreatDoor
