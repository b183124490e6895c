/- What functions compute, and that they do. -/
import Derived.Test.YteiikkpajcggfaaGreatDoorA2
set_option linter.unusedVariables false
set_option linter.unusedSimpArgs false
set_option maxRecDepth 100000
namespace Go.Proofs.YteiikkpajcggfaaGreatDoor
open Go.Ev
noncomputable def wire_In_Text (most : Int) (l : List Int) (n : Int) : Option (ByteArray × List Int × Int) :=
 (wire_In_Err l n).bind fun _ =>
 bif (decide ((n : Int) = 0)) then
  (wire_In_Num l n).bind fun (n2, l_, n3) =>
  bif (decide ((n3 : Int) = 0)) then
   bif (decide ((most : Int) < 0)) then
    (wire_In_Fail 9 l_ n3).bind fun n4 =>
    bif (decide ((n4 : Int) = 0)) then
     bif decide ((0 : Int) ≤ 0) && decide ((0 : Int) ≤ n2) && decide ((n2 : Int) ≤ ((l_).length : Int)) && decide ((n2 : Int) = n2) then
     bif decide ((0 : Int) ≤ n2) && decide ((n2 : Int) ≤ ((l_).length : Int)) && decide ((((l_).length : Int) : Int) ≤ ((l_).length : Int)) && decide ((((l_).length : Int) : Int) = ((l_).length : Int)) then
     some ((strOf (List.take (n2 - 0).toNat l_)), (List.take (((l_).length : Int) - n2).toNat (List.drop (n2).toNat l_)), n4)
     else none
     else none
    else
     some ((⟨#[]⟩ : ByteArray), l, n4)
   else
    bif (decide (((IntKind.u64.wrap most) : Int) < n2)) then
     (wire_In_Fail 9 l_ n3).bind fun n4 =>
     bif (decide ((n4 : Int) = 0)) then
      bif decide ((0 : Int) ≤ 0) && decide ((0 : Int) ≤ n2) && decide ((n2 : Int) ≤ ((l_).length : Int)) && decide ((n2 : Int) = n2) then
      bif decide ((0 : Int) ≤ n2) && decide ((n2 : Int) ≤ ((l_).length : Int)) && decide ((((l_).length : Int) : Int) ≤ ((l_).length : Int)) && decide ((((l_).length : Int) : Int) = ((l_).length : Int)) then
      some ((strOf (List.take (n2 - 0).toNat l_)), (List.take (((l_).length : Int) - n2).toNat (List.drop (n2).toNat l_)), n4)
      else none
      else none
     else
      some ((⟨#[]⟩ : ByteArray), l, n4)
    else
     bif (decide (((IntKind.u64.wrap ((l_).length : Int)) : Int) < n2)) then
      (wire_In_Fail 6 l_ n3).bind fun n4 =>
      bif (decide ((n4 : Int) = 0)) then
       bif decide ((0 : Int) ≤ 0) && decide ((0 : Int) ≤ n2) && decide ((n2 : Int) ≤ ((l_).length : Int)) && decide ((n2 : Int) = n2) then
       bif decide ((0 : Int) ≤ n2) && decide ((n2 : Int) ≤ ((l_).length : Int)) && decide ((((l_).length : Int) : Int) ≤ ((l_).length : Int)) && decide ((((l_).length : Int) : Int) = ((l_).length : Int)) then
       some ((strOf (List.take (n2 - 0).toNat l_)), (List.take (((l_).length : Int) - n2).toNat (List.drop (n2).toNat l_)), n4)
       else none
       else none
      else
       some ((⟨#[]⟩ : ByteArray), l, n4)
     else
      bif decide ((0 : Int) ≤ 0) && decide ((0 : Int) ≤ n2) && decide ((n2 : Int) ≤ ((l_).length : Int)) && decide ((n2 : Int) = n2) then
      bif decide ((0 : Int) ≤ n2) && decide ((n2 : Int) ≤ ((l_).length : Int)) && decide ((((l_).length : Int) : Int) ≤ ((l_).length : Int)) && decide ((((l_).length : Int) : Int) = ((l_).length : Int)) then
      some ((strOf (List.take (n2 - 0).toNat l_)), (List.take (((l_).length : Int) - n2).toNat (List.drop (n2).toNat l_)), n3)
      else none
      else none
  else
   some ((⟨#[]⟩ : ByteArray), l, n3)
 else
  some ((⟨#[]⟩ : ByteArray), l, n)
theorem wire_In_Text_runs (most : Int) (l : List Int) (n : Int) (r_ : ByteArray × List Int × Int) (h : wire_In_Text most l n = some r_) : Runs Tryz.prog 75 [(.one (.ref 0 0)), (.one (.pv (.int .i64 most)))] [[(.pv (.ints .u8 l false)), (.pv (.int .i64 n))]] [] (wire_In_Text_out most l n r_) := by
 unfold wire_In_Text at h
 obtain ⟨_, h1, h⟩ := bind_of h
 rcases cond_of h with ⟨h2, h⟩ | ⟨h2, h⟩
 ·obtain ⟨⟨n2, l_, n3⟩, h3, h⟩ := bind_of h
  rcases cond_of h with ⟨h4, h⟩ | ⟨h4, h⟩
  ·rcases cond_of h with ⟨h5, h⟩ | ⟨h5, h⟩
   ·obtain ⟨n4, h6, h⟩ := bind_of h
    rcases cond_of h with ⟨h7, h⟩ | ⟨h7, h⟩
    ·obtain ⟨h8, h⟩ := need_of h
     obtain ⟨h9, h⟩ := need_of h
     have h := some_of h
     subst h
     have t_ := tR (wire_In_Err_runs l n _ h1) <| tF (not_of2 h2) <| tR (wire_In_Num_runs l n _ h3) <| tF (not_of2 h4) <| tT h5 <| tT (rfl : true = true) <| tR (wire_In_Fail_runs 9 l_ n3 _ h6) <| tF (not_of2 h7) <| tO h8 <| tO h9 <| tN
     exact runs_of (C := cfg) (objs := [[(.pv (.ints .u8 l false)), (.pv (.int .i64 n))]]) (sc := t_.ev) (.k0 t_.pf (by kernel_rfl))
    ·have h := some_of h
     subst h
     have t_ := tR (wire_In_Err_runs l n _ h1) <| tF (not_of2 h2) <| tR (wire_In_Num_runs l n _ h3) <| tF (not_of2 h4) <| tT h5 <| tT (rfl : true = true) <| tR (wire_In_Fail_runs 9 l_ n3 _ h6) <| tT (not_of h7) <| tN
     exact runs_of (C := cfg) (objs := [[(.pv (.ints .u8 l false)), (.pv (.int .i64 n))]]) (sc := t_.ev) (.k0 t_.pf (by kernel_rfl))
   ·rcases cond_of h with ⟨h6, h⟩ | ⟨h6, h⟩
    ·obtain ⟨n4, h7, h⟩ := bind_of h
     rcases cond_of h with ⟨h8, h⟩ | ⟨h8, h⟩
     ·obtain ⟨h9, h⟩ := need_of h
      obtain ⟨h10, h⟩ := need_of h
      have h := some_of h
      subst h
      have t_ := tR (wire_In_Err_runs l n _ h1) <| tF (not_of2 h2) <| tR (wire_In_Num_runs l n _ h3) <| tF (not_of2 h4) <| tF h5 <| tT h6 <| tR (wire_In_Fail_runs 9 l_ n3 _ h7) <| tF (not_of2 h8) <| tO h9 <| tO h10 <| tN
      exact runs_of (C := cfg) (objs := [[(.pv (.ints .u8 l false)), (.pv (.int .i64 n))]]) (sc := t_.ev) (.k0 t_.pf (by kernel_rfl))
     ·have h := some_of h
      subst h
      have t_ := tR (wire_In_Err_runs l n _ h1) <| tF (not_of2 h2) <| tR (wire_In_Num_runs l n _ h3) <| tF (not_of2 h4) <| tF h5 <| tT h6 <| tR (wire_In_Fail_runs 9 l_ n3 _ h7) <| tT (not_of h8) <| tN
      exact runs_of (C := cfg) (objs := [[(.pv (.ints .u8 l false)), (.pv (.int .i64 n))]]) (sc := t_.ev) (.k0 t_.pf (by kernel_rfl))
    ·rcases cond_of h with ⟨h7, h⟩ | ⟨h7, h⟩
     ·obtain ⟨n4, h8, h⟩ := bind_of h
      rcases cond_of h with ⟨h9, h⟩ | ⟨h9, h⟩
      ·obtain ⟨h10, h⟩ := need_of h
       obtain ⟨h11, h⟩ := need_of h
       have h := some_of h
       subst h
       have t_ := tR (wire_In_Err_runs l n _ h1) <| tF (not_of2 h2) <| tR (wire_In_Num_runs l n _ h3) <| tF (not_of2 h4) <| tF h5 <| tF h6 <| tT h7 <| tR (wire_In_Fail_runs 6 l_ n3 _ h8) <| tF (not_of2 h9) <| tO h10 <| tO h11 <| tN
       exact runs_of (C := cfg) (objs := [[(.pv (.ints .u8 l false)), (.pv (.int .i64 n))]]) (sc := t_.ev) (.k0 t_.pf (by kernel_rfl))
      ·have h := some_of h
       subst h
       have t_ := tR (wire_In_Err_runs l n _ h1) <| tF (not_of2 h2) <| tR (wire_In_Num_runs l n _ h3) <| tF (not_of2 h4) <| tF h5 <| tF h6 <| tT h7 <| tR (wire_In_Fail_runs 6 l_ n3 _ h8) <| tT (not_of h9) <| tN
       exact runs_of (C := cfg) (objs := [[(.pv (.ints .u8 l false)), (.pv (.int .i64 n))]]) (sc := t_.ev) (.k0 t_.pf (by kernel_rfl))
     ·obtain ⟨h8, h⟩ := need_of h
      obtain ⟨h9, h⟩ := need_of h
      have h := some_of h
      subst h
      have t_ := tR (wire_In_Err_runs l n _ h1) <| tF (not_of2 h2) <| tR (wire_In_Num_runs l n _ h3) <| tF (not_of2 h4) <| tF h5 <| tF h6 <| tF h7 <| tF (not_of2 h4) <| tO h8 <| tO h9 <| tN
      exact runs_of (C := cfg) (objs := [[(.pv (.ints .u8 l false)), (.pv (.int .i64 n))]]) (sc := t_.ev) (.k0 t_.pf (by kernel_rfl))
  ·have h := some_of h
   subst h
   have t_ := tR (wire_In_Err_runs l n _ h1) <| tF (not_of2 h2) <| tR (wire_In_Num_runs l n _ h3) <| tT (not_of h4) <| tT (not_of h4) <| tN
   exact runs_of (C := cfg) (objs := [[(.pv (.ints .u8 l false)), (.pv (.int .i64 n))]]) (sc := t_.ev) (.k0 t_.pf (by kernel_rfl))
 ·have h := some_of h
  subst h
  have t_ := tR (wire_In_Err_runs l n _ h1) <| tT (not_of h2) <| tN
  exact runs_of (C := cfg) (objs := [[(.pv (.ints .u8 l false)), (.pv (.int .i64 n))]]) (sc := t_.ev) (.k0 t_.pf (by kernel_rfl))
def wire_In_End_out (l : List Int) (n : Int) : Int × Int → Res
 | (r1, r2) => ([(.one (.pv (.int .i64 r1)))], [[(.pv (.ints .u8 l false)), (.pv (.int .i64 r2))]], [])
def wire_In_Left_out (l : List Int) (n : Int) : Int → Res
 | r1 => ([(.one (.pv (.int .i64 r1)))], [[(.pv (.ints .u8 l false)), (.pv (.int .i64 n))]], [])
noncomputable def wire_In_Left (l : List Int) (n : Int) : Option (Int) :=
 some ((l).length : Int)
theorem wire_In_Left_runs (l : List Int) (n : Int) (r_ : Int) (h : wire_In_Left l n = some r_) : Runs Tryz.prog 36 [(.one (.ref 0 0))] [[(.pv (.ints .u8 l false)), (.pv (.int .i64 n))]] [] (wire_In_Left_out l n r_) := by
 unfold wire_In_Left at h
 have h := some_of h
 subst h
 have t_ := tF (rfl : false = false) <| tN
 exact runs_of (C := cfg) (objs := [[(.pv (.ints .u8 l false)), (.pv (.int .i64 n))]]) (sc := t_.ev) (.k0 t_.pf (by kernel_rfl))
noncomputable def wire_In_End (l : List Int) (n : Int) : Option (Int × Int) :=
 (wire_In_Left l n).bind fun n2 =>
 bif (decide ((0 : Int) < n2)) then
  (wire_In_Fail 6 l n).bind fun n3 =>
  (wire_In_Err l n3).bind fun _ =>
  some (n3, n3)
 else
  (wire_In_Err l n).bind fun _ =>
  some (n, n)
theorem wire_In_End_runs (l : List Int) (n : Int) (r_ : Int × Int) (h : wire_In_End l n = some r_) : Runs Tryz.prog 38 [(.one (.ref 0 0))] [[(.pv (.ints .u8 l false)), (.pv (.int .i64 n))]] [] (wire_In_End_out l n r_) := by
 unfold wire_In_End at h
 obtain ⟨n2, h1, h⟩ := bind_of h
 rcases cond_of h with ⟨h2, h⟩ | ⟨h2, h⟩
 ·obtain ⟨n3, h3, h⟩ := bind_of h
  obtain ⟨_, h4, h⟩ := bind_of h
  have h := some_of h
  subst h
  have t_ := tR (wire_In_Left_runs l n _ h1) <| tT h2 <| tR (wire_In_Fail_runs 6 l n _ h3) <| tR (wire_In_Err_runs l n3 _ h4) <| tN
  exact runs_of (C := cfg) (objs := [[(.pv (.ints .u8 l false)), (.pv (.int .i64 n))]]) (sc := t_.ev) (.k0 t_.pf (by kernel_rfl))
 ·obtain ⟨_, h3, h⟩ := bind_of h
  have h := some_of h
  subst h
  have t_ := tR (wire_In_Left_runs l n _ h1) <| tF h2 <| tR (wire_In_Err_runs l n _ h3) <| tN
  exact runs_of (C := cfg) (objs := [[(.pv (.ints .u8 l false)), (.pv (.int .i64 n))]]) (sc := t_.ev) (.k0 t_.pf (by kernel_rfl))
def kinfolkref06_GetNum_out (l : List Int) (n : Int) (n2 : Int) : Int × Int × Int → Res
 | (r1, r2, r3) => ([(.one (.pv (.int .u64 r1)))], [[(.pv (.ints .u8 l false)), (.pv (.int .i64 r2)), (.pv (.int .i64 r3))]], [])
def kinfolkref06_number_out (p : List Int) (at_ : Int) : Int × Int → Res
 | (r1, r2) => ([(.one (.pv (.int .u64 r1))), (.one (.pv (.int .i64 r2)))], [], [])
def kinfolkref06_number_L0_st (p : List Int) (at_ : Int) : Int → St
 | k => ⟨[(0, (.av (.one (.pv (.ints .u8 p false))))), (1, (.av (.one (.pv (.int .i64 at_))))), (6, (.av (.one (.pv (.int .i64 k)))))], [], []⟩
def kinfolkref06_number_L0_ex (p : List Int) (at_ : Int) : Int → Ex × St
 | r1 => ((.exit 0), ⟨[(0, (.av (.one (.pv (.ints .u8 p false))))), (1, (.av (.one (.pv (.int .i64 at_))))), (6, (.av (.one (.pv (.int .i64 r1)))))], [], []⟩)
noncomputable def kinfolkref06_number_L0_step (p : List Int) (at_ : Int) : Int → Option ((Int) ⊕ (Int))
 | k =>
 bif (decide ((k : Int) < ((p).length : Int))) then
  bif (decide ((k : Int) < (iadd .i64 at_ 9))) then
   bif decide ((0 : Int) ≤ k) && decide ((k : Int) < ((p).length : Int)) then
   bif (decide ((127 : Int) < (p.getD (k).toNat 0))) then
    some (.inl (iadd .i64 k 1))
   else
    some (.inr k)
   else none
  else
   some (.inr k)
 else
  some (.inr k)
theorem kinfolkref06_number_L0_ok (p : List Int) (at_ : Int) (k : Int) (z_ : (Int) ⊕ (Int)) (h : kinfolkref06_number_L0_step p at_ k = some z_) : RoundOk Tryz.prog cfg 118 0 (loopAt Tryz.prog 118 0) (kinfolkref06_number_L0_st p at_) (kinfolkref06_number_L0_ex p at_) k z_ := by
 rcases cond_of h with ⟨h1, h⟩ | ⟨h1, h⟩
 ·rcases cond_of h with ⟨h2, h⟩ | ⟨h2, h⟩
  ·obtain ⟨h3, h⟩ := need_of h
   rcases cond_of h with ⟨h4, h⟩ | ⟨h4, h⟩
   ·have h := some_of h
    subst h
    have t_ := tT h1 <| tT h2 <| tO h3 <| tT h4 <| tN
    exact ⟨t_.ev, kinfolkref06_number_L0_st p at_ (iadd .i64 k 1), .k0 t_.pf (by kernel_rfl), .same (by kernel_rfl)⟩
   ·have h := some_of h
    subst h
    have t_ := tT h1 <| tT h2 <| tO h3 <| tF h4 <| tN
    exact ⟨t_.ev, ⟨[(26, (.av (.one (.pv (.bool false))))), (0, (.av (.one (.pv (.ints .u8 p false))))), (1, (.av (.one (.pv (.int .i64 at_))))), (6, (.av (.one (.pv (.int .i64 k))))), (26, (.av (.one (.pv (.bool (decide ((127 : Int) < (p.getD (k).toNat 0))))))))], [], []⟩, .k0 t_.pf (by kernel_rfl), ⟨⟨⟨_, rfl, .eq rfl⟩, ⟨_, rfl, .eq rfl⟩, ⟨_, rfl, .eq rfl⟩, trivial⟩, trivial, trivial⟩⟩
  ·have h := some_of h
   subst h
   have t_ := tT h1 <| tF h2 <| tF (rfl : false = false) <| tN
   exact ⟨t_.ev, ⟨[(26, (.av (.one (.pv (.bool false))))), (0, (.av (.one (.pv (.ints .u8 p false))))), (1, (.av (.one (.pv (.int .i64 at_))))), (6, (.av (.one (.pv (.int .i64 k))))), (26, (.av (.one (.pv (.bool false)))))], [], []⟩, .k0 t_.pf (by kernel_rfl), ⟨⟨⟨_, rfl, .eq rfl⟩, ⟨_, rfl, .eq rfl⟩, ⟨_, rfl, .eq rfl⟩, trivial⟩, trivial, trivial⟩⟩
 ·have h := some_of h
  subst h
  have t_ := tF h1 <| tF (rfl : false = false) <| tF (rfl : false = false) <| tN
  exact ⟨t_.ev, ⟨[(26, (.av (.one (.pv (.bool false))))), (0, (.av (.one (.pv (.ints .u8 p false))))), (1, (.av (.one (.pv (.int .i64 at_))))), (6, (.av (.one (.pv (.int .i64 k))))), (26, (.av (.one (.pv (.bool false)))))], [], []⟩, .k0 t_.pf (by kernel_rfl), ⟨⟨⟨_, rfl, .eq rfl⟩, ⟨_, rfl, .eq rfl⟩, ⟨_, rfl, .eq rfl⟩, trivial⟩, trivial, trivial⟩⟩
theorem kinfolkref06_number_L0_runs (p : List Int) (at_ : Int) (s_ : Int) (r_ : Int) (h : runL (kinfolkref06_number_L0_step p at_) s_ = some r_) : LRuns Tryz.prog (lEnv Tryz.prog cfg 118 0).nt 0 (.loop (loopAt Tryz.prog 118 0)) (kinfolkref06_number_L0_st p at_ s_) (kinfolkref06_number_L0_ex p at_ r_).1 (kinfolkref06_number_L0_ex p at_ r_).2 :=
 loop_run h (kinfolkref06_number_L0_ok p at_) (by intro r_; rcases r_ with r1 <;> simp [kinfolkref06_number_L0_ex])
def kinfolkref06_number_L1_st (p : List Int) (at_ : Int) (k : Int) : Int × Int → St
 | (n, i) => ⟨[(0, (.av (.one (.pv (.ints .u8 p false))))), (1, (.av (.one (.pv (.int .i64 at_))))), (6, (.av (.one (.pv (.int .i64 k))))), (7, (.av (.one (.pv (.int .u64 n))))), (8, (.av (.one (.pv (.int .i64 i)))))], [], []⟩
def kinfolkref06_number_L1_ex (p : List Int) (at_ : Int) (k : Int) : Int → Ex × St
 | r1 => ((.exit 2), ⟨[(1, (.av (.one (.pv (.int .i64 at_))))), (6, (.av (.one (.pv (.int .i64 k))))), (7, (.av (.one (.pv (.int .u64 r1)))))], [], []⟩)
noncomputable def kinfolkref06_number_L1_step (p : List Int) (at_ : Int) (k : Int) : Int × Int → Option ((Int × Int) ⊕ (Int))
 | (n, i) =>
 bif (decide ((at_ : Int) ≤ i)) then
  bif decide ((0 : Int) ≤ i) && decide ((i : Int) < ((p).length : Int)) then
  some (.inl ((iadd .u64 (imul .u64 128 n) (IntKind.u64.wrap (irem .u8 (p.getD (i).toNat 0) 128))), (isub .i64 i 1)))
  else none
 else
  some (.inr n)
theorem kinfolkref06_number_L1_ok (p : List Int) (at_ : Int) (k : Int) (s_ : Int × Int) (z_ : (Int × Int) ⊕ (Int)) (h : kinfolkref06_number_L1_step p at_ k s_ = some z_) : RoundOk Tryz.prog cfg 118 0 (loopAt Tryz.prog 118 1) (kinfolkref06_number_L1_st p at_ k) (kinfolkref06_number_L1_ex p at_ k) s_ z_ := by
 rcases s_ with ⟨n, i⟩
 rcases cond_of h with ⟨h1, h⟩ | ⟨h1, h⟩
 ·obtain ⟨h2, h⟩ := need_of h
  have h := some_of h
  subst h
  have t_ := tT h1 <| tO h2 <| tO (rfl : true = true) <| tN
  exact ⟨t_.ev, kinfolkref06_number_L1_st p at_ k ((iadd .u64 (imul .u64 128 n) (IntKind.u64.wrap (irem .u8 (p.getD (i).toNat 0) 128))), (isub .i64 i 1)), .k0 t_.pf (by kernel_rfl), .same (by kernel_rfl)⟩
 ·have h := some_of h
  subst h
  have t_ := tF h1 <| tN
  exact ⟨t_.ev, ⟨[(61, (.av (.one (.pv (.bool false))))), (0, (.av (.one (.pv (.ints .u8 p false))))), (1, (.av (.one (.pv (.int .i64 at_))))), (6, (.av (.one (.pv (.int .i64 k))))), (7, (.av (.one (.pv (.int .u64 n))))), (8, (.av (.one (.pv (.int .i64 i))))), (61, (.av (.one (.pv (.bool (decide ((at_ : Int) ≤ i)))))))], [], []⟩, .k0 t_.pf (by kernel_rfl), ⟨⟨⟨_, rfl, .eq rfl⟩, ⟨_, rfl, .eq rfl⟩, ⟨_, rfl, .eq rfl⟩, trivial⟩, trivial, trivial⟩⟩
theorem kinfolkref06_number_L1_runs (p : List Int) (at_ : Int) (k : Int) (s_ : Int × Int) (r_ : Int) (h : runL (kinfolkref06_number_L1_step p at_ k) s_ = some r_) : LRuns Tryz.prog (lEnv Tryz.prog cfg 118 0).nt 0 (.loop (loopAt Tryz.prog 118 1)) (kinfolkref06_number_L1_st p at_ k s_) (kinfolkref06_number_L1_ex p at_ k r_).1 (kinfolkref06_number_L1_ex p at_ k r_).2 :=
 loop_run h (kinfolkref06_number_L1_ok p at_ k) (by intro r_; rcases r_ with r1 <;> simp [kinfolkref06_number_L1_ex])
noncomputable def kinfolkref06_number (p : List Int) (at_ : Int) : Option (Int × Int) :=
 (runL (kinfolkref06_number_L0_step p at_) at_).bind fun n =>
 bif (decide ((((p).length : Int) : Int) ≤ n)) then
  some (0, 0)
 else
  bif (decide ((n : Int) = (iadd .i64 at_ 9))) then
   bif decide ((0 : Int) ≤ n) && decide ((n : Int) < ((p).length : Int)) then
   bif (decide ((1 : Int) < (p.getD (n).toNat 0))) then
    some (0, 0)
   else
    bif (decide ((at_ : Int) < n)) then
     bif (decide (((p.getD (n).toNat 0) : Int) = 0)) then
      some (0, 0)
     else
      (runL (kinfolkref06_number_L1_step p at_ n) (0, n)).bind fun n2 =>
      some (n2, (iadd .i64 (isub .i64 n at_) 1))
    else
     (runL (kinfolkref06_number_L1_step p at_ n) (0, n)).bind fun n2 =>
     some (n2, (iadd .i64 (isub .i64 n at_) 1))
   else none
  else
   bif (decide ((at_ : Int) < n)) then
    bif decide ((0 : Int) ≤ n) && decide ((n : Int) < ((p).length : Int)) then
    bif (decide (((p.getD (n).toNat 0) : Int) = 0)) then
     some (0, 0)
    else
     (runL (kinfolkref06_number_L1_step p at_ n) (0, n)).bind fun n2 =>
     some (n2, (iadd .i64 (isub .i64 n at_) 1))
    else none
   else
    (runL (kinfolkref06_number_L1_step p at_ n) (0, n)).bind fun n2 =>
    some (n2, (iadd .i64 (isub .i64 n at_) 1))
theorem kinfolkref06_number_runs (p : List Int) (at_ : Int) (r_ : Int × Int) (h : kinfolkref06_number p at_ = some r_) : Runs Tryz.prog 118 [(.one (.pv (.ints .u8 p false))), (.one (.pv (.int .i64 at_)))] [] [] (kinfolkref06_number_out p at_ r_) := by
 unfold kinfolkref06_number at h
 obtain ⟨n, h1, h⟩ := bind_of h
 rcases cond_of h with ⟨h2, h⟩ | ⟨h2, h⟩
 ·have h := some_of h
  subst h
  have t_ := tL (kinfolkref06_number_L0_runs p at_ _ _ h1) <| tT h2 <| tT (rfl : true = true) <| tT (rfl : true = true) <| tN
  exact runs_of (C := cfg) (objs := []) (sc := t_.ev) (.k0 t_.pf (by kernel_rfl))
 ·rcases cond_of h with ⟨h3, h⟩ | ⟨h3, h⟩
  ·obtain ⟨h4, h⟩ := need_of h
   rcases cond_of h with ⟨h5, h⟩ | ⟨h5, h⟩
   ·have h := some_of h
    subst h
    have t_ := tL (kinfolkref06_number_L0_runs p at_ _ _ h1) <| tF h2 <| tT h3 <| tO h4 <| tT h5 <| tT (rfl : true = true) <| tN
    exact runs_of (C := cfg) (objs := []) (sc := t_.ev) (.k0 t_.pf (by kernel_rfl))
   ·rcases cond_of h with ⟨h6, h⟩ | ⟨h6, h⟩
    ·rcases cond_of h with ⟨h7, h⟩ | ⟨h7, h⟩
     ·have h := some_of h
      subst h
      have t_ := tL (kinfolkref06_number_L0_runs p at_ _ _ h1) <| tF h2 <| tT h3 <| tO h4 <| tF h5 <| tT h6 <| tO h4 <| tT h7 <| tN
      exact runs_of (C := cfg) (objs := []) (sc := t_.ev) (.k0 t_.pf (by kernel_rfl))
     ·obtain ⟨n2, h8, h⟩ := bind_of h
      have h := some_of h
      subst h
      have t_ := tL (kinfolkref06_number_L0_runs p at_ _ _ h1) <| tF h2 <| tT h3 <| tO h4 <| tF h5 <| tT h6 <| tO h4 <| tF h7 <| tL (kinfolkref06_number_L1_runs p at_ n _ _ h8) <| tN
      exact runs_of (C := cfg) (objs := []) (sc := t_.ev) (.k0 t_.pf (by kernel_rfl))
    ·obtain ⟨n2, h7, h⟩ := bind_of h
     have h := some_of h
     subst h
     have t_ := tL (kinfolkref06_number_L0_runs p at_ _ _ h1) <| tF h2 <| tT h3 <| tO h4 <| tF h5 <| tF h6 <| tF (rfl : false = false) <| tL (kinfolkref06_number_L1_runs p at_ n _ _ h7) <| tN
     exact runs_of (C := cfg) (objs := []) (sc := t_.ev) (.k0 t_.pf (by kernel_rfl))
  ·rcases cond_of h with ⟨h4, h⟩ | ⟨h4, h⟩
   ·obtain ⟨h5, h⟩ := need_of h
    rcases cond_of h with ⟨h6, h⟩ | ⟨h6, h⟩
    ·have h := some_of h
     subst h
     have t_ := tL (kinfolkref06_number_L0_runs p at_ _ _ h1) <| tF h2 <| tF h3 <| tF (rfl : false = false) <| tT h4 <| tO h5 <| tT h6 <| tN
     exact runs_of (C := cfg) (objs := []) (sc := t_.ev) (.k0 t_.pf (by kernel_rfl))
    ·obtain ⟨n2, h7, h⟩ := bind_of h
     have h := some_of h
     subst h
     have t_ := tL (kinfolkref06_number_L0_runs p at_ _ _ h1) <| tF h2 <| tF h3 <| tF (rfl : false = false) <| tT h4 <| tO h5 <| tF h6 <| tL (kinfolkref06_number_L1_runs p at_ n _ _ h7) <| tN
     exact runs_of (C := cfg) (objs := []) (sc := t_.ev) (.k0 t_.pf (by kernel_rfl))
   ·obtain ⟨n2, h5, h⟩ := bind_of h
    have h := some_of h
    subst h
    have t_ := tL (kinfolkref06_number_L0_runs p at_ _ _ h1) <| tF h2 <| tF h3 <| tF (rfl : false = false) <| tF h4 <| tF (rfl : false = false) <| tL (kinfolkref06_number_L1_runs p at_ n _ _ h5) <| tN
    exact runs_of (C := cfg) (objs := []) (sc := t_.ev) (.k0 t_.pf (by kernel_rfl))
noncomputable def kinfolkref06_GetNum (l : List Int) (n : Int) (n2 : Int) : Option (Int × Int × Int) :=
 bif (decide ((n2 : Int) = 0)) then
  (kinfolkref06_number l n).bind fun (n3, n4) =>
  bif (decide ((n4 : Int) = 0)) then
   some (n3, (iadd .i64 n n4), 6)
  else
   some (n3, (iadd .i64 n n4), n2)
 else
  some (0, n, n2)
theorem kinfolkref06_GetNum_runs (l : List Int) (n : Int) (n2 : Int) (r_ : Int × Int × Int) (h : kinfolkref06_GetNum l n n2 = some r_) : Runs Tryz.prog 90 [(.one (.ref 0 0))] [[(.pv (.ints .u8 l false)), (.pv (.int .i64 n)), (.pv (.int .i64 n2))]] [] (kinfolkref06_GetNum_out l n n2 r_) := by
 unfold kinfolkref06_GetNum at h
 rcases cond_of h with ⟨h1, h⟩ | ⟨h1, h⟩
 ·obtain ⟨⟨n3, n4⟩, h2, h⟩ := bind_of h
  rcases cond_of h with ⟨h3, h⟩ | ⟨h3, h⟩
  ·have h := some_of h
   subst h
   have t_ := tF (not_of2 h1) <| tR (kinfolkref06_number_runs l n _ h2) <| tT h3 <| tN
   exact runs_of (C := cfg) (objs := [[(.pv (.ints .u8 l false)), (.pv (.int .i64 n)), (.pv (.int .i64 n2))]]) (sc := t_.ev) (.k1 t_.pf (by kernel_rfl) (by kernel_rfl))
  ·have h := some_of h
   subst h
   have t_ := tF (not_of2 h1) <| tR (kinfolkref06_number_runs l n _ h2) <| tF h3 <| tN
   exact runs_of (C := cfg) (objs := [[(.pv (.ints .u8 l false)), (.pv (.int .i64 n)), (.pv (.int .i64 n2))]]) (sc := t_.ev) (.k1 t_.pf (by kernel_rfl) (by kernel_rfl))
 ·have h := some_of h
  subst h
  have t_ := tT (not_of h1) <| tN
  exact runs_of (C := cfg) (objs := [[(.pv (.ints .u8 l false)), (.pv (.int .i64 n)), (.pv (.int .i64 n2))]]) (sc := t_.ev) (.k0 t_.pf (by kernel_rfl))
def kinfolkref06_Fail_out (e : Int) (l : List Int) (n : Int) (n2 : Int) : Int → Res
 | r1 => ([], [[(.pv (.ints .u8 l false)), (.pv (.int .i64 n)), (.pv (.int .i64 r1))]], [])
noncomputable def kinfolkref06_Fail (e : Int) (l : List Int) (n : Int) (n2 : Int) : Option (Int) :=
 bif (decide ((n2 : Int) = 0)) then
  some e
 else
  some n2
theorem kinfolkref06_Fail_runs (e : Int) (l : List Int) (n : Int) (n2 : Int) (r_ : Int) (h : kinfolkref06_Fail e l n n2 = some r_) : Runs Tryz.prog 91 [(.one (.ref 0 0)), (.one (.pv (.int .i64 e)))] [[(.pv (.ints .u8 l false)), (.pv (.int .i64 n)), (.pv (.int .i64 n2))]] [] (kinfolkref06_Fail_out e l n n2 r_) := by
 unfold kinfolkref06_Fail at h
 rcases cond_of h with ⟨h1, h⟩ | ⟨h1, h⟩
 ·have h := some_of h
  subst h
  have t_ := tT h1 <| tN
  exact runs_of (C := cfg) (objs := [[(.pv (.ints .u8 l false)), (.pv (.int .i64 n)), (.pv (.int .i64 n2))]]) (sc := t_.ev) (.k0 t_.pf (by kernel_rfl))
 ·have h := some_of h
  subst h
  have t_ := tF h1 <| tN
  exact runs_of (C := cfg) (objs := [[(.pv (.ints .u8 l false)), (.pv (.int .i64 n)), (.pv (.int .i64 n2))]]) (sc := t_.ev) (.k0 t_.pf (by kernel_rfl))
def kinfolkref06_Byte_out (l : List Int) (n : Int) (n2 : Int) : Int × Int × Int → Res
 | (r1, r2, r3) => ([(.one (.pv (.int .u8 r1)))], [[(.pv (.ints .u8 l false)), (.pv (.int .i64 r2)), (.pv (.int .i64 r3))]], [])
noncomputable def kinfolkref06_Byte (l : List Int) (n : Int) (n2 : Int) : Option (Int × Int × Int) :=
 bif (decide ((n2 : Int) = 0)) then
  bif (decide ((((l).length : Int) : Int) ≤ n)) then
   some (0, n, 6)
  else
   bif decide ((0 : Int) ≤ (isub .i64 (iadd .i64 n 1) 1)) && decide (((isub .i64 (iadd .i64 n 1) 1) : Int) < ((l).length : Int)) then
   some ((l.getD ((isub .i64 (iadd .i64 n 1) 1)).toNat 0), (iadd .i64 n 1), n2)
   else none
 else
  some (0, n, n2)
theorem kinfolkref06_Byte_runs (l : List Int) (n : Int) (n2 : Int) (r_ : Int × Int × Int) (h : kinfolkref06_Byte l n n2 = some r_) : Runs Tryz.prog 92 [(.one (.ref 0 0))] [[(.pv (.ints .u8 l false)), (.pv (.int .i64 n)), (.pv (.int .i64 n2))]] [] (kinfolkref06_Byte_out l n n2 r_) := by
 unfold kinfolkref06_Byte at h
 rcases cond_of h with ⟨h1, h⟩ | ⟨h1, h⟩
 ·rcases cond_of h with ⟨h2, h⟩ | ⟨h2, h⟩
  ·have h := some_of h
   subst h
   have t_ := tF (not_of2 h1) <| tT h2 <| tN
   exact runs_of (C := cfg) (objs := [[(.pv (.ints .u8 l false)), (.pv (.int .i64 n)), (.pv (.int .i64 n2))]]) (sc := t_.ev) (.k1 t_.pf (by kernel_rfl) (by kernel_rfl))
  ·obtain ⟨h3, h⟩ := need_of h
   have h := some_of h
   subst h
   have t_ := tF (not_of2 h1) <| tF h2 <| tO h3 <| tN
   exact runs_of (C := cfg) (objs := [[(.pv (.ints .u8 l false)), (.pv (.int .i64 n)), (.pv (.int .i64 n2))]]) (sc := t_.ev) (.k1 t_.pf (by kernel_rfl) (by kernel_rfl))
 ·have h := some_of h
  subst h
  have t_ := tT (not_of h1) <| tN
  exact runs_of (C := cfg) (objs := [[(.pv (.ints .u8 l false)), (.pv (.int .i64 n)), (.pv (.int .i64 n2))]]) (sc := t_.ev) (.k0 t_.pf (by kernel_rfl))
def kinfolkref06_GetText_out (most : Int) (l : List Int) (n : Int) (n2 : Int) : ByteArray × Int × Int → Res
 | (r1, r2, r3) => ([(.one (.pv (.str r1)))], [[(.pv (.ints .u8 l false)), (.pv (.int .i64 r2)), (.pv (.int .i64 r3))]], [])
noncomputable def kinfolkref06_GetText (most : Int) (l : List Int) (n : Int) (n2 : Int) : Option (ByteArray × Int × Int) :=
 bif (decide ((n2 : Int) = 0)) then
  (kinfolkref06_number l n).bind fun (n3, n4) =>
  bif (decide ((n4 : Int) = 0)) then
   some ((⟨#[]⟩ : ByteArray), n, 6)
  else
   bif (decide ((most : Int) < 0)) then
    some ((⟨#[]⟩ : ByteArray), n, 9)
   else
    bif (decide (((IntKind.u64.wrap most) : Int) < n3)) then
     some ((⟨#[]⟩ : ByteArray), n, 9)
    else
     bif (decide (((IntKind.u64.wrap (isub .i64 (isub .i64 ((l).length : Int) n) n4)) : Int) < n3)) then
      some ((⟨#[]⟩ : ByteArray), n, 6)
     else
      bif decide ((0 : Int) ≤ (isub .i64 (iadd .i64 n (iadd .i64 n4 (IntKind.i64.wrap n3))) (IntKind.i64.wrap n3))) && decide (((isub .i64 (iadd .i64 n (iadd .i64 n4 (IntKind.i64.wrap n3))) (IntKind.i64.wrap n3)) : Int) ≤ (iadd .i64 n (iadd .i64 n4 (IntKind.i64.wrap n3)))) && decide (((iadd .i64 n (iadd .i64 n4 (IntKind.i64.wrap n3))) : Int) ≤ ((l).length : Int)) && decide (((iadd .i64 n (iadd .i64 n4 (IntKind.i64.wrap n3))) : Int) = (iadd .i64 n (iadd .i64 n4 (IntKind.i64.wrap n3)))) then
      some ((strOf (List.take ((iadd .i64 n (iadd .i64 n4 (IntKind.i64.wrap n3))) - (isub .i64 (iadd .i64 n (iadd .i64 n4 (IntKind.i64.wrap n3))) (IntKind.i64.wrap n3))).toNat (List.drop ((isub .i64 (iadd .i64 n (iadd .i64 n4 (IntKind.i64.wrap n3))) (IntKind.i64.wrap n3))).toNat l))), (iadd .i64 n (iadd .i64 n4 (IntKind.i64.wrap n3))), n2)
      else none
 else
  some ((⟨#[]⟩ : ByteArray), n, n2)
theorem kinfolkref06_GetText_runs (most : Int) (l : List Int) (n : Int) (n2 : Int) (r_ : ByteArray × Int × Int) (h : kinfolkref06_GetText most l n n2 = some r_) : Runs Tryz.prog 113 [(.one (.ref 0 0)), (.one (.pv (.int .i64 most)))] [[(.pv (.ints .u8 l false)), (.pv (.int .i64 n)), (.pv (.int .i64 n2))]] [] (kinfolkref06_GetText_out most l n n2 r_) := by
 unfold kinfolkref06_GetText at h
 rcases cond_of h with ⟨h1, h⟩ | ⟨h1, h⟩
 ·obtain ⟨⟨n3, n4⟩, h2, h⟩ := bind_of h
  rcases cond_of h with ⟨h3, h⟩ | ⟨h3, h⟩
  ·have h := some_of h
   subst h
   have t_ := tF (not_of2 h1) <| tR (kinfolkref06_number_runs l n _ h2) <| tT h3 <| tN
   exact runs_of (C := cfg) (objs := [[(.pv (.ints .u8 l false)), (.pv (.int .i64 n)), (.pv (.int .i64 n2))]]) (sc := t_.ev) (.k1 t_.pf (by kernel_rfl) (by kernel_rfl))
  ·rcases cond_of h with ⟨h4, h⟩ | ⟨h4, h⟩
   ·have h := some_of h
    subst h
    have t_ := tF (not_of2 h1) <| tR (kinfolkref06_number_runs l n _ h2) <| tF h3 <| tT h4 <| tT (rfl : true = true) <| tN
    exact runs_of (C := cfg) (objs := [[(.pv (.ints .u8 l false)), (.pv (.int .i64 n)), (.pv (.int .i64 n2))]]) (sc := t_.ev) (.k1 t_.pf (by kernel_rfl) (by kernel_rfl))
   ·rcases cond_of h with ⟨h5, h⟩ | ⟨h5, h⟩
    ·have h := some_of h
     subst h
     have t_ := tF (not_of2 h1) <| tR (kinfolkref06_number_runs l n _ h2) <| tF h3 <| tF h4 <| tT h5 <| tN
     exact runs_of (C := cfg) (objs := [[(.pv (.ints .u8 l false)), (.pv (.int .i64 n)), (.pv (.int .i64 n2))]]) (sc := t_.ev) (.k1 t_.pf (by kernel_rfl) (by kernel_rfl))
    ·rcases cond_of h with ⟨h6, h⟩ | ⟨h6, h⟩
     ·have h := some_of h
      subst h
      have t_ := tF (not_of2 h1) <| tR (kinfolkref06_number_runs l n _ h2) <| tF h3 <| tF h4 <| tF h5 <| tT h6 <| tN
      exact runs_of (C := cfg) (objs := [[(.pv (.ints .u8 l false)), (.pv (.int .i64 n)), (.pv (.int .i64 n2))]]) (sc := t_.ev) (.k1 t_.pf (by kernel_rfl) (by kernel_rfl))
     ·obtain ⟨h7, h⟩ := need_of h
      have h := some_of h
      subst h
      have t_ := tF (not_of2 h1) <| tR (kinfolkref06_number_runs l n _ h2) <| tF h3 <| tF h4 <| tF h5 <| tF h6 <| tO h7 <| tN
      exact runs_of (C := cfg) (objs := [[(.pv (.ints .u8 l false)), (.pv (.int .i64 n)), (.pv (.int .i64 n2))]]) (sc := t_.ev) (.k1 t_.pf (by kernel_rfl) (by kernel_rfl))
 ·have h := some_of h
  subst h
  have t_ := tT (not_of h1) <| tN
  exact runs_of (C := cfg) (objs := [[(.pv (.ints .u8 l false)), (.pv (.int .i64 n)), (.pv (.int .i64 n2))]]) (sc := t_.ev) (.k0 t_.pf (by kernel_rfl))
end Go.Proofs.YteiikkpajcggfaaGreatDoor
