/- What functions compute, and that they do. -/
import Derived.Test.YteiikkpajcggfaaGreatDoorA6
set_option linter.unusedVariables false
set_option linter.unusedSimpArgs false
set_option maxRecDepth 100000
namespace Go.Proofs.YteiikkpajcggfaaGreatDoor
open Go.Ev
def kinfolkref10_Patch_L1_4_st (adds : List E_kinfolkref09_Field) (drops : List E_kinfolkref09_Field) (clear : List Int) (n : Int) (r : List E_kinfolkref09_Field) (n2 : Int) (r2 : List E_L_kinfolkref09_Field) : Bool × Bool × Int → St
 | (long, odd, n3) => ⟨[(0, (.av (.one (.pv (.recs 3 (List.map E_kinfolkref09_Field.pv adds) false))))), (1, (.av (.one (.pv (.recs 3 (List.map E_kinfolkref09_Field.pv drops) false))))), (2, (.av (.one (.pv (.ints .i64 clear false))))), (8, (.av (.one (.pv (.bool long))))), (9, (.av (.one (.pv (.bool odd))))), (34, (.av (.one (.own 0 0 ((List.map E_L_kinfolkref09_Field.pv r2)).length true)))), (35, (.av (.one (.pv (.int .i64 2))))), (36, (.av (.one (.pv (.int .i64 n))))), (40, (.av (.one (.pv (.recs 3 (List.map E_kinfolkref09_Field.pv r) false))))), (41, (.av (.one (.pv (.int .i64 n2))))), (42, (.av (.one (.pv (.int .i64 n3)))))], [], [(0, (.live (.recs 1 (List.map E_L_kinfolkref09_Field.pv r2))))]⟩
def kinfolkref10_Patch_L1_4_ex (adds : List E_kinfolkref09_Field) (drops : List E_kinfolkref09_Field) (clear : List Int) (n : Int) (r : List E_kinfolkref09_Field) (n2 : Int) (r2 : List E_L_kinfolkref09_Field) : Bool × Bool → Ex × St
 | (r1, r3) => ((.exit 2), ⟨[(0, (.av (.one (.pv (.recs 3 (List.map E_kinfolkref09_Field.pv adds) false))))), (1, (.av (.one (.pv (.recs 3 (List.map E_kinfolkref09_Field.pv drops) false))))), (2, (.av (.one (.pv (.ints .i64 clear false))))), (8, (.av (.one (.pv (.bool r1))))), (9, (.av (.one (.pv (.bool r3))))), (34, (.av (.one (.own 0 0 ((List.map E_L_kinfolkref09_Field.pv r2)).length true)))), (35, (.av (.one (.pv (.int .i64 2))))), (36, (.av (.one (.pv (.int .i64 n)))))], [], [(0, (.live (.recs 1 (List.map E_L_kinfolkref09_Field.pv r2))))]⟩)
noncomputable def kinfolkref10_Patch_L1_4_step (adds : List E_kinfolkref09_Field) (drops : List E_kinfolkref09_Field) (clear : List Int) (n : Int) (r : List E_kinfolkref09_Field) (n2 : Int) (r2 : List E_L_kinfolkref09_Field) : Bool × Bool × Int → Option ((Bool × Bool × Int) ⊕ (Bool × Bool))
 | (long, odd, n3) =>
 bif (decide ((n3 : Int) < n2)) then
  bif decide ((0 : Int) ≤ n3) && decide ((n3 : Int) < (((List.map E_kinfolkref09_Field.pv r)).length : Int)) then
  (r[(n3).toNat]?).bind fun e_ => match e_ with
  | .mk n4 s s2 =>
  bif long then
   bif odd then
    some (.inl (true, true, (iadd .i64 n3 1)))
   else
    bif (decide ((n4 : Int) < 0)) then
     some (.inl (true, true, (iadd .i64 n3 1)))
    else
     some (.inl (true, (decide ((255 : Int) < n4)), (iadd .i64 n3 1)))
  else
   bif (decide ((255 : Int) < (s.size : Int))) then
    bif odd then
     some (.inl (true, true, (iadd .i64 n3 1)))
    else
     bif (decide ((n4 : Int) < 0)) then
      some (.inl (true, true, (iadd .i64 n3 1)))
     else
      some (.inl (true, (decide ((255 : Int) < n4)), (iadd .i64 n3 1)))
   else
    bif odd then
     some (.inl ((decide ((255 : Int) < (s2.size : Int))), true, (iadd .i64 n3 1)))
    else
     bif (decide ((n4 : Int) < 0)) then
      some (.inl ((decide ((255 : Int) < (s2.size : Int))), true, (iadd .i64 n3 1)))
     else
      some (.inl ((decide ((255 : Int) < (s2.size : Int))), (decide ((255 : Int) < n4)), (iadd .i64 n3 1)))
  else none
 else
  some (.inr (long, odd))
theorem kinfolkref10_Patch_L1_4_ok (adds : List E_kinfolkref09_Field) (drops : List E_kinfolkref09_Field) (clear : List Int) (n : Int) (r : List E_kinfolkref09_Field) (n2 : Int) (r2 : List E_L_kinfolkref09_Field) (s_ : Bool × Bool × Int) (z_ : (Bool × Bool × Int) ⊕ (Bool × Bool)) (h : kinfolkref10_Patch_L1_4_step adds drops clear n r n2 r2 s_ = some z_) : RoundOk Tryz.prog cfg 45 0 (loopAt Tryz.prog 45 1) (kinfolkref10_Patch_L1_4_st adds drops clear n r n2 r2) (kinfolkref10_Patch_L1_4_ex adds drops clear n r n2 r2) s_ z_ := by
 rcases s_ with ⟨long, odd, n3⟩
 rcases cond_of h with ⟨h1, h⟩ | ⟨h1, h⟩
 ·obtain ⟨h2, h⟩ := need_of h
  obtain ⟨⟨n4, s, s2⟩, h3, h⟩ := bind_of h
  rcases cond_of h with ⟨h4, h⟩ | ⟨h4, h⟩
  ·rcases cond_of h with ⟨h5, h⟩ | ⟨h5, h⟩
   ·have h := some_of h
    subst h
    have t_ := tT h1 <| tO h2 <| tE (.el [(.int .i64 n4), (.str s), (.str s2)]) <| tO (el_of (f := E_kinfolkref09_Field.pv) h3) <| tT h4 <| tT (rfl : true = true) <| tT h5 <| tT (rfl : true = true) <| tN
    exact ⟨t_.ev, kinfolkref10_Patch_L1_4_st adds drops clear n r n2 r2 (true, true, (iadd .i64 n3 1)), .k0 t_.pf (by kernel_rfl), .same (by kernel_rfl)⟩
   ·rcases cond_of h with ⟨h6, h⟩ | ⟨h6, h⟩
    ·have h := some_of h
     subst h
     have t_ := tT h1 <| tO h2 <| tE (.el [(.int .i64 n4), (.str s), (.str s2)]) <| tO (el_of (f := E_kinfolkref09_Field.pv) h3) <| tT h4 <| tT (rfl : true = true) <| tF h5 <| tT h6 <| tN
     exact ⟨t_.ev, kinfolkref10_Patch_L1_4_st adds drops clear n r n2 r2 (true, true, (iadd .i64 n3 1)), .k0 t_.pf (by kernel_rfl), .same (by kernel_rfl)⟩
    ·have h := some_of h
     subst h
     have t_ := tT h1 <| tO h2 <| tE (.el [(.int .i64 n4), (.str s), (.str s2)]) <| tO (el_of (f := E_kinfolkref09_Field.pv) h3) <| tT h4 <| tT (rfl : true = true) <| tF h5 <| tF h6 <| tN
     exact ⟨t_.ev, kinfolkref10_Patch_L1_4_st adds drops clear n r n2 r2 (true, (decide ((255 : Int) < n4)), (iadd .i64 n3 1)), .k0 t_.pf (by kernel_rfl), .same (by kernel_rfl)⟩
  ·rcases cond_of h with ⟨h5, h⟩ | ⟨h5, h⟩
   ·rcases cond_of h with ⟨h6, h⟩ | ⟨h6, h⟩
    ·have h := some_of h
     subst h
     have t_ := tT h1 <| tO h2 <| tE (.el [(.int .i64 n4), (.str s), (.str s2)]) <| tO (el_of (f := E_kinfolkref09_Field.pv) h3) <| tF h4 <| tT h5 <| tT h6 <| tT (rfl : true = true) <| tN
     exact ⟨t_.ev, kinfolkref10_Patch_L1_4_st adds drops clear n r n2 r2 (true, true, (iadd .i64 n3 1)), .k0 t_.pf (by kernel_rfl), .same (by kernel_rfl)⟩
    ·rcases cond_of h with ⟨h7, h⟩ | ⟨h7, h⟩
     ·have h := some_of h
      subst h
      have t_ := tT h1 <| tO h2 <| tE (.el [(.int .i64 n4), (.str s), (.str s2)]) <| tO (el_of (f := E_kinfolkref09_Field.pv) h3) <| tF h4 <| tT h5 <| tF h6 <| tT h7 <| tN
      exact ⟨t_.ev, kinfolkref10_Patch_L1_4_st adds drops clear n r n2 r2 (true, true, (iadd .i64 n3 1)), .k0 t_.pf (by kernel_rfl), .same (by kernel_rfl)⟩
     ·have h := some_of h
      subst h
      have t_ := tT h1 <| tO h2 <| tE (.el [(.int .i64 n4), (.str s), (.str s2)]) <| tO (el_of (f := E_kinfolkref09_Field.pv) h3) <| tF h4 <| tT h5 <| tF h6 <| tF h7 <| tN
      exact ⟨t_.ev, kinfolkref10_Patch_L1_4_st adds drops clear n r n2 r2 (true, (decide ((255 : Int) < n4)), (iadd .i64 n3 1)), .k0 t_.pf (by kernel_rfl), .same (by kernel_rfl)⟩
   ·rcases cond_of h with ⟨h6, h⟩ | ⟨h6, h⟩
    ·have h := some_of h
     subst h
     have t_ := tT h1 <| tO h2 <| tE (.el [(.int .i64 n4), (.str s), (.str s2)]) <| tO (el_of (f := E_kinfolkref09_Field.pv) h3) <| tF h4 <| tF h5 <| tT h6 <| tT (rfl : true = true) <| tN
     exact ⟨t_.ev, kinfolkref10_Patch_L1_4_st adds drops clear n r n2 r2 ((decide ((255 : Int) < (s2.size : Int))), true, (iadd .i64 n3 1)), .k0 t_.pf (by kernel_rfl), .same (by kernel_rfl)⟩
    ·rcases cond_of h with ⟨h7, h⟩ | ⟨h7, h⟩
     ·have h := some_of h
      subst h
      have t_ := tT h1 <| tO h2 <| tE (.el [(.int .i64 n4), (.str s), (.str s2)]) <| tO (el_of (f := E_kinfolkref09_Field.pv) h3) <| tF h4 <| tF h5 <| tF h6 <| tT h7 <| tN
      exact ⟨t_.ev, kinfolkref10_Patch_L1_4_st adds drops clear n r n2 r2 ((decide ((255 : Int) < (s2.size : Int))), true, (iadd .i64 n3 1)), .k0 t_.pf (by kernel_rfl), .same (by kernel_rfl)⟩
     ·have h := some_of h
      subst h
      have t_ := tT h1 <| tO h2 <| tE (.el [(.int .i64 n4), (.str s), (.str s2)]) <| tO (el_of (f := E_kinfolkref09_Field.pv) h3) <| tF h4 <| tF h5 <| tF h6 <| tF h7 <| tN
      exact ⟨t_.ev, kinfolkref10_Patch_L1_4_st adds drops clear n r n2 r2 ((decide ((255 : Int) < (s2.size : Int))), (decide ((255 : Int) < n4)), (iadd .i64 n3 1)), .k0 t_.pf (by kernel_rfl), .same (by kernel_rfl)⟩
 ·have h := some_of h
  subst h
  have t_ := tF h1 <| tN
  exact ⟨t_.ev, ⟨[(43, (.av (.one (.pv (.bool false))))), (0, (.av (.one (.pv (.recs 3 (List.map E_kinfolkref09_Field.pv adds) false))))), (1, (.av (.one (.pv (.recs 3 (List.map E_kinfolkref09_Field.pv drops) false))))), (2, (.av (.one (.pv (.ints .i64 clear false))))), (8, (.av (.one (.pv (.bool long))))), (9, (.av (.one (.pv (.bool odd))))), (34, (.av (.one (.own 0 0 ((List.map E_L_kinfolkref09_Field.pv r2)).length true)))), (35, (.av (.one (.pv (.int .i64 2))))), (36, (.av (.one (.pv (.int .i64 n))))), (40, (.av (.one (.pv (.recs 3 (List.map E_kinfolkref09_Field.pv r) false))))), (41, (.av (.one (.pv (.int .i64 n2))))), (42, (.av (.one (.pv (.int .i64 n3))))), (43, (.av (.one (.pv (.bool (decide ((n3 : Int) < n2)))))))], [], [(0, (.live (.recs 1 (List.map E_L_kinfolkref09_Field.pv r2))))]⟩, .k0 t_.pf (by kernel_rfl), ⟨⟨⟨_, rfl, .eq rfl⟩, ⟨_, rfl, .eq rfl⟩, ⟨_, rfl, .eq rfl⟩, ⟨_, rfl, .eq rfl⟩, ⟨_, rfl, .eq rfl⟩, ⟨_, rfl, .eq rfl⟩, ⟨_, rfl, .eq rfl⟩, ⟨_, rfl, .eq rfl⟩, trivial⟩, trivial, ⟨⟨rfl, .eq rfl⟩, trivial⟩⟩⟩
theorem kinfolkref10_Patch_L1_4_runs (adds : List E_kinfolkref09_Field) (drops : List E_kinfolkref09_Field) (clear : List Int) (n : Int) (r : List E_kinfolkref09_Field) (n2 : Int) (r2 : List E_L_kinfolkref09_Field) (s_ : Bool × Bool × Int) (r_ : Bool × Bool) (h : runL (kinfolkref10_Patch_L1_4_step adds drops clear n r n2 r2) s_ = some r_) : LRuns Tryz.prog (lEnv Tryz.prog cfg 45 0).nt 0 (.loop (loopAt Tryz.prog 45 1)) (kinfolkref10_Patch_L1_4_st adds drops clear n r n2 r2 s_) (kinfolkref10_Patch_L1_4_ex adds drops clear n r n2 r2 r_).1 (kinfolkref10_Patch_L1_4_ex adds drops clear n r n2 r2 r_).2 :=
 loop_run h (kinfolkref10_Patch_L1_4_ok adds drops clear n r n2 r2) (by intro r_; rcases r_ with ⟨r1, r3⟩ <;> simp [kinfolkref10_Patch_L1_4_ex])
def kinfolkref10_Patch_L0_2_st (adds : List E_kinfolkref09_Field) (drops : List E_kinfolkref09_Field) (clear : List Int) (r : List E_L_kinfolkref09_Field) : Bool × Bool × Int → St
 | (long, odd, n) => ⟨[(0, (.av (.one (.pv (.recs 3 (List.map E_kinfolkref09_Field.pv adds) false))))), (1, (.av (.one (.pv (.recs 3 (List.map E_kinfolkref09_Field.pv drops) false))))), (2, (.av (.one (.pv (.ints .i64 clear false))))), (8, (.av (.one (.pv (.bool long))))), (9, (.av (.one (.pv (.bool odd))))), (34, (.av (.one (.own 0 0 ((List.map E_L_kinfolkref09_Field.pv r)).length true)))), (35, (.av (.one (.pv (.int .i64 2))))), (36, (.av (.one (.pv (.int .i64 n)))))], [], [(0, (.live (.recs 1 (List.map E_L_kinfolkref09_Field.pv r))))]⟩
def kinfolkref10_Patch_L0_2_ex (adds : List E_kinfolkref09_Field) (drops : List E_kinfolkref09_Field) (clear : List Int) (r : List E_L_kinfolkref09_Field) : Bool × Bool → Ex × St
 | (r1, r2) => ((.exit 0), ⟨[(0, (.av (.one (.pv (.recs 3 (List.map E_kinfolkref09_Field.pv adds) false))))), (1, (.av (.one (.pv (.recs 3 (List.map E_kinfolkref09_Field.pv drops) false))))), (2, (.av (.one (.pv (.ints .i64 clear false))))), (8, (.av (.one (.pv (.bool r1))))), (9, (.av (.one (.pv (.bool r2)))))], [], [(0, (.live (.recs 1 (List.map E_L_kinfolkref09_Field.pv r))))]⟩)
noncomputable def kinfolkref10_Patch_L0_2_step (adds : List E_kinfolkref09_Field) (drops : List E_kinfolkref09_Field) (clear : List Int) (r : List E_L_kinfolkref09_Field) : Bool × Bool × Int → Option ((Bool × Bool × Int) ⊕ (Bool × Bool))
 | (long, odd, n) =>
 bif (decide ((n : Int) < 2)) then
  bif decide ((0 : Int) ≤ n) && decide ((n : Int) < (((List.map E_L_kinfolkref09_Field.pv r)).length : Int)) then
  (r[(0 + (n).toNat)]?).bind fun e_ => match e_ with
  | .mk r2 =>
  (runL (kinfolkref10_Patch_L1_4_step adds drops clear n r2 (((List.map E_kinfolkref09_Field.pv r2)).length : Int) r) (long, odd, 0)).bind fun (b, b2) =>
  some (.inl (b, b2, (iadd .i64 n 1)))
  else none
 else
  some (.inr (long, odd))
theorem kinfolkref10_Patch_L0_2_ok (adds : List E_kinfolkref09_Field) (drops : List E_kinfolkref09_Field) (clear : List Int) (r : List E_L_kinfolkref09_Field) (s_ : Bool × Bool × Int) (z_ : (Bool × Bool × Int) ⊕ (Bool × Bool)) (h : kinfolkref10_Patch_L0_2_step adds drops clear r s_ = some z_) : RoundOk Tryz.prog cfg 45 0 (loopAt Tryz.prog 45 0) (kinfolkref10_Patch_L0_2_st adds drops clear r) (kinfolkref10_Patch_L0_2_ex adds drops clear r) s_ z_ := by
 rcases s_ with ⟨long, odd, n⟩
 rcases cond_of h with ⟨h1, h⟩ | ⟨h1, h⟩
 ·obtain ⟨h2, h⟩ := need_of h
  obtain ⟨⟨r2⟩, h3, h⟩ := bind_of h
  obtain ⟨⟨b, b2⟩, h4, h⟩ := bind_of h
  have h := some_of h
  subst h
  have t_ := tT h1 <| tO h2 <| tE (.el [(.recs 3 (List.map E_kinfolkref09_Field.pv r2) false)]) <| tO (el_of (f := E_L_kinfolkref09_Field.pv) h3) <| tL (kinfolkref10_Patch_L1_4_runs adds drops clear n r2 (((List.map E_kinfolkref09_Field.pv r2)).length : Int) r _ _ h4) <| tN
  exact ⟨t_.ev, kinfolkref10_Patch_L0_2_st adds drops clear r (b, b2, (iadd .i64 n 1)), .k0 t_.pf (by kernel_rfl), .same (by kernel_rfl)⟩
 ·have h := some_of h
  subst h
  have t_ := tF h1 <| tN
  exact ⟨t_.ev, ⟨[(37, (.av (.one (.pv (.bool false))))), (0, (.av (.one (.pv (.recs 3 (List.map E_kinfolkref09_Field.pv adds) false))))), (1, (.av (.one (.pv (.recs 3 (List.map E_kinfolkref09_Field.pv drops) false))))), (2, (.av (.one (.pv (.ints .i64 clear false))))), (8, (.av (.one (.pv (.bool long))))), (9, (.av (.one (.pv (.bool odd))))), (34, (.av (.one (.own 0 0 ((List.map E_L_kinfolkref09_Field.pv r)).length true)))), (35, (.av (.one (.pv (.int .i64 2))))), (36, (.av (.one (.pv (.int .i64 n))))), (37, (.av (.one (.pv (.bool (decide ((n : Int) < 2)))))))], [], [(0, (.live (.recs 1 (List.map E_L_kinfolkref09_Field.pv r))))]⟩, .k0 t_.pf (by kernel_rfl), ⟨⟨⟨_, rfl, .eq rfl⟩, ⟨_, rfl, .eq rfl⟩, ⟨_, rfl, .eq rfl⟩, ⟨_, rfl, .eq rfl⟩, ⟨_, rfl, .eq rfl⟩, trivial⟩, trivial, ⟨⟨rfl, .eq rfl⟩, trivial⟩⟩⟩
theorem kinfolkref10_Patch_L0_2_runs (adds : List E_kinfolkref09_Field) (drops : List E_kinfolkref09_Field) (clear : List Int) (r : List E_L_kinfolkref09_Field) (s_ : Bool × Bool × Int) (r_ : Bool × Bool) (h : runL (kinfolkref10_Patch_L0_2_step adds drops clear r) s_ = some r_) : LRuns Tryz.prog (lEnv Tryz.prog cfg 45 0).nt 0 (.loop (loopAt Tryz.prog 45 0)) (kinfolkref10_Patch_L0_2_st adds drops clear r s_) (kinfolkref10_Patch_L0_2_ex adds drops clear r r_).1 (kinfolkref10_Patch_L0_2_ex adds drops clear r r_).2 :=
 loop_run h (kinfolkref10_Patch_L0_2_ok adds drops clear r) (by intro r_; rcases r_ with ⟨r1, r2⟩ <;> simp [kinfolkref10_Patch_L0_2_ex])
def kinfolkref10_Patch_L2_2_st (adds : List E_kinfolkref09_Field) (drops : List E_kinfolkref09_Field) (clear : List Int) (long : Bool) (l : List Int) (n : Int) : Bool × Int → St
 | (odd, n2) => ⟨[(0, (.av (.one (.pv (.recs 3 (List.map E_kinfolkref09_Field.pv adds) false))))), (1, (.av (.one (.pv (.recs 3 (List.map E_kinfolkref09_Field.pv drops) false))))), (2, (.av (.one (.pv (.ints .i64 clear false))))), (8, (.av (.one (.pv (.bool long))))), (9, (.av (.one (.pv (.bool odd))))), (72, (.av (.one (.pv (.ints .i64 l false))))), (73, (.av (.one (.pv (.int .i64 n))))), (74, (.av (.one (.pv (.int .i64 n2)))))], [], []⟩
def kinfolkref10_Patch_L2_2_ex (adds : List E_kinfolkref09_Field) (drops : List E_kinfolkref09_Field) (clear : List Int) (long : Bool) (l : List Int) (n : Int) : Bool → Ex × St
 | r1 => ((.exit 4), ⟨[(0, (.av (.one (.pv (.recs 3 (List.map E_kinfolkref09_Field.pv adds) false))))), (1, (.av (.one (.pv (.recs 3 (List.map E_kinfolkref09_Field.pv drops) false))))), (2, (.av (.one (.pv (.ints .i64 clear false))))), (8, (.av (.one (.pv (.bool long))))), (9, (.av (.one (.pv (.bool r1)))))], [], []⟩)
noncomputable def kinfolkref10_Patch_L2_2_step (adds : List E_kinfolkref09_Field) (drops : List E_kinfolkref09_Field) (clear : List Int) (long : Bool) (l : List Int) (n : Int) : Bool × Int → Option ((Bool × Int) ⊕ (Bool))
 | (odd, n2) =>
 bif (decide ((n2 : Int) < n)) then
  bif decide ((0 : Int) ≤ n2) && decide ((n2 : Int) < ((l).length : Int)) then
  bif odd then
   some (.inl (true, (iadd .i64 n2 1)))
  else
   bif (decide (((l.getD (n2).toNat 0) : Int) < 0)) then
    some (.inl (true, (iadd .i64 n2 1)))
   else
    some (.inl ((decide ((255 : Int) < (l.getD (n2).toNat 0))), (iadd .i64 n2 1)))
  else none
 else
  some (.inr odd)
theorem kinfolkref10_Patch_L2_2_ok (adds : List E_kinfolkref09_Field) (drops : List E_kinfolkref09_Field) (clear : List Int) (long : Bool) (l : List Int) (n : Int) (s_ : Bool × Int) (z_ : (Bool × Int) ⊕ (Bool)) (h : kinfolkref10_Patch_L2_2_step adds drops clear long l n s_ = some z_) : RoundOk Tryz.prog cfg 45 0 (loopAt Tryz.prog 45 2) (kinfolkref10_Patch_L2_2_st adds drops clear long l n) (kinfolkref10_Patch_L2_2_ex adds drops clear long l n) s_ z_ := by
 rcases s_ with ⟨odd, n2⟩
 rcases cond_of h with ⟨h1, h⟩ | ⟨h1, h⟩
 ·obtain ⟨h2, h⟩ := need_of h
  rcases cond_of h with ⟨h3, h⟩ | ⟨h3, h⟩
  ·have h := some_of h
   subst h
   have t_ := tT h1 <| tO h2 <| tT h3 <| tT (rfl : true = true) <| tN
   exact ⟨t_.ev, kinfolkref10_Patch_L2_2_st adds drops clear long l n (true, (iadd .i64 n2 1)), .k0 t_.pf (by kernel_rfl), .same (by kernel_rfl)⟩
  ·rcases cond_of h with ⟨h4, h⟩ | ⟨h4, h⟩
   ·have h := some_of h
    subst h
    have t_ := tT h1 <| tO h2 <| tF h3 <| tT h4 <| tN
    exact ⟨t_.ev, kinfolkref10_Patch_L2_2_st adds drops clear long l n (true, (iadd .i64 n2 1)), .k0 t_.pf (by kernel_rfl), .same (by kernel_rfl)⟩
   ·have h := some_of h
    subst h
    have t_ := tT h1 <| tO h2 <| tF h3 <| tF h4 <| tN
    exact ⟨t_.ev, kinfolkref10_Patch_L2_2_st adds drops clear long l n ((decide ((255 : Int) < (l.getD (n2).toNat 0))), (iadd .i64 n2 1)), .k0 t_.pf (by kernel_rfl), .same (by kernel_rfl)⟩
 ·have h := some_of h
  subst h
  have t_ := tF h1 <| tN
  exact ⟨t_.ev, ⟨[(75, (.av (.one (.pv (.bool false))))), (0, (.av (.one (.pv (.recs 3 (List.map E_kinfolkref09_Field.pv adds) false))))), (1, (.av (.one (.pv (.recs 3 (List.map E_kinfolkref09_Field.pv drops) false))))), (2, (.av (.one (.pv (.ints .i64 clear false))))), (8, (.av (.one (.pv (.bool long))))), (9, (.av (.one (.pv (.bool odd))))), (72, (.av (.one (.pv (.ints .i64 l false))))), (73, (.av (.one (.pv (.int .i64 n))))), (74, (.av (.one (.pv (.int .i64 n2))))), (75, (.av (.one (.pv (.bool (decide ((n2 : Int) < n)))))))], [], []⟩, .k0 t_.pf (by kernel_rfl), ⟨⟨⟨_, rfl, .eq rfl⟩, ⟨_, rfl, .eq rfl⟩, ⟨_, rfl, .eq rfl⟩, ⟨_, rfl, .eq rfl⟩, ⟨_, rfl, .eq rfl⟩, trivial⟩, trivial, trivial⟩⟩
theorem kinfolkref10_Patch_L2_2_runs (adds : List E_kinfolkref09_Field) (drops : List E_kinfolkref09_Field) (clear : List Int) (long : Bool) (l : List Int) (n : Int) (s_ : Bool × Int) (r_ : Bool) (h : runL (kinfolkref10_Patch_L2_2_step adds drops clear long l n) s_ = some r_) : LRuns Tryz.prog (lEnv Tryz.prog cfg 45 0).nt 0 (.loop (loopAt Tryz.prog 45 2)) (kinfolkref10_Patch_L2_2_st adds drops clear long l n s_) (kinfolkref10_Patch_L2_2_ex adds drops clear long l n r_).1 (kinfolkref10_Patch_L2_2_ex adds drops clear long l n r_).2 :=
 loop_run h (kinfolkref10_Patch_L2_2_ok adds drops clear long l n) (by intro r_; rcases r_ with r1 <;> simp [kinfolkref10_Patch_L2_2_ex])
def kinfolkref10_Card_out (l : List E_kinfolkref09_Field) : List Int → Res
 | r1 => ([(.one (.own 0 0 (r1).length false))], [], [(.ints .u8 r1)])
def kinfolkref06_Num_out (n : Int) : List Int → Res
 | r1 => ([(.one (.own 0 0 (r1).length false))], [], [(.ints .u8 r1)])
noncomputable def kinfolkref06_Num_b (rec_kinfolkref06_Num : Int → Option (List Int)) (n : Int) : Option (List Int) :=
 bif (decide ((n : Int) < 128)) then
  some [(IntKind.u8.wrap n)]
 else
  (rec_kinfolkref06_Num (iquo .u64 n 128)).bind fun l_ =>
  bif Nat.beq ((List.take (l_).length l_)).length 0 then
   some [(IntKind.u8.wrap (iadd .u64 (irem .u64 n 128) 128))]
  else
   bif fits (([(IntKind.u8.wrap (iadd .u64 (irem .u64 n 128) 128))] ++ (List.take (l_).length l_))).length then
   some ([(IntKind.u8.wrap (iadd .u64 (irem .u64 n 128) 128))] ++ l_)
   else none
theorem kinfolkref06_Num_b_runs (rec_kinfolkref06_Num : Int → Option (List Int)) (hrec_kinfolkref06_Num : ∀ n r_, rec_kinfolkref06_Num n = some r_ → Runs Tryz.prog 77 [(.one (.pv (.int .u64 n)))] [] [] (kinfolkref06_Num_out n r_)) (n : Int) (r_ : List Int) (h : kinfolkref06_Num_b rec_kinfolkref06_Num n = some r_) : Runs Tryz.prog 77 [(.one (.pv (.int .u64 n)))] [] [] (kinfolkref06_Num_out n r_) := by
 unfold kinfolkref06_Num_b at h
 rcases cond_of h with ⟨h1, h⟩ | ⟨h1, h⟩
 ·have h := some_of h
  subst h
  have t_ := tT h1 <| tN
  have e_ : Runs Tryz.prog 77 [(.one (.pv (.int .u64 n)))] [] [] ([(.one (.own 0 0 1 true))], [], [(.ints .u8 [(IntKind.u8.wrap n)])]) := runs_of (C := cfg) (objs := []) (sc := t_.ev) (.k0 t_.pf (by kernel_rfl))
  exact e_.out ⟨.ownF (by first | rfl | (simp only [List.take_length, List.drop_zero, List.map_take, List.nil_append]; done) | (simp; done) | (simp only [E_card_Field.upd, E_kinfolkref09_Field.upd, E_L_card_Field.upd, E_card_Card.upd, E_L_kinfolkref09_Field.upd, E_card_Field.upd, E_kinfolkref09_Field.upd, E_L_card_Field.upd, E_card_Card.upd, E_L_kinfolkref09_Field.upd]; done) | (simp [E_card_Field.pv, E_kinfolkref09_Field.pv, E_L_card_Field.pv, E_card_Card.pv, E_L_kinfolkref09_Field.pv, E_card_Field.pv, E_kinfolkref09_Field.pv, E_L_card_Field.pv, E_card_Card.pv, E_L_kinfolkref09_Field.pv]; done) | (simp only [List.length_map, List.take_length, List.length_append, List.map_append, List.map_cons, List.map_nil, List.append_nil, List.nil_append, E_card_Field.pv, E_kinfolkref09_Field.pv, E_L_card_Field.pv, E_card_Card.pv, E_L_kinfolkref09_Field.pv, E_card_Field.pv, E_kinfolkref09_Field.pv, E_L_card_Field.pv, E_card_Card.pv, E_L_kinfolkref09_Field.pv]; done)), trivial⟩ trivial ⟨.eq rfl, trivial⟩ rfl
 ·obtain ⟨l_, h2, h⟩ := bind_of h
  rcases cond_of h with ⟨h3, h⟩ | ⟨h3, h⟩
  ·have h := some_of h
   subst h
   have t_ := tF h1 <| tO (rfl : true = true) <| tO (rfl : true = true) <| tR (hrec_kinfolkref06_Num (iquo .u64 n 128) _ h2) <| tT h3 <| tN
   have e_ : Runs Tryz.prog 77 [(.one (.pv (.int .u64 n)))] [] [] ([(.one (.own 0 0 1 false))], [], [(.ints .u8 [(IntKind.u8.wrap (iadd .u64 (irem .u64 n 128) 128))])]) := runs_of (C := cfg) (objs := []) (sc := t_.ev) (.k0 t_.pf (by kernel_rfl))
   exact e_.out ⟨.own (by first | rfl | (simp only [List.take_length, List.drop_zero, List.map_take, List.nil_append]; done) | (simp; done) | (simp only [E_card_Field.upd, E_kinfolkref09_Field.upd, E_L_card_Field.upd, E_card_Card.upd, E_L_kinfolkref09_Field.upd, E_card_Field.upd, E_kinfolkref09_Field.upd, E_L_card_Field.upd, E_card_Card.upd, E_L_kinfolkref09_Field.upd]; done) | (simp [E_card_Field.pv, E_kinfolkref09_Field.pv, E_L_card_Field.pv, E_card_Card.pv, E_L_kinfolkref09_Field.pv, E_card_Field.pv, E_kinfolkref09_Field.pv, E_L_card_Field.pv, E_card_Card.pv, E_L_kinfolkref09_Field.pv]; done) | (simp only [List.length_map, List.take_length, List.length_append, List.map_append, List.map_cons, List.map_nil, List.append_nil, List.nil_append, E_card_Field.pv, E_kinfolkref09_Field.pv, E_L_card_Field.pv, E_card_Card.pv, E_L_kinfolkref09_Field.pv, E_card_Field.pv, E_kinfolkref09_Field.pv, E_L_card_Field.pv, E_card_Card.pv, E_L_kinfolkref09_Field.pv]; done)), trivial⟩ trivial ⟨.eq rfl, trivial⟩ rfl
  ·obtain ⟨h4, h⟩ := need_of h
   have h := some_of h
   subst h
   have t_ := tF h1 <| tO (rfl : true = true) <| tO (rfl : true = true) <| tR (hrec_kinfolkref06_Num (iquo .u64 n 128) _ h2) <| tF (not_of h3) <| tO h4 <| tN
   have e_ : Runs Tryz.prog 77 [(.one (.pv (.int .u64 n)))] [] [] ([(.one (.own 0 0 (([(IntKind.u8.wrap (iadd .u64 (irem .u64 n 128) 128))] ++ (List.take (l_).length l_))).length false))], [], [(.ints .u8 ([(IntKind.u8.wrap (iadd .u64 (irem .u64 n 128) 128))] ++ (List.take (l_).length l_)))]) := runs_of (C := cfg) (objs := []) (sc := t_.ev) (.k0 t_.pf (by kernel_rfl))
   exact e_.out ⟨.own (by first | rfl | (simp only [List.take_length, List.drop_zero, List.map_take, List.nil_append]; done) | (simp; done) | (simp only [E_card_Field.upd, E_kinfolkref09_Field.upd, E_L_card_Field.upd, E_card_Card.upd, E_L_kinfolkref09_Field.upd, E_card_Field.upd, E_kinfolkref09_Field.upd, E_L_card_Field.upd, E_card_Card.upd, E_L_kinfolkref09_Field.upd]; done) | (simp [E_card_Field.pv, E_kinfolkref09_Field.pv, E_L_card_Field.pv, E_card_Card.pv, E_L_kinfolkref09_Field.pv, E_card_Field.pv, E_kinfolkref09_Field.pv, E_L_card_Field.pv, E_card_Card.pv, E_L_kinfolkref09_Field.pv]; done) | (simp only [List.length_map, List.take_length, List.length_append, List.map_append, List.map_cons, List.map_nil, List.append_nil, List.nil_append, E_card_Field.pv, E_kinfolkref09_Field.pv, E_L_card_Field.pv, E_card_Card.pv, E_L_kinfolkref09_Field.pv, E_card_Field.pv, E_kinfolkref09_Field.pv, E_L_card_Field.pv, E_card_Card.pv, E_L_kinfolkref09_Field.pv]; done)), trivial⟩ trivial ⟨.eq (by first | rfl | (simp only [List.take_length, List.drop_zero, List.map_take, List.nil_append]; done) | (simp; done) | (simp only [E_card_Field.upd, E_kinfolkref09_Field.upd, E_L_card_Field.upd, E_card_Card.upd, E_L_kinfolkref09_Field.upd, E_card_Field.upd, E_kinfolkref09_Field.upd, E_L_card_Field.upd, E_card_Card.upd, E_L_kinfolkref09_Field.upd]; done) | (simp [E_card_Field.pv, E_kinfolkref09_Field.pv, E_L_card_Field.pv, E_card_Card.pv, E_L_kinfolkref09_Field.pv, E_card_Field.pv, E_kinfolkref09_Field.pv, E_L_card_Field.pv, E_card_Card.pv, E_L_kinfolkref09_Field.pv]; done) | (simp only [List.length_map, List.take_length, List.length_append, List.map_append, List.map_cons, List.map_nil, List.append_nil, List.nil_append, E_card_Field.pv, E_kinfolkref09_Field.pv, E_L_card_Field.pv, E_card_Card.pv, E_L_kinfolkref09_Field.pv, E_card_Field.pv, E_kinfolkref09_Field.pv, E_L_card_Field.pv, E_card_Card.pv, E_L_kinfolkref09_Field.pv]; done)), trivial⟩ rfl
noncomputable def kinfolkref06_Num : Nat → Int → Option (List Int)
 | 0, _ => none
 | N + 1, n => kinfolkref06_Num_b (kinfolkref06_Num N) n
theorem kinfolkref06_Num_runs : ∀ (N : Nat) (n : Int) (r_ : List Int), kinfolkref06_Num N n = some r_ → Runs Tryz.prog 77 [(.one (.pv (.int .u64 n)))] [] [] (kinfolkref06_Num_out n r_)
 | 0, _, _, h => by cases h
 | N + 1, n, r_, h => kinfolkref06_Num_b_runs (kinfolkref06_Num N) (kinfolkref06_Num_runs N) n r_ h
def kinfolkref06_Text_out (s : ByteArray) : List Int → Res
 | r1 => ([(.one (.own 0 0 (r1).length false))], [], [(.ints .u8 r1)])
noncomputable def kinfolkref06_Text (N : Nat) (s : ByteArray) : Option (List Int) :=
 (kinfolkref06_Num N (IntKind.u64.wrap (s.size : Int))).bind fun l_ =>
 bif decide (s.size ≤ 140737488355328) then
 bif fits ((l_ ++ (List.take (bytesL s).length (bytesL s)))).length then
 some (l_ ++ (bytesL s))
 else none
 else none
theorem kinfolkref06_Text_runs (N : Nat) (s : ByteArray) (r_ : List Int) (h : kinfolkref06_Text N s = some r_) : Runs Tryz.prog 78 [(.one (.pv (.str s)))] [] [] (kinfolkref06_Text_out s r_) := by
 unfold kinfolkref06_Text at h
 obtain ⟨l_, h1, h⟩ := bind_of h
 obtain ⟨h2, h⟩ := need_of h
 obtain ⟨h3, h⟩ := need_of h
 have h := some_of h
 subst h
 have t_ := tR (kinfolkref06_Num_runs N (IntKind.u64.wrap (s.size : Int)) _ h1) <| tO h2 <| tO (show (Nat.beq (l_).length (l_).length) = true from Nat.beq_refl _) <| tO h3 <| tN
 have e_ : Runs Tryz.prog 78 [(.one (.pv (.str s)))] [] [] ([(.one (.own 0 0 ((l_ ++ (List.take (bytesL s).length (bytesL s)))).length false))], [], [(.ints .u8 (l_ ++ (List.take (bytesL s).length (bytesL s))))]) := runs_of (C := cfg) (objs := []) (sc := t_.ev) (.k0 t_.pf (by kernel_rfl))
 exact e_.out ⟨.own (by first | rfl | (simp only [List.take_length, List.drop_zero, List.map_take, List.nil_append]; done) | (simp; done) | (simp only [E_card_Field.upd, E_kinfolkref09_Field.upd, E_L_card_Field.upd, E_card_Card.upd, E_L_kinfolkref09_Field.upd, E_card_Field.upd, E_kinfolkref09_Field.upd, E_L_card_Field.upd, E_card_Card.upd, E_L_kinfolkref09_Field.upd]; done) | (simp [E_card_Field.pv, E_kinfolkref09_Field.pv, E_L_card_Field.pv, E_card_Card.pv, E_L_kinfolkref09_Field.pv, E_card_Field.pv, E_kinfolkref09_Field.pv, E_L_card_Field.pv, E_card_Card.pv, E_L_kinfolkref09_Field.pv]; done) | (simp only [List.length_map, List.take_length, List.length_append, List.map_append, List.map_cons, List.map_nil, List.append_nil, List.nil_append, E_card_Field.pv, E_kinfolkref09_Field.pv, E_L_card_Field.pv, E_card_Card.pv, E_L_kinfolkref09_Field.pv, E_card_Field.pv, E_kinfolkref09_Field.pv, E_L_card_Field.pv, E_card_Card.pv, E_L_kinfolkref09_Field.pv]; done)), trivial⟩ trivial ⟨.eq (by first | rfl | (simp only [List.take_length, List.drop_zero, List.map_take, List.nil_append]; done) | (simp; done) | (simp only [E_card_Field.upd, E_kinfolkref09_Field.upd, E_L_card_Field.upd, E_card_Card.upd, E_L_kinfolkref09_Field.upd, E_card_Field.upd, E_kinfolkref09_Field.upd, E_L_card_Field.upd, E_card_Card.upd, E_L_kinfolkref09_Field.upd]; done) | (simp [E_card_Field.pv, E_kinfolkref09_Field.pv, E_L_card_Field.pv, E_card_Card.pv, E_L_kinfolkref09_Field.pv, E_card_Field.pv, E_kinfolkref09_Field.pv, E_L_card_Field.pv, E_card_Card.pv, E_L_kinfolkref09_Field.pv]; done) | (simp only [List.length_map, List.take_length, List.length_append, List.map_append, List.map_cons, List.map_nil, List.append_nil, List.nil_append, E_card_Field.pv, E_kinfolkref09_Field.pv, E_L_card_Field.pv, E_card_Card.pv, E_L_kinfolkref09_Field.pv, E_card_Field.pv, E_kinfolkref09_Field.pv, E_L_card_Field.pv, E_card_Card.pv, E_L_kinfolkref09_Field.pv]; done)), trivial⟩ rfl
def kinfolkref06_Join_out (l : List E_L_uint8) : List Int → Res
 | r1 => ([(.one (.own 0 0 (r1).length false))], [], [(.ints .u8 r1)])
def kinfolkref06_Join_L0_2_st (r : List E_L_uint8) (n : Int) : Int × List Int → St
 | (n2, l) => ⟨[(3, (.av (.one (.own 0 0 (l).length false)))), (6, (.av (.one (.pv (.recs 1 (List.map E_L_uint8.pv r) false))))), (7, (.av (.one (.pv (.int .i64 n))))), (8, (.av (.one (.pv (.int .i64 n2)))))], [], [(0, (.live (.ints .u8 l)))]⟩
def kinfolkref06_Join_L0_2_ex (r : List E_L_uint8) (n : Int) : List Int → Ex × St
 | r1 => ((.exit 0), ⟨[(3, (.av (.one (.own 0 0 (r1).length false))))], [], [(0, (.live (.ints .u8 r1)))]⟩)
noncomputable def kinfolkref06_Join_L0_2_step (r : List E_L_uint8) (n : Int) : Int × List Int → Option ((Int × List Int) ⊕ (List Int))
 | (n2, l) =>
 bif (decide ((n2 : Int) < n)) then
  bif decide ((0 : Int) ≤ n2) && decide ((n2 : Int) < (((List.map E_L_uint8.pv r)).length : Int)) then
  (r[(n2).toNat]?).bind fun e_ => match e_ with
  | .mk l_ =>
  bif fits ((l ++ l_)).length then
  some (.inl ((iadd .i64 n2 1), (l ++ l_)))
  else none
  else none
 else
  some (.inr l)
theorem kinfolkref06_Join_L0_2_ok (r : List E_L_uint8) (n : Int) (s_ : Int × List Int) (z_ : (Int × List Int) ⊕ (List Int)) (h : kinfolkref06_Join_L0_2_step r n s_ = some z_) : RoundOk Tryz.prog cfg 40 0 (loopAt Tryz.prog 40 0) (kinfolkref06_Join_L0_2_st r n) (kinfolkref06_Join_L0_2_ex r n) s_ z_ := by
 rcases s_ with ⟨n2, l⟩
 rcases cond_of h with ⟨h1, h⟩ | ⟨h1, h⟩
 ·obtain ⟨h2, h⟩ := need_of h
  obtain ⟨⟨l_⟩, h3, h⟩ := bind_of h
  obtain ⟨h4, h⟩ := need_of h
  have h := some_of h
  subst h
  have t_ := tT h1 <| tO h2 <| tE (.el [(.ints .u8 l_ false)]) <| tO (el_of (f := E_L_uint8.pv) h3) <| tO (show (Nat.beq (l).length (l).length) = true from Nat.beq_refl _) <| tO h4 <| tN
  exact ⟨t_.ev, kinfolkref06_Join_L0_2_st r n ((iadd .i64 n2 1), (l ++ l_)), .k0 t_.pf (by kernel_rfl), .same (by kernel_rfl)⟩
 ·have h := some_of h
  subst h
  have t_ := tF h1 <| tN
  exact ⟨t_.ev, ⟨[(9, (.av (.one (.pv (.bool false))))), (3, (.av (.one (.own 0 0 (l).length false)))), (6, (.av (.one (.pv (.recs 1 (List.map E_L_uint8.pv r) false))))), (7, (.av (.one (.pv (.int .i64 n))))), (8, (.av (.one (.pv (.int .i64 n2))))), (9, (.av (.one (.pv (.bool (decide ((n2 : Int) < n)))))))], [], [(0, (.live (.ints .u8 l)))]⟩, .k0 t_.pf (by kernel_rfl), ⟨⟨⟨_, rfl, .eq rfl⟩, trivial⟩, trivial, ⟨⟨rfl, .eq rfl⟩, trivial⟩⟩⟩
theorem kinfolkref06_Join_L0_2_runs (r : List E_L_uint8) (n : Int) (s_ : Int × List Int) (r_ : List Int) (h : runL (kinfolkref06_Join_L0_2_step r n) s_ = some r_) : LRuns Tryz.prog (lEnv Tryz.prog cfg 40 0).nt 0 (.loop (loopAt Tryz.prog 40 0)) (kinfolkref06_Join_L0_2_st r n s_) (kinfolkref06_Join_L0_2_ex r n r_).1 (kinfolkref06_Join_L0_2_ex r n r_).2 :=
 loop_run h (kinfolkref06_Join_L0_2_ok r n) (by intro r_; rcases r_ with r1 <;> simp [kinfolkref06_Join_L0_2_ex])
noncomputable def kinfolkref06_Join (l : List E_L_uint8) : Option (List Int) :=
 (runL (kinfolkref06_Join_L0_2_step l (((List.map E_L_uint8.pv l)).length : Int)) (0, [])).bind fun l_ =>
 some l_
theorem kinfolkref06_Join_runs (l : List E_L_uint8) (r_ : List Int) (h : kinfolkref06_Join l = some r_) : Runs Tryz.prog 40 [(.one (.pv (.recs 1 (List.map E_L_uint8.pv l) false)))] [] [] (kinfolkref06_Join_out l r_) := by
 unfold kinfolkref06_Join at h
 obtain ⟨l_, h1, h⟩ := bind_of h
 have h := some_of h
 subst h
 have t_ := tL (LRuns.coe (s0 := ⟨[(3, (.av (.one (.own 0 0 0 false)))), (6, (.av (.one (.pv (.recs 1 (List.map E_L_uint8.pv l) false))))), (7, (.av (.one (.pv (.int .i64 (((List.map E_L_uint8.pv l)).length : Int)))))), (8, (.av (.one (.pv (.int .i64 0)))))], [], [(0, (.live (.ints .u8 [])))]⟩) (kinfolkref06_Join_L0_2_runs l (((List.map E_L_uint8.pv l)).length : Int) _ _ h1) ⟨⟨⟨_, rfl, .own (by first | rfl | (simp only [List.take_length, List.drop_zero, List.map_take, List.nil_append]; done) | (simp; done) | (simp only [E_card_Field.upd, E_kinfolkref09_Field.upd, E_L_card_Field.upd, E_card_Card.upd, E_L_kinfolkref09_Field.upd, E_L_uint8.upd, E_card_Field.upd, E_kinfolkref09_Field.upd, E_L_card_Field.upd, E_card_Card.upd, E_L_kinfolkref09_Field.upd, E_L_uint8.upd]; done) | (simp [E_card_Field.pv, E_kinfolkref09_Field.pv, E_L_card_Field.pv, E_card_Card.pv, E_L_kinfolkref09_Field.pv, E_L_uint8.pv, E_card_Field.pv, E_kinfolkref09_Field.pv, E_L_card_Field.pv, E_card_Card.pv, E_L_kinfolkref09_Field.pv, E_L_uint8.pv]; done) | (simp only [List.length_map, List.take_length, List.length_append, List.map_append, List.map_cons, List.map_nil, List.append_nil, List.nil_append, E_card_Field.pv, E_kinfolkref09_Field.pv, E_L_card_Field.pv, E_card_Card.pv, E_L_kinfolkref09_Field.pv, E_L_uint8.pv, E_card_Field.pv, E_kinfolkref09_Field.pv, E_L_card_Field.pv, E_card_Card.pv, E_L_kinfolkref09_Field.pv, E_L_uint8.pv]; done))⟩, ⟨_, rfl, .eq rfl⟩, ⟨_, rfl, .eq rfl⟩, ⟨_, rfl, .eq rfl⟩, trivial⟩, trivial, ⟨⟨rfl, .eq rfl⟩, trivial⟩⟩) <| tN
 exact runs_of (C := cfg) (objs := []) (sc := t_.ev) (.k0 t_.pf (by kernel_rfl))
def kinfolkref10_Card_L0_st (r : List E_kinfolkref09_Field) (n : Int) : Int × List Int → St
 | (n2, l) => ⟨[(3, (.av (.one (.own 0 0 (l).length false)))), (10, (.av (.one (.pv (.recs 3 (List.map E_kinfolkref09_Field.pv r) false))))), (11, (.av (.one (.pv (.int .i64 n))))), (12, (.av (.one (.pv (.int .i64 n2)))))], [], [(0, (.live (.ints .u8 l)))]⟩
def kinfolkref10_Card_L0_ex (r : List E_kinfolkref09_Field) (n : Int) : List Int → Ex × St
 | r1 => ((.exit 0), ⟨[(3, (.av (.one (.own 0 0 (r1).length false))))], [], [(0, (.live (.ints .u8 r1)))]⟩)
noncomputable def kinfolkref10_Card_L0_step (N : Nat) (r : List E_kinfolkref09_Field) (n : Int) : Int × List Int → Option ((Int × List Int) ⊕ (List Int))
 | (n2, l) =>
 bif (decide ((n2 : Int) < n)) then
  bif decide ((0 : Int) ≤ n2) && decide ((n2 : Int) < (((List.map E_kinfolkref09_Field.pv r)).length : Int)) then
  (r[(n2).toNat]?).bind fun e_ => match e_ with
  | .mk n3 s s2 =>
  (kinfolkref06_Text N s).bind fun l_ =>
  (kinfolkref06_Text N s2).bind fun l_2 =>
  (kinfolkref06_Join [(E_L_uint8.mk l), (E_L_uint8.mk [(IntKind.u8.wrap n3)]), (E_L_uint8.mk l_), (E_L_uint8.mk l_2)]).bind fun l_3 =>
  some (.inl ((iadd .i64 n2 1), l_3))
  else none
 else
  some (.inr l)
theorem kinfolkref10_Card_L0_ok (N : Nat) (r : List E_kinfolkref09_Field) (n : Int) (s_ : Int × List Int) (z_ : (Int × List Int) ⊕ (List Int)) (h : kinfolkref10_Card_L0_step N r n s_ = some z_) : RoundOk Tryz.prog cfg 39 0 (loopAt Tryz.prog 39 0) (kinfolkref10_Card_L0_st r n) (kinfolkref10_Card_L0_ex r n) s_ z_ := by
 rcases s_ with ⟨n2, l⟩
 rcases cond_of h with ⟨h1, h⟩ | ⟨h1, h⟩
 ·obtain ⟨h2, h⟩ := need_of h
  obtain ⟨⟨n3, s, s2⟩, h3, h⟩ := bind_of h
  obtain ⟨l_, h4, h⟩ := bind_of h
  obtain ⟨l_2, h5, h⟩ := bind_of h
  obtain ⟨l_3, h6, h⟩ := bind_of h
  have h := some_of h
  subst h
  have t_ := tT h1 <| tO h2 <| tE (.el [(.int .i64 n3), (.str s), (.str s2)]) <| tO (el_of (f := E_kinfolkref09_Field.pv) h3) <| tR (kinfolkref06_Text_runs N s _ h4) <| tR (kinfolkref06_Text_runs N s _ h4) <| tR (kinfolkref06_Text_runs N s2 _ h5) <| tR (kinfolkref06_Text_runs N s _ h4) <| tR (kinfolkref06_Text_runs N s _ h4) <| tR (kinfolkref06_Text_runs N s _ h4) <| tR (kinfolkref06_Text_runs N s2 _ h5) <| tR (kinfolkref06_Text_runs N s _ h4) <| tR (kinfolkref06_Text_runs N s2 _ h5) <| tR (Runs.coe (as' := [(.one (.pv (.recs 1 [[(.ints .u8 (List.take (l).length l) false)], [(.ints .u8 [(IntKind.u8.wrap n3)] true)], [(.ints .u8 (List.take (l_).length l_) false)], [(.ints .u8 (List.take (l_2).length l_2) false)]] true)))]) (objs' := []) (rows' := []) (kinfolkref06_Join_runs [(E_L_uint8.mk l), (E_L_uint8.mk [(IntKind.u8.wrap n3)]), (E_L_uint8.mk l_), (E_L_uint8.mk l_2)] _ h6) ⟨.pv (.recs (.cons (.cons (.ints (by first | rfl | (simp only [List.take_length, List.drop_zero, List.map_take, List.nil_append]; done) | (simp; done) | (simp only [E_card_Field.upd, E_kinfolkref09_Field.upd, E_L_card_Field.upd, E_card_Card.upd, E_L_kinfolkref09_Field.upd, E_L_uint8.upd, E_card_Field.upd, E_kinfolkref09_Field.upd, E_L_card_Field.upd, E_card_Card.upd, E_L_kinfolkref09_Field.upd, E_L_uint8.upd]; done) | (simp [E_card_Field.pv, E_kinfolkref09_Field.pv, E_L_card_Field.pv, E_card_Card.pv, E_L_kinfolkref09_Field.pv, E_L_uint8.pv, E_card_Field.pv, E_kinfolkref09_Field.pv, E_L_card_Field.pv, E_card_Card.pv, E_L_kinfolkref09_Field.pv, E_L_uint8.pv]; done) | (simp only [List.length_map, List.take_length, List.length_append, List.map_append, List.map_cons, List.map_nil, List.append_nil, List.nil_append, E_card_Field.pv, E_kinfolkref09_Field.pv, E_L_card_Field.pv, E_card_Card.pv, E_L_kinfolkref09_Field.pv, E_L_uint8.pv, E_card_Field.pv, E_kinfolkref09_Field.pv, E_L_card_Field.pv, E_card_Card.pv, E_L_kinfolkref09_Field.pv, E_L_uint8.pv]; done))) (.nil)) (.cons (.cons (.ints rfl) (.nil)) (.cons (.cons (.ints (by first | rfl | (simp only [List.take_length, List.drop_zero, List.map_take, List.nil_append]; done) | (simp; done) | (simp only [E_card_Field.upd, E_kinfolkref09_Field.upd, E_L_card_Field.upd, E_card_Card.upd, E_L_kinfolkref09_Field.upd, E_L_uint8.upd, E_card_Field.upd, E_kinfolkref09_Field.upd, E_L_card_Field.upd, E_card_Card.upd, E_L_kinfolkref09_Field.upd, E_L_uint8.upd]; done) | (simp [E_card_Field.pv, E_kinfolkref09_Field.pv, E_L_card_Field.pv, E_card_Card.pv, E_L_kinfolkref09_Field.pv, E_L_uint8.pv, E_card_Field.pv, E_kinfolkref09_Field.pv, E_L_card_Field.pv, E_card_Card.pv, E_L_kinfolkref09_Field.pv, E_L_uint8.pv]; done) | (simp only [List.length_map, List.take_length, List.length_append, List.map_append, List.map_cons, List.map_nil, List.append_nil, List.nil_append, E_card_Field.pv, E_kinfolkref09_Field.pv, E_L_card_Field.pv, E_card_Card.pv, E_L_kinfolkref09_Field.pv, E_L_uint8.pv, E_card_Field.pv, E_kinfolkref09_Field.pv, E_L_card_Field.pv, E_card_Card.pv, E_L_kinfolkref09_Field.pv, E_L_uint8.pv]; done))) (.nil)) (.cons (.cons (.ints (by first | rfl | (simp only [List.take_length, List.drop_zero, List.map_take, List.nil_append]; done) | (simp; done) | (simp only [E_card_Field.upd, E_kinfolkref09_Field.upd, E_L_card_Field.upd, E_card_Card.upd, E_L_kinfolkref09_Field.upd, E_L_uint8.upd, E_card_Field.upd, E_kinfolkref09_Field.upd, E_L_card_Field.upd, E_card_Card.upd, E_L_kinfolkref09_Field.upd, E_L_uint8.upd]; done) | (simp [E_card_Field.pv, E_kinfolkref09_Field.pv, E_L_card_Field.pv, E_card_Card.pv, E_L_kinfolkref09_Field.pv, E_L_uint8.pv, E_card_Field.pv, E_kinfolkref09_Field.pv, E_L_card_Field.pv, E_card_Card.pv, E_L_kinfolkref09_Field.pv, E_L_uint8.pv]; done) | (simp only [List.length_map, List.take_length, List.length_append, List.map_append, List.map_cons, List.map_nil, List.append_nil, List.nil_append, E_card_Field.pv, E_kinfolkref09_Field.pv, E_L_card_Field.pv, E_card_Card.pv, E_L_kinfolkref09_Field.pv, E_L_uint8.pv, E_card_Field.pv, E_kinfolkref09_Field.pv, E_L_card_Field.pv, E_card_Card.pv, E_L_kinfolkref09_Field.pv, E_L_uint8.pv]; done))) (.nil)) (.nil)))))), trivial⟩ trivial trivial) <| tN
  exact ⟨t_.ev, kinfolkref10_Card_L0_st r n ((iadd .i64 n2 1), l_3), .k1 t_.pf (by kernel_rfl) (by kernel_rfl), .same (by kernel_rfl)⟩
 ·have h := some_of h
  subst h
  have t_ := tF h1 <| tN
  exact ⟨t_.ev, ⟨[(13, (.av (.one (.pv (.bool false))))), (3, (.av (.one (.own 0 0 (l).length false)))), (10, (.av (.one (.pv (.recs 3 (List.map E_kinfolkref09_Field.pv r) false))))), (11, (.av (.one (.pv (.int .i64 n))))), (12, (.av (.one (.pv (.int .i64 n2))))), (13, (.av (.one (.pv (.bool (decide ((n2 : Int) < n)))))))], [], [(0, (.live (.ints .u8 l)))]⟩, .k0 t_.pf (by kernel_rfl), ⟨⟨⟨_, rfl, .eq rfl⟩, trivial⟩, trivial, ⟨⟨rfl, .eq rfl⟩, trivial⟩⟩⟩
theorem kinfolkref10_Card_L0_runs (N : Nat) (r : List E_kinfolkref09_Field) (n : Int) (s_ : Int × List Int) (r_ : List Int) (h : runL (kinfolkref10_Card_L0_step N r n) s_ = some r_) : LRuns Tryz.prog (lEnv Tryz.prog cfg 39 0).nt 0 (.loop (loopAt Tryz.prog 39 0)) (kinfolkref10_Card_L0_st r n s_) (kinfolkref10_Card_L0_ex r n r_).1 (kinfolkref10_Card_L0_ex r n r_).2 :=
 loop_run h (kinfolkref10_Card_L0_ok N r n) (by intro r_; rcases r_ with r1 <;> simp [kinfolkref10_Card_L0_ex])
noncomputable def kinfolkref10_Card (N : Nat) (l : List E_kinfolkref09_Field) : Option (List Int) :=
 (kinfolkref06_Num N (IntKind.u64.wrap (((List.map E_kinfolkref09_Field.pv l)).length : Int))).bind fun l_ =>
 (runL (kinfolkref10_Card_L0_step N l (((List.map E_kinfolkref09_Field.pv l)).length : Int)) (0, l_)).bind fun l_2 =>
 some l_2
theorem kinfolkref10_Card_runs (N : Nat) (l : List E_kinfolkref09_Field) (r_ : List Int) (h : kinfolkref10_Card N l = some r_) : Runs Tryz.prog 39 [(.one (.pv (.recs 3 (List.map E_kinfolkref09_Field.pv l) false)))] [] [] (kinfolkref10_Card_out l r_) := by
 unfold kinfolkref10_Card at h
 obtain ⟨l_, h1, h⟩ := bind_of h
 obtain ⟨l_2, h2, h⟩ := bind_of h
 have h := some_of h
 subst h
 have t_ := tR (kinfolkref06_Num_runs N (IntKind.u64.wrap (((List.map E_kinfolkref09_Field.pv l)).length : Int)) _ h1) <| tL (kinfolkref10_Card_L0_runs N l (((List.map E_kinfolkref09_Field.pv l)).length : Int) _ _ h2) <| tN
 exact runs_of (C := cfg) (objs := []) (sc := t_.ev) (.k0 t_.pf (by kernel_rfl))
def kinfolkref10_Patch_L3_st (l : List Int) (n : Int) : Int × List Int → St
 | (n2, l2) => ⟨[(16, (.av (.one (.own 0 0 (l2).length false)))), (100, (.av (.one (.pv (.ints .i64 l false))))), (101, (.av (.one (.pv (.int .i64 n))))), (102, (.av (.one (.pv (.int .i64 n2)))))], [], [(0, (.live (.ints .u8 l2)))]⟩
def kinfolkref10_Patch_L3_ex (l : List Int) (n : Int) : List Int → Ex × St
 | r1 => ((.exit 6), ⟨[(16, (.av (.one (.own 0 0 (r1).length false))))], [], [(0, (.live (.ints .u8 r1)))]⟩)
noncomputable def kinfolkref10_Patch_L3_step (l : List Int) (n : Int) : Int × List Int → Option ((Int × List Int) ⊕ (List Int))
 | (n2, l2) =>
 bif (decide ((n2 : Int) < n)) then
  bif decide ((0 : Int) ≤ n2) && decide ((n2 : Int) < ((l).length : Int)) then
  bif fits ((l2 ++ [(IntKind.u8.wrap (l.getD (n2).toNat 0))])).length then
  some (.inl ((iadd .i64 n2 1), (l2 ++ [(IntKind.u8.wrap (l.getD (n2).toNat 0))])))
  else none
  else none
 else
  some (.inr l2)
theorem kinfolkref10_Patch_L3_ok (l : List Int) (n : Int) (s_ : Int × List Int) (z_ : (Int × List Int) ⊕ (List Int)) (h : kinfolkref10_Patch_L3_step l n s_ = some z_) : RoundOk Tryz.prog cfg 45 0 (loopAt Tryz.prog 45 3) (kinfolkref10_Patch_L3_st l n) (kinfolkref10_Patch_L3_ex l n) s_ z_ := by
 rcases s_ with ⟨n2, l2⟩
 rcases cond_of h with ⟨h1, h⟩ | ⟨h1, h⟩
 ·obtain ⟨h2, h⟩ := need_of h
  obtain ⟨h3, h⟩ := need_of h
  have h := some_of h
  subst h
  have t_ := tT h1 <| tO h2 <| tO (show (Nat.beq (l2).length (l2).length) = true from Nat.beq_refl _) <| tO h3 <| tN
  exact ⟨t_.ev, kinfolkref10_Patch_L3_st l n ((iadd .i64 n2 1), (l2 ++ [(IntKind.u8.wrap (l.getD (n2).toNat 0))])), .k0 t_.pf (by kernel_rfl), .same (by kernel_rfl)⟩
 ·have h := some_of h
  subst h
  have t_ := tF h1 <| tN
  exact ⟨t_.ev, ⟨[(103, (.av (.one (.pv (.bool false))))), (16, (.av (.one (.own 0 0 (l2).length false)))), (100, (.av (.one (.pv (.ints .i64 l false))))), (101, (.av (.one (.pv (.int .i64 n))))), (102, (.av (.one (.pv (.int .i64 n2))))), (103, (.av (.one (.pv (.bool (decide ((n2 : Int) < n)))))))], [], [(0, (.live (.ints .u8 l2)))]⟩, .k0 t_.pf (by kernel_rfl), ⟨⟨⟨_, rfl, .eq rfl⟩, trivial⟩, trivial, ⟨⟨rfl, .eq rfl⟩, trivial⟩⟩⟩
theorem kinfolkref10_Patch_L3_runs (l : List Int) (n : Int) (s_ : Int × List Int) (r_ : List Int) (h : runL (kinfolkref10_Patch_L3_step l n) s_ = some r_) : LRuns Tryz.prog (lEnv Tryz.prog cfg 45 0).nt 0 (.loop (loopAt Tryz.prog 45 3)) (kinfolkref10_Patch_L3_st l n s_) (kinfolkref10_Patch_L3_ex l n r_).1 (kinfolkref10_Patch_L3_ex l n r_).2 :=
 loop_run h (kinfolkref10_Patch_L3_ok l n) (by intro r_; rcases r_ with r1 <;> simp [kinfolkref10_Patch_L3_ex])
noncomputable def kinfolkref10_Patch (N : Nat) (adds : List E_kinfolkref09_Field) (drops : List E_kinfolkref09_Field) (clear : List Int) : Option (List Int × Int) :=
 bif (decide ((255 : Int) < (((List.map E_kinfolkref09_Field.pv adds)).length : Int))) then
  (runL (kinfolkref10_Patch_L0_step adds drops clear [(E_L_kinfolkref09_Field.mk adds), (E_L_kinfolkref09_Field.mk drops)]) (false, 0)).bind fun b =>
  (runL (kinfolkref10_Patch_L2_step adds drops clear clear ((clear).length : Int)) (b, 0)).bind fun b2 =>
  some ([], 9)
 else
  bif (decide ((255 : Int) < (((List.map E_kinfolkref09_Field.pv drops)).length : Int))) then
   (runL (kinfolkref10_Patch_L0_step adds drops clear [(E_L_kinfolkref09_Field.mk adds), (E_L_kinfolkref09_Field.mk drops)]) (false, 0)).bind fun b =>
   (runL (kinfolkref10_Patch_L2_step adds drops clear clear ((clear).length : Int)) (b, 0)).bind fun b2 =>
   some ([], 9)
  else
   (runL (kinfolkref10_Patch_L0_2_step adds drops clear [(E_L_kinfolkref09_Field.mk adds), (E_L_kinfolkref09_Field.mk drops)]) ((decide ((255 : Int) < ((clear).length : Int))), false, 0)).bind fun (b, b2) =>
   (runL (kinfolkref10_Patch_L2_2_step adds drops clear b clear ((clear).length : Int)) (b2, 0)).bind fun b3 =>
   bif b then
    some ([], 9)
   else
    bif b3 then
     some ([], 1)
    else
     (kinfolkref10_Card N adds).bind fun l_ =>
     (kinfolkref10_Card N drops).bind fun l_2 =>
     (kinfolkref06_Num N (IntKind.u64.wrap ((clear).length : Int))).bind fun l_3 =>
     (kinfolkref06_Join [(E_L_uint8.mk l_), (E_L_uint8.mk l_2), (E_L_uint8.mk l_3)]).bind fun l_4 =>
     (runL (kinfolkref10_Patch_L3_step clear ((clear).length : Int)) (0, l_4)).bind fun l_5 =>
     some (l_5, 0)
theorem kinfolkref10_Patch_runs (N : Nat) (adds : List E_kinfolkref09_Field) (drops : List E_kinfolkref09_Field) (clear : List Int) (r_ : List Int × Int) (h : kinfolkref10_Patch N adds drops clear = some r_) : Runs Tryz.prog 45 [(.one (.pv (.recs 3 (List.map E_kinfolkref09_Field.pv adds) false))), (.one (.pv (.recs 3 (List.map E_kinfolkref09_Field.pv drops) false))), (.one (.pv (.ints .i64 clear false)))] [] [] (kinfolkref10_Patch_out adds drops clear r_) := by
 unfold kinfolkref10_Patch at h
 rcases cond_of h with ⟨h1, h⟩ | ⟨h1, h⟩
 ·obtain ⟨b, h2, h⟩ := bind_of h
  obtain ⟨b2, h3, h⟩ := bind_of h
  have h := some_of h
  subst h
  have t_ := tT h1 <| tT (rfl : true = true) <| tL (LRuns.coe (s0 := ⟨[(0, (.av (.one (.pv (.recs 3 (List.map E_kinfolkref09_Field.pv adds) false))))), (1, (.av (.one (.pv (.recs 3 (List.map E_kinfolkref09_Field.pv drops) false))))), (2, (.av (.one (.pv (.ints .i64 clear false))))), (8, (.av (.one (.pv (.bool true))))), (9, (.av (.one (.pv (.bool false))))), (34, (.av (.one (.own 0 0 2 true)))), (35, (.av (.one (.pv (.int .i64 2))))), (36, (.av (.one (.pv (.int .i64 0)))))], [], [(0, (.live (.recs 1 [[(.recs 3 (List.map E_kinfolkref09_Field.pv adds) false)], [(.recs 3 (List.map E_kinfolkref09_Field.pv drops) false)]])))]⟩) (kinfolkref10_Patch_L0_runs adds drops clear [(E_L_kinfolkref09_Field.mk adds), (E_L_kinfolkref09_Field.mk drops)] _ _ h2) ⟨⟨⟨_, rfl, .eq rfl⟩, ⟨_, rfl, .eq rfl⟩, ⟨_, rfl, .eq rfl⟩, ⟨_, rfl, .eq rfl⟩, ⟨_, rfl, .eq rfl⟩, ⟨_, rfl, .own (by first | rfl | (simp only [List.take_length, List.drop_zero, List.map_take, List.nil_append]; done) | (simp; done) | (simp only [E_card_Field.upd, E_kinfolkref09_Field.upd, E_L_card_Field.upd, E_card_Card.upd, E_L_kinfolkref09_Field.upd, E_L_uint8.upd, E_card_Field.upd, E_kinfolkref09_Field.upd, E_L_card_Field.upd, E_card_Card.upd, E_L_kinfolkref09_Field.upd, E_L_uint8.upd]; done) | (simp [E_card_Field.pv, E_kinfolkref09_Field.pv, E_L_card_Field.pv, E_card_Card.pv, E_L_kinfolkref09_Field.pv, E_L_uint8.pv, E_card_Field.pv, E_kinfolkref09_Field.pv, E_L_card_Field.pv, E_card_Card.pv, E_L_kinfolkref09_Field.pv, E_L_uint8.pv]; done) | (simp only [List.length_map, List.take_length, List.length_append, List.map_append, List.map_cons, List.map_nil, List.append_nil, List.nil_append, E_card_Field.pv, E_kinfolkref09_Field.pv, E_L_card_Field.pv, E_card_Card.pv, E_L_kinfolkref09_Field.pv, E_L_uint8.pv, E_card_Field.pv, E_kinfolkref09_Field.pv, E_L_card_Field.pv, E_card_Card.pv, E_L_kinfolkref09_Field.pv, E_L_uint8.pv]; done))⟩, ⟨_, rfl, .eq rfl⟩, ⟨_, rfl, .eq rfl⟩, trivial⟩, trivial, ⟨⟨rfl, .recs (.cons (.cons (.eq rfl) (.nil)) (.cons (.cons (.eq rfl) (.nil)) (.nil)))⟩, trivial⟩⟩) <| tL (kinfolkref10_Patch_L2_runs adds drops clear clear ((clear).length : Int) _ _ h3) <| tT (rfl : true = true) <| tN
  have e_ : Runs Tryz.prog 45 [(.one (.pv (.recs 3 (List.map E_kinfolkref09_Field.pv adds) false))), (.one (.pv (.recs 3 (List.map E_kinfolkref09_Field.pv drops) false))), (.one (.pv (.ints .i64 clear false)))] [] [] ([(.one (.pv .nils)), (.one (.pv (.int .i64 9)))], [], []) := runs_of (C := cfg) (objs := []) (sc := t_.ev) (.k0 t_.pf (by kernel_rfl))
  exact e_.out ⟨.pv (.nilsI), .eq rfl, trivial⟩ trivial trivial rfl
 ·rcases cond_of h with ⟨h2, h⟩ | ⟨h2, h⟩
  ·obtain ⟨b, h3, h⟩ := bind_of h
   obtain ⟨b2, h4, h⟩ := bind_of h
   have h := some_of h
   subst h
   have t_ := tF h1 <| tT h2 <| tL (LRuns.coe (s0 := ⟨[(0, (.av (.one (.pv (.recs 3 (List.map E_kinfolkref09_Field.pv adds) false))))), (1, (.av (.one (.pv (.recs 3 (List.map E_kinfolkref09_Field.pv drops) false))))), (2, (.av (.one (.pv (.ints .i64 clear false))))), (8, (.av (.one (.pv (.bool true))))), (9, (.av (.one (.pv (.bool false))))), (34, (.av (.one (.own 0 0 2 true)))), (35, (.av (.one (.pv (.int .i64 2))))), (36, (.av (.one (.pv (.int .i64 0)))))], [], [(0, (.live (.recs 1 [[(.recs 3 (List.map E_kinfolkref09_Field.pv adds) false)], [(.recs 3 (List.map E_kinfolkref09_Field.pv drops) false)]])))]⟩) (kinfolkref10_Patch_L0_runs adds drops clear [(E_L_kinfolkref09_Field.mk adds), (E_L_kinfolkref09_Field.mk drops)] _ _ h3) ⟨⟨⟨_, rfl, .eq rfl⟩, ⟨_, rfl, .eq rfl⟩, ⟨_, rfl, .eq rfl⟩, ⟨_, rfl, .eq rfl⟩, ⟨_, rfl, .eq rfl⟩, ⟨_, rfl, .own (by first | rfl | (simp only [List.take_length, List.drop_zero, List.map_take, List.nil_append]; done) | (simp; done) | (simp only [E_card_Field.upd, E_kinfolkref09_Field.upd, E_L_card_Field.upd, E_card_Card.upd, E_L_kinfolkref09_Field.upd, E_L_uint8.upd, E_card_Field.upd, E_kinfolkref09_Field.upd, E_L_card_Field.upd, E_card_Card.upd, E_L_kinfolkref09_Field.upd, E_L_uint8.upd]; done) | (simp [E_card_Field.pv, E_kinfolkref09_Field.pv, E_L_card_Field.pv, E_card_Card.pv, E_L_kinfolkref09_Field.pv, E_L_uint8.pv, E_card_Field.pv, E_kinfolkref09_Field.pv, E_L_card_Field.pv, E_card_Card.pv, E_L_kinfolkref09_Field.pv, E_L_uint8.pv]; done) | (simp only [List.length_map, List.take_length, List.length_append, List.map_append, List.map_cons, List.map_nil, List.append_nil, List.nil_append, E_card_Field.pv, E_kinfolkref09_Field.pv, E_L_card_Field.pv, E_card_Card.pv, E_L_kinfolkref09_Field.pv, E_L_uint8.pv, E_card_Field.pv, E_kinfolkref09_Field.pv, E_L_card_Field.pv, E_card_Card.pv, E_L_kinfolkref09_Field.pv, E_L_uint8.pv]; done))⟩, ⟨_, rfl, .eq rfl⟩, ⟨_, rfl, .eq rfl⟩, trivial⟩, trivial, ⟨⟨rfl, .recs (.cons (.cons (.eq rfl) (.nil)) (.cons (.cons (.eq rfl) (.nil)) (.nil)))⟩, trivial⟩⟩) <| tL (kinfolkref10_Patch_L2_runs adds drops clear clear ((clear).length : Int) _ _ h4) <| tT (rfl : true = true) <| tN
   have e_ : Runs Tryz.prog 45 [(.one (.pv (.recs 3 (List.map E_kinfolkref09_Field.pv adds) false))), (.one (.pv (.recs 3 (List.map E_kinfolkref09_Field.pv drops) false))), (.one (.pv (.ints .i64 clear false)))] [] [] ([(.one (.pv .nils)), (.one (.pv (.int .i64 9)))], [], []) := runs_of (C := cfg) (objs := []) (sc := t_.ev) (.k0 t_.pf (by kernel_rfl))
   exact e_.out ⟨.pv (.nilsI), .eq rfl, trivial⟩ trivial trivial rfl
  ·obtain ⟨⟨b, b2⟩, h3, h⟩ := bind_of h
   have q_3 := (LRuns.coe (s0 := ⟨[(0, (.av (.one (.pv (.recs 3 (List.map E_kinfolkref09_Field.pv adds) false))))), (1, (.av (.one (.pv (.recs 3 (List.map E_kinfolkref09_Field.pv drops) false))))), (2, (.av (.one (.pv (.ints .i64 clear false))))), (8, (.av (.one (.pv (.bool (decide ((255 : Int) < ((clear).length : Int)))))))), (9, (.av (.one (.pv (.bool false))))), (34, (.av (.one (.own 0 0 2 true)))), (35, (.av (.one (.pv (.int .i64 2))))), (36, (.av (.one (.pv (.int .i64 0)))))], [], [(0, (.live (.recs 1 [[(.recs 3 (List.map E_kinfolkref09_Field.pv adds) false)], [(.recs 3 (List.map E_kinfolkref09_Field.pv drops) false)]])))]⟩) (kinfolkref10_Patch_L0_2_runs adds drops clear [(E_L_kinfolkref09_Field.mk adds), (E_L_kinfolkref09_Field.mk drops)] _ _ h3) ⟨⟨⟨_, rfl, .eq rfl⟩, ⟨_, rfl, .eq rfl⟩, ⟨_, rfl, .eq rfl⟩, ⟨_, rfl, .eq rfl⟩, ⟨_, rfl, .eq rfl⟩, ⟨_, rfl, .own (by first | rfl | (simp only [List.take_length, List.drop_zero, List.map_take, List.nil_append]; done) | (simp; done) | (simp only [E_card_Field.upd, E_kinfolkref09_Field.upd, E_L_card_Field.upd, E_card_Card.upd, E_L_kinfolkref09_Field.upd, E_L_uint8.upd, E_card_Field.upd, E_kinfolkref09_Field.upd, E_L_card_Field.upd, E_card_Card.upd, E_L_kinfolkref09_Field.upd, E_L_uint8.upd]; done) | (simp [E_card_Field.pv, E_kinfolkref09_Field.pv, E_L_card_Field.pv, E_card_Card.pv, E_L_kinfolkref09_Field.pv, E_L_uint8.pv, E_card_Field.pv, E_kinfolkref09_Field.pv, E_L_card_Field.pv, E_card_Card.pv, E_L_kinfolkref09_Field.pv, E_L_uint8.pv]; done) | (simp only [List.length_map, List.take_length, List.length_append, List.map_append, List.map_cons, List.map_nil, List.append_nil, List.nil_append, E_card_Field.pv, E_kinfolkref09_Field.pv, E_L_card_Field.pv, E_card_Card.pv, E_L_kinfolkref09_Field.pv, E_L_uint8.pv, E_card_Field.pv, E_kinfolkref09_Field.pv, E_L_card_Field.pv, E_card_Card.pv, E_L_kinfolkref09_Field.pv, E_L_uint8.pv]; done))⟩, ⟨_, rfl, .eq rfl⟩, ⟨_, rfl, .eq rfl⟩, trivial⟩, trivial, ⟨⟨rfl, .recs (.cons (.cons (.eq rfl) (.nil)) (.cons (.cons (.eq rfl) (.nil)) (.nil)))⟩, trivial⟩⟩)
   obtain ⟨b3, h4, h⟩ := bind_of h
   have q_4 := (kinfolkref10_Patch_L2_2_runs adds drops clear b clear ((clear).length : Int) _ _ h4)
   rcases cond_of h with ⟨h5, h⟩ | ⟨h5, h⟩
   ·have h := some_of h
    subst h
    have t_ := tF h1 <| tF h2 <| tL q_3 <| tL q_4 <| tT h5 <| tN
    have e_ : Runs Tryz.prog 45 [(.one (.pv (.recs 3 (List.map E_kinfolkref09_Field.pv adds) false))), (.one (.pv (.recs 3 (List.map E_kinfolkref09_Field.pv drops) false))), (.one (.pv (.ints .i64 clear false)))] [] [] ([(.one (.pv .nils)), (.one (.pv (.int .i64 9)))], [], []) := runs_of (C := cfg) (objs := []) (sc := t_.ev) (.k0 t_.pf (by kernel_rfl))
    exact e_.out ⟨.pv (.nilsI), .eq rfl, trivial⟩ trivial trivial rfl
   ·rcases cond_of h with ⟨h6, h⟩ | ⟨h6, h⟩
    ·have h := some_of h
     subst h
     have t_ := tF h1 <| tF h2 <| tL q_3 <| tL q_4 <| tF h5 <| tT h6 <| tN
     have e_ : Runs Tryz.prog 45 [(.one (.pv (.recs 3 (List.map E_kinfolkref09_Field.pv adds) false))), (.one (.pv (.recs 3 (List.map E_kinfolkref09_Field.pv drops) false))), (.one (.pv (.ints .i64 clear false)))] [] [] ([(.one (.pv .nils)), (.one (.pv (.int .i64 1)))], [], []) := runs_of (C := cfg) (objs := []) (sc := t_.ev) (.k0 t_.pf (by kernel_rfl))
     exact e_.out ⟨.pv (.nilsI), .eq rfl, trivial⟩ trivial trivial rfl
    ·obtain ⟨l_, h7, h⟩ := bind_of h
     obtain ⟨l_2, h8, h⟩ := bind_of h
     obtain ⟨l_3, h9, h⟩ := bind_of h
     obtain ⟨l_4, h10, h⟩ := bind_of h
     obtain ⟨l_5, h11, h⟩ := bind_of h
     have h := some_of h
     subst h
     have t_ := tF h1 <| tF h2 <| tL q_3 <| tL q_4 <| tF h5 <| tF h6 <| tR (kinfolkref10_Card_runs N adds _ h7) <| tR (kinfolkref10_Card_runs N drops _ h8) <| tR (kinfolkref06_Num_runs N (IntKind.u64.wrap ((clear).length : Int)) _ h9) <| tR (Runs.coe (as' := [(.one (.pv (.recs 1 [[(.ints .u8 (List.take (l_).length l_) false)], [(.ints .u8 (List.take (l_2).length l_2) false)], [(.ints .u8 (List.take (l_3).length l_3) false)]] true)))]) (objs' := []) (rows' := []) (kinfolkref06_Join_runs [(E_L_uint8.mk l_), (E_L_uint8.mk l_2), (E_L_uint8.mk l_3)] _ h10) ⟨.pv (.recs (.cons (.cons (.ints (by first | rfl | (simp only [List.take_length, List.drop_zero, List.map_take, List.nil_append]; done) | (simp; done) | (simp only [E_card_Field.upd, E_kinfolkref09_Field.upd, E_L_card_Field.upd, E_card_Card.upd, E_L_kinfolkref09_Field.upd, E_L_uint8.upd, E_card_Field.upd, E_kinfolkref09_Field.upd, E_L_card_Field.upd, E_card_Card.upd, E_L_kinfolkref09_Field.upd, E_L_uint8.upd]; done) | (simp [E_card_Field.pv, E_kinfolkref09_Field.pv, E_L_card_Field.pv, E_card_Card.pv, E_L_kinfolkref09_Field.pv, E_L_uint8.pv, E_card_Field.pv, E_kinfolkref09_Field.pv, E_L_card_Field.pv, E_card_Card.pv, E_L_kinfolkref09_Field.pv, E_L_uint8.pv]; done) | (simp only [List.length_map, List.take_length, List.length_append, List.map_append, List.map_cons, List.map_nil, List.append_nil, List.nil_append, E_card_Field.pv, E_kinfolkref09_Field.pv, E_L_card_Field.pv, E_card_Card.pv, E_L_kinfolkref09_Field.pv, E_L_uint8.pv, E_card_Field.pv, E_kinfolkref09_Field.pv, E_L_card_Field.pv, E_card_Card.pv, E_L_kinfolkref09_Field.pv, E_L_uint8.pv]; done))) (.nil)) (.cons (.cons (.ints (by first | rfl | (simp only [List.take_length, List.drop_zero, List.map_take, List.nil_append]; done) | (simp; done) | (simp only [E_card_Field.upd, E_kinfolkref09_Field.upd, E_L_card_Field.upd, E_card_Card.upd, E_L_kinfolkref09_Field.upd, E_L_uint8.upd, E_card_Field.upd, E_kinfolkref09_Field.upd, E_L_card_Field.upd, E_card_Card.upd, E_L_kinfolkref09_Field.upd, E_L_uint8.upd]; done) | (simp [E_card_Field.pv, E_kinfolkref09_Field.pv, E_L_card_Field.pv, E_card_Card.pv, E_L_kinfolkref09_Field.pv, E_L_uint8.pv, E_card_Field.pv, E_kinfolkref09_Field.pv, E_L_card_Field.pv, E_card_Card.pv, E_L_kinfolkref09_Field.pv, E_L_uint8.pv]; done) | (simp only [List.length_map, List.take_length, List.length_append, List.map_append, List.map_cons, List.map_nil, List.append_nil, List.nil_append, E_card_Field.pv, E_kinfolkref09_Field.pv, E_L_card_Field.pv, E_card_Card.pv, E_L_kinfolkref09_Field.pv, E_L_uint8.pv, E_card_Field.pv, E_kinfolkref09_Field.pv, E_L_card_Field.pv, E_card_Card.pv, E_L_kinfolkref09_Field.pv, E_L_uint8.pv]; done))) (.nil)) (.cons (.cons (.ints (by first | rfl | (simp only [List.take_length, List.drop_zero, List.map_take, List.nil_append]; done) | (simp; done) | (simp only [E_card_Field.upd, E_kinfolkref09_Field.upd, E_L_card_Field.upd, E_card_Card.upd, E_L_kinfolkref09_Field.upd, E_L_uint8.upd, E_card_Field.upd, E_kinfolkref09_Field.upd, E_L_card_Field.upd, E_card_Card.upd, E_L_kinfolkref09_Field.upd, E_L_uint8.upd]; done) | (simp [E_card_Field.pv, E_kinfolkref09_Field.pv, E_L_card_Field.pv, E_card_Card.pv, E_L_kinfolkref09_Field.pv, E_L_uint8.pv, E_card_Field.pv, E_kinfolkref09_Field.pv, E_L_card_Field.pv, E_card_Card.pv, E_L_kinfolkref09_Field.pv, E_L_uint8.pv]; done) | (simp only [List.length_map, List.take_length, List.length_append, List.map_append, List.map_cons, List.map_nil, List.append_nil, List.nil_append, E_card_Field.pv, E_kinfolkref09_Field.pv, E_L_card_Field.pv, E_card_Card.pv, E_L_kinfolkref09_Field.pv, E_L_uint8.pv, E_card_Field.pv, E_kinfolkref09_Field.pv, E_L_card_Field.pv, E_card_Card.pv, E_L_kinfolkref09_Field.pv, E_L_uint8.pv]; done))) (.nil)) (.nil))))), trivial⟩ trivial trivial) <| tL (kinfolkref10_Patch_L3_runs clear ((clear).length : Int) _ _ h11) <| tN
     have e_ : Runs Tryz.prog 45 [(.one (.pv (.recs 3 (List.map E_kinfolkref09_Field.pv adds) false))), (.one (.pv (.recs 3 (List.map E_kinfolkref09_Field.pv drops) false))), (.one (.pv (.ints .i64 clear false)))] [] [] ([(.one (.own 0 0 (l_5).length false)), (.one (.pv (.int .i64 0)))], [], [(.ints .u8 l_5)]) := runs_of (C := cfg) (objs := []) (sc := t_.ev) (.k0 t_.pf (by kernel_rfl))
     have e_ := e_.shut (res' := ([(.one (.pv (.ints .u8 (List.take (l_5).length l_5) false))), (.one (.pv (.int .i64 0)))], [], [])) [0] (by kernel_rfl)
     exact e_.out ⟨.pv (.ints (by first | rfl | (simp only [List.take_length, List.drop_zero, List.map_take, List.nil_append]; done) | (simp; done) | (simp only [E_card_Field.upd, E_kinfolkref09_Field.upd, E_L_card_Field.upd, E_card_Card.upd, E_L_kinfolkref09_Field.upd, E_L_uint8.upd, E_card_Field.upd, E_kinfolkref09_Field.upd, E_L_card_Field.upd, E_card_Card.upd, E_L_kinfolkref09_Field.upd, E_L_uint8.upd]; done) | (simp [E_card_Field.pv, E_kinfolkref09_Field.pv, E_L_card_Field.pv, E_card_Card.pv, E_L_kinfolkref09_Field.pv, E_L_uint8.pv, E_card_Field.pv, E_kinfolkref09_Field.pv, E_L_card_Field.pv, E_card_Card.pv, E_L_kinfolkref09_Field.pv, E_L_uint8.pv]; done) | (simp only [List.length_map, List.take_length, List.length_append, List.map_append, List.map_cons, List.map_nil, List.append_nil, List.nil_append, E_card_Field.pv, E_kinfolkref09_Field.pv, E_L_card_Field.pv, E_card_Card.pv, E_L_kinfolkref09_Field.pv, E_L_uint8.pv, E_card_Field.pv, E_kinfolkref09_Field.pv, E_L_card_Field.pv, E_card_Card.pv, E_L_kinfolkref09_Field.pv, E_L_uint8.pv]; done))), .eq rfl, trivial⟩ trivial trivial rfl
end Go.Proofs.YteiikkpajcggfaaGreatDoor
