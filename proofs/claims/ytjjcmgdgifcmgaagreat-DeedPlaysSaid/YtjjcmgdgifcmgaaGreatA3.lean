/- What functions compute, and that they do. -/
import Derived.Test.YtjjcmgdgifcmgaaGreatA2
set_option linter.unusedVariables false
set_option linter.unusedSimpArgs false
set_option maxRecDepth 100000
namespace Go.Proofs.YtjjcmgdgifcmgaaGreat
open Go.Ev
def kr15_Took_L0_3_st (r : List E_kr15_Mark) (n : Int) (n2 : Int) (n3 : Int) (r2 : List E_kr15_Gift) (l : List Int) (r3 : List E_kr15_Mark) (n4 : Int) (n5 : Int) : Int → St
 | n6 => ⟨[(3, (.av (.one (.ref 1 0)))), (10, (.av (.one (.pv (.recs 2 (List.map E_kr15_Mark.pv r) false))))), (11, (.av (.one (.pv (.int .i64 n))))), (12, (.av (.one (.pv (.int .i64 n6)))))], [(0, [(.pv (.int .i64 n2)), (.pv (.int .u64 n3)), (.pv (.recs 4 (List.map E_kr15_Gift.pv r2) false)), (.pv (.ints .i64 l false)), (.pv (.recs 2 (List.map E_kr15_Mark.pv r3) false))]), (1, [(.pv (.int .i64 n4)), (.pv (.int .u64 n5))])], []⟩
def kr15_Took_L0_3_ex (r : List E_kr15_Mark) (n : Int) (n2 : Int) (n3 : Int) (r2 : List E_kr15_Gift) (l : List Int) (r3 : List E_kr15_Mark) (n4 : Int) (n5 : Int) : (Unit) ⊕ (Unit) → Ex × St
 | .inl _ => (.ret, ⟨[(4, (.av (.one (.pv (.bool true)))))], [(0, [(.pv (.int .i64 n2)), (.pv (.int .u64 n3)), (.pv (.recs 4 (List.map E_kr15_Gift.pv r2) false)), (.pv (.ints .i64 l false)), (.pv (.recs 2 (List.map E_kr15_Mark.pv r3) false))])], []⟩)
 | .inr _ => ((.exit 0), ⟨[], [(0, [(.pv (.int .i64 n2)), (.pv (.int .u64 n3)), (.pv (.recs 4 (List.map E_kr15_Gift.pv r2) false)), (.pv (.ints .i64 l false)), (.pv (.recs 2 (List.map E_kr15_Mark.pv r3) false))]), (1, [(.pv (.int .i64 n4)), (.pv (.int .u64 n5))])], []⟩)
noncomputable def kr15_Took_L0_3_step (r : List E_kr15_Mark) (n : Int) (n2 : Int) (n3 : Int) (r2 : List E_kr15_Gift) (l : List Int) (r3 : List E_kr15_Mark) (n4 : Int) (n5 : Int) : Int → Option ((Int) ⊕ ((Unit) ⊕ (Unit)))
 | n6 =>
 bif (decide ((n6 : Int) < n)) then
  bif decide ((0 : Int) ≤ n6) && decide ((n6 : Int) < (((List.map E_kr15_Mark.pv r)).length : Int)) then
  (r[(n6).toNat]?).bind fun e_ => match e_ with
  | .mk n7 n8 =>
  bif ((decide ((n7 : Int) = n4)) && ((decide ((n8 : Int) = n5)) && true)) then
   some (.inr (.inl ()))
  else
   some (.inl (iadd .i64 n6 1))
  else none
 else
  some (.inr (.inr ()))
theorem kr15_Took_L0_3_ok (r : List E_kr15_Mark) (n : Int) (n2 : Int) (n3 : Int) (r2 : List E_kr15_Gift) (l : List Int) (r3 : List E_kr15_Mark) (n4 : Int) (n5 : Int) (n6 : Int) (z_ : (Int) ⊕ ((Unit) ⊕ (Unit))) (h : kr15_Took_L0_3_step r n n2 n3 r2 l r3 n4 n5 n6 = some z_) : RoundOk Tryz.prog cfg 70 1 (loopAt Tryz.prog 70 0) (kr15_Took_L0_3_st r n n2 n3 r2 l r3 n4 n5) (kr15_Took_L0_3_ex r n n2 n3 r2 l r3 n4 n5) n6 z_ := by
 rcases cond_of h with ⟨h1, h⟩ | ⟨h1, h⟩
 ·obtain ⟨h2, h⟩ := need_of h
  obtain ⟨⟨n7, n8⟩, h3, h⟩ := bind_of h
  rcases cond_of h with ⟨h4, h⟩ | ⟨h4, h⟩
  ·have h := some_of h
   subst h
   have t_ := tT h1 <| tO h2 <| tE (.el [(.int .i64 n7), (.int .u64 n8)]) <| tO (el_of (f := E_kr15_Mark.pv) h3) <| tT h4 <| tN
   exact ⟨t_.ev, (kr15_Took_L0_3_ex r n n2 n3 r2 l r3 n4 n5 (.inl ())).2, .k0 t_.pf (by kernel_rfl), .same (by kernel_rfl)⟩
  ·have h := some_of h
   subst h
   have t_ := tT h1 <| tO h2 <| tE (.el [(.int .i64 n7), (.int .u64 n8)]) <| tO (el_of (f := E_kr15_Mark.pv) h3) <| tF h4 <| tN
   exact ⟨t_.ev, kr15_Took_L0_3_st r n n2 n3 r2 l r3 n4 n5 (iadd .i64 n6 1), .k0 t_.pf (by kernel_rfl), .same (by kernel_rfl)⟩
 ·have h := some_of h
  subst h
  have t_ := tF h1 <| tN
  exact ⟨t_.ev, ⟨[(13, (.av (.one (.pv (.bool false))))), (3, (.av (.one (.ref 1 0)))), (10, (.av (.one (.pv (.recs 2 (List.map E_kr15_Mark.pv r) false))))), (11, (.av (.one (.pv (.int .i64 n))))), (12, (.av (.one (.pv (.int .i64 n6))))), (13, (.av (.one (.pv (.bool (decide ((n6 : Int) < n)))))))], [(0, [(.pv (.int .i64 n2)), (.pv (.int .u64 n3)), (.pv (.recs 4 (List.map E_kr15_Gift.pv r2) false)), (.pv (.ints .i64 l false)), (.pv (.recs 2 (List.map E_kr15_Mark.pv r3) false))]), (1, [(.pv (.int .i64 n4)), (.pv (.int .u64 n5))])], []⟩, .k0 t_.pf (by kernel_rfl), ⟨trivial, ⟨⟨rfl, ⟨.eq rfl, .eq rfl, .eq rfl, .eq rfl, .eq rfl, trivial⟩⟩, ⟨rfl, ⟨.eq rfl, .eq rfl, trivial⟩⟩, trivial⟩, trivial⟩⟩
theorem kr15_Took_L0_3_runs (r : List E_kr15_Mark) (n : Int) (n2 : Int) (n3 : Int) (r2 : List E_kr15_Gift) (l : List Int) (r3 : List E_kr15_Mark) (n4 : Int) (n5 : Int) (s_ : Int) (r_ : (Unit) ⊕ (Unit)) (h : runL (kr15_Took_L0_3_step r n n2 n3 r2 l r3 n4 n5) s_ = some r_) : LRuns Tryz.prog (lEnv Tryz.prog cfg 70 1).nt 1 (.loop (loopAt Tryz.prog 70 0)) (kr15_Took_L0_3_st r n n2 n3 r2 l r3 n4 n5 s_) (kr15_Took_L0_3_ex r n n2 n3 r2 l r3 n4 n5 r_).1 (kr15_Took_L0_3_ex r n n2 n3 r2 l r3 n4 n5 r_).2 :=
 loop_run h (kr15_Took_L0_3_ok r n n2 n3 r2 l r3 n4 n5) (by intro r_; rcases r_ with _ | _ <;> simp [kr15_Took_L0_3_ex])
noncomputable def kr15_Took_3 (m : Int) (m2 : Int) (n : Int) (n2 : Int) (r : List E_kr15_Gift) (l : List Int) (r2 : List E_kr15_Mark) : Option (Bool) :=
 (runL (kr15_Took_L0_3_step r2 (((List.map E_kr15_Mark.pv r2)).length : Int) n n2 r l r2 m m2) 0).bind fun z_ => match z_ with
 | .inl _ =>
  some true
 | .inr _ =>
  some false
theorem kr15_Took_3_runs (m : Int) (m2 : Int) (n : Int) (n2 : Int) (r : List E_kr15_Gift) (l : List Int) (r2 : List E_kr15_Mark) (r_ : Bool) (h : kr15_Took_3 m m2 n n2 r l r2 = some r_) : Runs Tryz.prog 70 [(.one (.ref 0 0)), (.agg [(.pv (.int .i64 m)), (.pv (.int .u64 m2))])] [[(.pv (.int .i64 n)), (.pv (.int .u64 n2)), (.pv (.recs 4 (List.map E_kr15_Gift.pv r) false)), (.pv (.ints .i64 l false)), (.pv (.recs 2 (List.map E_kr15_Mark.pv r2) false))]] [] (kr15_Took_3_out m m2 n n2 r l r2 r_) := by
 unfold kr15_Took_3 at h
 obtain ⟨z_, h1, h⟩ := bind_of h
 rcases z_ with _ | _
 ·have h := some_of h
  subst h
  have t_ := tL (kr15_Took_L0_3_runs r2 (((List.map E_kr15_Mark.pv r2)).length : Int) n n2 r l r2 m m2 _ _ h1) <| tN
  exact runs_of (C := cfg) (objs := [[(.pv (.int .i64 n)), (.pv (.int .u64 n2)), (.pv (.recs 4 (List.map E_kr15_Gift.pv r) false)), (.pv (.ints .i64 l false)), (.pv (.recs 2 (List.map E_kr15_Mark.pv r2) false))]]) (sc := t_.ev) (.k0 t_.pf (by kernel_rfl))
 ·have h := some_of h
  subst h
  have t_ := tL (kr15_Took_L0_3_runs r2 (((List.map E_kr15_Mark.pv r2)).length : Int) n n2 r l r2 m m2 _ _ h1) <| tN
  exact runs_of (C := cfg) (objs := [[(.pv (.int .i64 n)), (.pv (.int .u64 n2)), (.pv (.recs 4 (List.map E_kr15_Gift.pv r) false)), (.pv (.ints .i64 l false)), (.pv (.recs 2 (List.map E_kr15_Mark.pv r2) false))]]) (sc := t_.ev) (.k0 t_.pf (by kernel_rfl))
def kr15_Take_L0_3_st (n : Int) (n2 : Int) (r : List E_kr15_Gift) (l : List Int) (r2 : List E_kr15_Mark) (n3 : Int) (n4 : Int) : Int → St
 | i => ⟨[(0, (.av (.one (.ref 0 0)))), (5, (.av (.one (.ref 1 0)))), (6, (.av (.one (.pv (.int .i64 i)))))], [(0, [(.pv (.int .i64 n)), (.pv (.int .u64 n2)), (.pv (.recs 4 (List.map E_kr15_Gift.pv r) false)), (.pv (.ints .i64 l false)), (.pv (.recs 2 (List.map E_kr15_Mark.pv r2) false))]), (1, [(.pv (.int .i64 n3)), (.pv (.int .u64 n4))])], []⟩
def kr15_Take_L0_3_ex (n : Int) (n2 : Int) (r : List E_kr15_Gift) (l : List Int) (r2 : List E_kr15_Mark) (n3 : Int) (n4 : Int) : Int → Ex × St
 | r1 => ((.exit 0), ⟨[(0, (.av (.one (.ref 0 0)))), (5, (.av (.one (.ref 1 0)))), (6, (.av (.one (.pv (.int .i64 r1)))))], [(0, [(.pv (.int .i64 n)), (.pv (.int .u64 n2)), (.pv (.recs 4 (List.map E_kr15_Gift.pv r) false)), (.pv (.ints .i64 l false)), (.pv (.recs 2 (List.map E_kr15_Mark.pv r2) false))]), (1, [(.pv (.int .i64 n3)), (.pv (.int .u64 n4))])], []⟩)
noncomputable def kr15_Take_L0_3_step (n : Int) (n2 : Int) (r : List E_kr15_Gift) (l : List Int) (r2 : List E_kr15_Mark) (n3 : Int) (n4 : Int) : Int → Option ((Int) ⊕ (Int))
 | i =>
 bif (decide ((i : Int) < (((List.map E_kr15_Mark.pv r2)).length : Int))) then
  bif decide ((0 : Int) ≤ i) && decide ((i : Int) < (((List.map E_kr15_Mark.pv r2)).length : Int)) then
  (r2[(i).toNat]?).bind fun e_ => match e_ with
  | .mk n5 n6 =>
  (kr15_before n5 n6 n3 n4).bind fun b =>
  bif b then
   some (.inl (iadd .i64 i 1))
  else
   some (.inr i)
  else none
 else
  some (.inr i)
theorem kr15_Take_L0_3_ok (n : Int) (n2 : Int) (r : List E_kr15_Gift) (l : List Int) (r2 : List E_kr15_Mark) (n3 : Int) (n4 : Int) (i : Int) (z_ : (Int) ⊕ (Int)) (h : kr15_Take_L0_3_step n n2 r l r2 n3 n4 i = some z_) : RoundOk Tryz.prog cfg 32 1 (loopAt Tryz.prog 32 0) (kr15_Take_L0_3_st n n2 r l r2 n3 n4) (kr15_Take_L0_3_ex n n2 r l r2 n3 n4) i z_ := by
 rcases cond_of h with ⟨h1, h⟩ | ⟨h1, h⟩
 ·obtain ⟨h2, h⟩ := need_of h
  obtain ⟨⟨n5, n6⟩, h3, h⟩ := bind_of h
  obtain ⟨b, h4, h⟩ := bind_of h
  rcases cond_of h with ⟨h5, h⟩ | ⟨h5, h⟩
  ·have h := some_of h
   subst h
   have t_ := tT h1 <| tO h2 <| tE (.el [(.int .i64 n5), (.int .u64 n6)]) <| tO (el_of (f := E_kr15_Mark.pv) h3) <| tO h2 <| tE (.el [(.int .i64 n5), (.int .u64 n6)]) <| tO (el_of (f := E_kr15_Mark.pv) h3) <| tR (kr15_before_runs n5 n6 n3 n4 _ h4) <| tT h5 <| tN
   exact ⟨t_.ev, kr15_Take_L0_3_st n n2 r l r2 n3 n4 (iadd .i64 i 1), .k1 t_.pf (by kernel_rfl) (by kernel_rfl), .same (by kernel_rfl)⟩
  ·have h := some_of h
   subst h
   have t_ := tT h1 <| tO h2 <| tE (.el [(.int .i64 n5), (.int .u64 n6)]) <| tO (el_of (f := E_kr15_Mark.pv) h3) <| tO h2 <| tE (.el [(.int .i64 n5), (.int .u64 n6)]) <| tO (el_of (f := E_kr15_Mark.pv) h3) <| tR (kr15_before_runs n5 n6 n3 n4 _ h4) <| tF h5 <| tN
   exact ⟨t_.ev, ⟨[(45, (.av (.one (.pv (.bool false))))), (0, (.av (.one (.ref 0 0)))), (5, (.av (.one (.ref 1 0)))), (6, (.av (.one (.pv (.int .i64 i))))), (45, (.av (.one (.pv (.bool b)))))], [(0, [(.pv (.int .i64 n)), (.pv (.int .u64 n2)), (.pv (.recs 4 (List.map E_kr15_Gift.pv r) false)), (.pv (.ints .i64 l false)), (.pv (.recs 2 (List.map E_kr15_Mark.pv r2) false))]), (1, [(.pv (.int .i64 n3)), (.pv (.int .u64 n4))])], []⟩, .k1 t_.pf (by kernel_rfl) (by kernel_rfl), ⟨⟨⟨_, rfl, .eq rfl⟩, ⟨_, rfl, .eq rfl⟩, ⟨_, rfl, .eq rfl⟩, trivial⟩, ⟨⟨rfl, ⟨.eq rfl, .eq rfl, .eq rfl, .eq rfl, .eq rfl, trivial⟩⟩, ⟨rfl, ⟨.eq rfl, .eq rfl, trivial⟩⟩, trivial⟩, trivial⟩⟩
 ·have h := some_of h
  subst h
  have t_ := tF h1 <| tF (rfl : false = false) <| tN
  exact ⟨t_.ev, ⟨[(45, (.av (.one (.pv (.bool false))))), (0, (.av (.one (.ref 0 0)))), (5, (.av (.one (.ref 1 0)))), (6, (.av (.one (.pv (.int .i64 i))))), (45, (.av (.one (.pv (.bool false)))))], [(0, [(.pv (.int .i64 n)), (.pv (.int .u64 n2)), (.pv (.recs 4 (List.map E_kr15_Gift.pv r) false)), (.pv (.ints .i64 l false)), (.pv (.recs 2 (List.map E_kr15_Mark.pv r2) false))]), (1, [(.pv (.int .i64 n3)), (.pv (.int .u64 n4))])], []⟩, .k1 t_.pf (by kernel_rfl) (by kernel_rfl), ⟨⟨⟨_, rfl, .eq rfl⟩, ⟨_, rfl, .eq rfl⟩, ⟨_, rfl, .eq rfl⟩, trivial⟩, ⟨⟨rfl, ⟨.eq rfl, .eq rfl, .eq rfl, .eq rfl, .eq rfl, trivial⟩⟩, ⟨rfl, ⟨.eq rfl, .eq rfl, trivial⟩⟩, trivial⟩, trivial⟩⟩
theorem kr15_Take_L0_3_runs (n : Int) (n2 : Int) (r : List E_kr15_Gift) (l : List Int) (r2 : List E_kr15_Mark) (n3 : Int) (n4 : Int) (s_ : Int) (r_ : Int) (h : runL (kr15_Take_L0_3_step n n2 r l r2 n3 n4) s_ = some r_) : LRuns Tryz.prog (lEnv Tryz.prog cfg 32 1).nt 1 (.loop (loopAt Tryz.prog 32 0)) (kr15_Take_L0_3_st n n2 r l r2 n3 n4 s_) (kr15_Take_L0_3_ex n n2 r l r2 n3 n4 r_).1 (kr15_Take_L0_3_ex n n2 r l r2 n3 n4 r_).2 :=
 loop_run h (kr15_Take_L0_3_ok n n2 r l r2 n3 n4) (by intro r_; rcases r_ with r1 <;> simp [kr15_Take_L0_3_ex])
noncomputable def kr15_Take_3 (g : Int) (g2 : Int) (g3 : Int) (g4 : T_kr01_ID) (n : Int) (n2 : Int) (r : List E_kr15_Gift) (l : List Int) (r2 : List E_kr15_Mark) : Option (Int × List E_kr15_Mark) :=
 (kr15_Right g g2 g3 g4).bind fun b =>
 bif b then
  bif (decide ((g3 : Int) = n)) then
   (kr15_Took_3 g2 g n n2 r l r2).bind fun b2 =>
   bif b2 then
    some (14, r2)
   else
    (runL (kr15_Take_L0_3_step n n2 r l r2 g2 g) 0).bind fun n3 =>
    bif decide ((0 : Int) ≤ n3) && decide ((n3 : Int) ≤ (((List.map E_kr15_Mark.pv r2)).length : Int)) && decide (((((List.map E_kr15_Mark.pv r2)).length : Int) : Int) ≤ (((List.map E_kr15_Mark.pv r2)).length : Int)) && decide (((((List.map E_kr15_Mark.pv r2)).length : Int) : Int) = (((List.map E_kr15_Mark.pv r2)).length : Int)) then
    bif Nat.beq ((List.take ((((List.map E_kr15_Mark.pv r2)).length : Int) - n3).toNat (List.drop (n3).toNat (List.map E_kr15_Mark.pv r2)))).length 0 then
     bif decide ((0 : Int) ≤ 0) && decide ((0 : Int) ≤ n3) && decide ((n3 : Int) ≤ (((List.map E_kr15_Mark.pv r2)).length : Int)) && decide ((n3 : Int) = n3) then
     bif Nat.beq ((List.take (n3 - 0).toNat (List.map E_kr15_Mark.pv r2))).length 0 then
      some (0, [(E_kr15_Mark.mk g2 g)])
     else
      bif fits ((([] : List (List PV)) ++ (List.take (n3 - 0).toNat (List.map E_kr15_Mark.pv r2)))).length then
      bif fits (((([] : List (List PV)) ++ (List.take (n3 - 0).toNat (List.map E_kr15_Mark.pv r2))) ++ ([[(.int .i64 g2), (.int .u64 g)]] : List (List PV)))).length then
      some (0, (List.take (((([] : List (List PV)) ++ (List.take (n3 - 0).toNat (List.map E_kr15_Mark.pv r2))) ++ ([[(.int .i64 g2), (.int .u64 g)]] : List (List PV)))).length (([] ++ (List.take (n3 - 0).toNat r2)) ++ [(E_kr15_Mark.mk g2 g)])))
      else none
      else none
     else none
    else
     bif fits ((([[(.int .i64 g2), (.int .u64 g)]] : List (List PV)) ++ (List.take ((((List.map E_kr15_Mark.pv r2)).length : Int) - n3).toNat (List.drop (n3).toNat (List.map E_kr15_Mark.pv r2))))).length then
     bif decide ((0 : Int) ≤ 0) && decide ((0 : Int) ≤ n3) && decide ((n3 : Int) ≤ (((List.map E_kr15_Mark.pv r2)).length : Int)) && decide ((n3 : Int) = n3) then
     bif Nat.beq ((List.take (n3 - 0).toNat (List.map E_kr15_Mark.pv r2))).length 0 then
      bif fits ((([] : List (List PV)) ++ (List.take ((([[(.int .i64 g2), (.int .u64 g)]] : List (List PV)) ++ (List.take ((((List.map E_kr15_Mark.pv r2)).length : Int) - n3).toNat (List.drop (n3).toNat (List.map E_kr15_Mark.pv r2))))).length (([[(.int .i64 g2), (.int .u64 g)]] : List (List PV)) ++ (List.take ((((List.map E_kr15_Mark.pv r2)).length : Int) - n3).toNat (List.drop (n3).toNat (List.map E_kr15_Mark.pv r2))))))).length then
      some (0, (List.take ((([] : List (List PV)) ++ (([[(.int .i64 g2), (.int .u64 g)]] : List (List PV)) ++ (List.take ((((List.map E_kr15_Mark.pv r2)).length : Int) - n3).toNat (List.drop (n3).toNat (List.map E_kr15_Mark.pv r2)))))).length ([] ++ (List.take ((([[(.int .i64 g2), (.int .u64 g)]] : List (List PV)) ++ (List.take ((((List.map E_kr15_Mark.pv r2)).length : Int) - n3).toNat (List.drop (n3).toNat (List.map E_kr15_Mark.pv r2))))).length ([(E_kr15_Mark.mk g2 g)] ++ (List.take ((((List.map E_kr15_Mark.pv r2)).length : Int) - n3).toNat (List.drop (n3).toNat r2)))))))
      else none
     else
      bif fits ((([] : List (List PV)) ++ (List.take (n3 - 0).toNat (List.map E_kr15_Mark.pv r2)))).length then
      bif fits (((([] : List (List PV)) ++ (List.take (n3 - 0).toNat (List.map E_kr15_Mark.pv r2))) ++ (List.take ((([[(.int .i64 g2), (.int .u64 g)]] : List (List PV)) ++ (List.take ((((List.map E_kr15_Mark.pv r2)).length : Int) - n3).toNat (List.drop (n3).toNat (List.map E_kr15_Mark.pv r2))))).length (([[(.int .i64 g2), (.int .u64 g)]] : List (List PV)) ++ (List.take ((((List.map E_kr15_Mark.pv r2)).length : Int) - n3).toNat (List.drop (n3).toNat (List.map E_kr15_Mark.pv r2))))))).length then
      some (0, (List.take (((([] : List (List PV)) ++ (List.take (n3 - 0).toNat (List.map E_kr15_Mark.pv r2))) ++ (([[(.int .i64 g2), (.int .u64 g)]] : List (List PV)) ++ (List.take ((((List.map E_kr15_Mark.pv r2)).length : Int) - n3).toNat (List.drop (n3).toNat (List.map E_kr15_Mark.pv r2)))))).length (([] ++ (List.take (n3 - 0).toNat r2)) ++ (List.take ((([[(.int .i64 g2), (.int .u64 g)]] : List (List PV)) ++ (List.take ((((List.map E_kr15_Mark.pv r2)).length : Int) - n3).toNat (List.drop (n3).toNat (List.map E_kr15_Mark.pv r2))))).length ([(E_kr15_Mark.mk g2 g)] ++ (List.take ((((List.map E_kr15_Mark.pv r2)).length : Int) - n3).toNat (List.drop (n3).toNat r2)))))))
      else none
      else none
     else none
     else none
    else none
  else
   some (1, r2)
 else
  some (1, r2)
theorem kr15_Take_3_runs (g : Int) (g2 : Int) (g3 : Int) (g4 : T_kr01_ID) (n : Int) (n2 : Int) (r : List E_kr15_Gift) (l : List Int) (r2 : List E_kr15_Mark) (r_ : Int × List E_kr15_Mark) (h : kr15_Take_3 g g2 g3 g4 n n2 r l r2 = some r_) : Runs Tryz.prog 32 [(.one (.ref 0 0)), (.agg [(.pv (.int .u64 g)), (.pv (.int .i64 g2)), (.pv (.int .i64 g3)), (.pv (T_kr01_ID.pv g4))])] [[(.pv (.int .i64 n)), (.pv (.int .u64 n2)), (.pv (.recs 4 (List.map E_kr15_Gift.pv r) false)), (.pv (.ints .i64 l false)), (.pv (.recs 2 (List.map E_kr15_Mark.pv r2) false))]] [] (kr15_Take_3_out g g2 g3 g4 n n2 r l r2 r_) := by
 unfold kr15_Take_3 at h
 obtain ⟨b, h1, h⟩ := bind_of h
 rcases cond_of h with ⟨h2, h⟩ | ⟨h2, h⟩
 ·rcases cond_of h with ⟨h3, h⟩ | ⟨h3, h⟩
  ·obtain ⟨b2, h4, h⟩ := bind_of h
   have q_4 := (kr15_Took_3_runs g2 g n n2 r l r2 _ h4)
   rcases cond_of h with ⟨h5, h⟩ | ⟨h5, h⟩
   ·have h := some_of h
    subst h
    have t_ := tR (kr15_Right_runs g g2 g3 g4 _ h1) <| tF (not_of2 h2) <| tF (not_of2 h3) <| tR q_4 <| tT h5 <| tN
    exact runs_of (C := cfg) (objs := [[(.pv (.int .i64 n)), (.pv (.int .u64 n2)), (.pv (.recs 4 (List.map E_kr15_Gift.pv r) false)), (.pv (.ints .i64 l false)), (.pv (.recs 2 (List.map E_kr15_Mark.pv r2) false))]]) (sc := t_.ev) (.k1 t_.pf (by kernel_rfl) (by kernel_rfl))
   ·obtain ⟨n3, h6, h⟩ := bind_of h
    have q_6 := (kr15_Take_L0_3_runs n n2 r l r2 g2 g _ _ h6)
    obtain ⟨h7, h⟩ := need_of h
    rcases cond_of h with ⟨h8, h⟩ | ⟨h8, h⟩
    ·obtain ⟨h9, h⟩ := need_of h
     rcases cond_of h with ⟨h10, h⟩ | ⟨h10, h⟩
     ·have h := some_of h
      subst h
      have t_ := tR (kr15_Right_runs g g2 g3 g4 _ h1) <| tF (not_of2 h2) <| tF (not_of2 h3) <| tR q_4 <| tF h5 <| tL q_6 <| tO h7 <| tO h7 <| tO h7 <| tT h8 <| tO h9 <| tT h10 <| tO (rfl : true = true) <| tO (rfl : true = true) <| tN
      have e_ : Runs Tryz.prog 32 [(.one (.ref 0 0)), (.agg [(.pv (.int .u64 g)), (.pv (.int .i64 g2)), (.pv (.int .i64 g3)), (.pv (T_kr01_ID.pv g4))])] [[(.pv (.int .i64 n)), (.pv (.int .u64 n2)), (.pv (.recs 4 (List.map E_kr15_Gift.pv r) false)), (.pv (.ints .i64 l false)), (.pv (.recs 2 (List.map E_kr15_Mark.pv r2) false))]] [] ([(.one (.pv (.int .i64 0)))], [[(.pv (.int .i64 n)), (.pv (.int .u64 n2)), (.pv (.recs 4 (List.map E_kr15_Gift.pv r) false)), (.pv (.ints .i64 l false)), (.own 0 0 1 false)]], [(.recs 2 [[(.int .i64 g2), (.int .u64 g)]])]) := runs_of (C := cfg) (objs := [[(.pv (.int .i64 n)), (.pv (.int .u64 n2)), (.pv (.recs 4 (List.map E_kr15_Gift.pv r) false)), (.pv (.ints .i64 l false)), (.pv (.recs 2 (List.map E_kr15_Mark.pv r2) false))]]) (sc := t_.ev) (.k1 t_.pf (by kernel_rfl) (by kernel_rfl))
      have e_ := e_.shut (res' := ([(.one (.pv (.int .i64 0)))], [[(.pv (.int .i64 n)), (.pv (.int .u64 n2)), (.pv (.recs 4 (List.map E_kr15_Gift.pv r) false)), (.pv (.ints .i64 l false)), (.pv (.recs 2 [[(.int .i64 g2), (.int .u64 g)]] false))]], [])) [0] (by kernel_rfl)
      exact e_.out ⟨.eq rfl, trivial⟩ ⟨⟨.eq rfl, .eq rfl, .eq rfl, .eq rfl, .pv (.recsT (.cons (.cons (.eq rfl) (.cons (.eq rfl) (.nil))) (.nil))), trivial⟩, trivial⟩ trivial rfl
     ·obtain ⟨h11, h⟩ := need_of h
      obtain ⟨h12, h⟩ := need_of h
      have h := some_of h
      subst h
      have t_ := tR (kr15_Right_runs g g2 g3 g4 _ h1) <| tF (not_of2 h2) <| tF (not_of2 h3) <| tR q_4 <| tF h5 <| tL q_6 <| tO h7 <| tO h7 <| tO h7 <| tT h8 <| tO h9 <| tF (not_of h10) <| tO h11 <| tO (show (Nat.beq ((([] : List (List PV)) ++ (List.take (n3 - 0).toNat (List.map E_kr15_Mark.pv r2)))).length ((([] : List (List PV)) ++ (List.take (n3 - 0).toNat (List.map E_kr15_Mark.pv r2)))).length) = true from Nat.beq_refl _) <| tO h12 <| tN
      have e_ : Runs Tryz.prog 32 [(.one (.ref 0 0)), (.agg [(.pv (.int .u64 g)), (.pv (.int .i64 g2)), (.pv (.int .i64 g3)), (.pv (T_kr01_ID.pv g4))])] [[(.pv (.int .i64 n)), (.pv (.int .u64 n2)), (.pv (.recs 4 (List.map E_kr15_Gift.pv r) false)), (.pv (.ints .i64 l false)), (.pv (.recs 2 (List.map E_kr15_Mark.pv r2) false))]] [] ([(.one (.pv (.int .i64 0)))], [[(.pv (.int .i64 n)), (.pv (.int .u64 n2)), (.pv (.recs 4 (List.map E_kr15_Gift.pv r) false)), (.pv (.ints .i64 l false)), (.own 0 0 (((([] : List (List PV)) ++ (List.take (n3 - 0).toNat (List.map E_kr15_Mark.pv r2))) ++ ([[(.int .i64 g2), (.int .u64 g)]] : List (List PV)))).length false)]], [(.recs 2 ((([] : List (List PV)) ++ (List.take (n3 - 0).toNat (List.map E_kr15_Mark.pv r2))) ++ ([[(.int .i64 g2), (.int .u64 g)]] : List (List PV))))]) := runs_of (C := cfg) (objs := [[(.pv (.int .i64 n)), (.pv (.int .u64 n2)), (.pv (.recs 4 (List.map E_kr15_Gift.pv r) false)), (.pv (.ints .i64 l false)), (.pv (.recs 2 (List.map E_kr15_Mark.pv r2) false))]]) (sc := t_.ev) (.k1 t_.pf (by kernel_rfl) (by kernel_rfl))
      have e_ := e_.shut (res' := ([(.one (.pv (.int .i64 0)))], [[(.pv (.int .i64 n)), (.pv (.int .u64 n2)), (.pv (.recs 4 (List.map E_kr15_Gift.pv r) false)), (.pv (.ints .i64 l false)), (.pv (.recs 2 (List.take (((([] : List (List PV)) ++ (List.take (n3 - 0).toNat (List.map E_kr15_Mark.pv r2))) ++ ([[(.int .i64 g2), (.int .u64 g)]] : List (List PV)))).length ((([] : List (List PV)) ++ (List.take (n3 - 0).toNat (List.map E_kr15_Mark.pv r2))) ++ ([[(.int .i64 g2), (.int .u64 g)]] : List (List PV)))) false))]], [])) [0] (by kernel_rfl)
      exact e_.out ⟨.eq rfl, trivial⟩ ⟨⟨.eq rfl, .eq rfl, .eq rfl, .eq rfl, .pv (.recsT (.takeN (by first | rfl | (simp only [List.take_length]; done) | (simp; done)) (.app (.app (.nil) (.eq (by first | rfl | (simp only [List.take_length]; done) | (simp; done) | (simp only [List.map_take, List.map_drop, List.map_append, List.take_length, List.nil_append]; done) | (simp only [List.length_map, List.take_length, List.length_append, List.drop_zero, List.map_append, List.map_take, List.map_drop, List.map_replicate, List.map_cons, List.map_nil, List.append_nil, List.nil_append]; done)))) (.cons (.cons (.eq rfl) (.cons (.eq rfl) (.nil))) (.nil))))), trivial⟩, trivial⟩ trivial rfl
    ·obtain ⟨h9, h⟩ := need_of h
     obtain ⟨h10, h⟩ := need_of h
     rcases cond_of h with ⟨h11, h⟩ | ⟨h11, h⟩
     ·obtain ⟨h12, h⟩ := need_of h
      have h := some_of h
      subst h
      have t_ := tR (kr15_Right_runs g g2 g3 g4 _ h1) <| tF (not_of2 h2) <| tF (not_of2 h3) <| tR q_4 <| tF h5 <| tL q_6 <| tO h7 <| tO h7 <| tO h7 <| tF (not_of h8) <| tO h9 <| tO h10 <| tT h11 <| tO (rfl : true = true) <| tO h12 <| tN
      have e_ : Runs Tryz.prog 32 [(.one (.ref 0 0)), (.agg [(.pv (.int .u64 g)), (.pv (.int .i64 g2)), (.pv (.int .i64 g3)), (.pv (T_kr01_ID.pv g4))])] [[(.pv (.int .i64 n)), (.pv (.int .u64 n2)), (.pv (.recs 4 (List.map E_kr15_Gift.pv r) false)), (.pv (.ints .i64 l false)), (.pv (.recs 2 (List.map E_kr15_Mark.pv r2) false))]] [] ([(.one (.pv (.int .i64 0)))], [[(.pv (.int .i64 n)), (.pv (.int .u64 n2)), (.pv (.recs 4 (List.map E_kr15_Gift.pv r) false)), (.pv (.ints .i64 l false)), (.own 0 0 ((([] : List (List PV)) ++ (List.take ((([[(.int .i64 g2), (.int .u64 g)]] : List (List PV)) ++ (List.take ((((List.map E_kr15_Mark.pv r2)).length : Int) - n3).toNat (List.drop (n3).toNat (List.map E_kr15_Mark.pv r2))))).length (([[(.int .i64 g2), (.int .u64 g)]] : List (List PV)) ++ (List.take ((((List.map E_kr15_Mark.pv r2)).length : Int) - n3).toNat (List.drop (n3).toNat (List.map E_kr15_Mark.pv r2))))))).length false)]], [(.recs 2 (([] : List (List PV)) ++ (List.take ((([[(.int .i64 g2), (.int .u64 g)]] : List (List PV)) ++ (List.take ((((List.map E_kr15_Mark.pv r2)).length : Int) - n3).toNat (List.drop (n3).toNat (List.map E_kr15_Mark.pv r2))))).length (([[(.int .i64 g2), (.int .u64 g)]] : List (List PV)) ++ (List.take ((((List.map E_kr15_Mark.pv r2)).length : Int) - n3).toNat (List.drop (n3).toNat (List.map E_kr15_Mark.pv r2)))))))]) := runs_of (C := cfg) (objs := [[(.pv (.int .i64 n)), (.pv (.int .u64 n2)), (.pv (.recs 4 (List.map E_kr15_Gift.pv r) false)), (.pv (.ints .i64 l false)), (.pv (.recs 2 (List.map E_kr15_Mark.pv r2) false))]]) (sc := t_.ev) (.k1 t_.pf (by kernel_rfl) (by kernel_rfl))
      have e_ := e_.shut (res' := ([(.one (.pv (.int .i64 0)))], [[(.pv (.int .i64 n)), (.pv (.int .u64 n2)), (.pv (.recs 4 (List.map E_kr15_Gift.pv r) false)), (.pv (.ints .i64 l false)), (.pv (.recs 2 (List.take ((([] : List (List PV)) ++ (List.take ((([[(.int .i64 g2), (.int .u64 g)]] : List (List PV)) ++ (List.take ((((List.map E_kr15_Mark.pv r2)).length : Int) - n3).toNat (List.drop (n3).toNat (List.map E_kr15_Mark.pv r2))))).length (([[(.int .i64 g2), (.int .u64 g)]] : List (List PV)) ++ (List.take ((((List.map E_kr15_Mark.pv r2)).length : Int) - n3).toNat (List.drop (n3).toNat (List.map E_kr15_Mark.pv r2))))))).length (([] : List (List PV)) ++ (List.take ((([[(.int .i64 g2), (.int .u64 g)]] : List (List PV)) ++ (List.take ((((List.map E_kr15_Mark.pv r2)).length : Int) - n3).toNat (List.drop (n3).toNat (List.map E_kr15_Mark.pv r2))))).length (([[(.int .i64 g2), (.int .u64 g)]] : List (List PV)) ++ (List.take ((((List.map E_kr15_Mark.pv r2)).length : Int) - n3).toNat (List.drop (n3).toNat (List.map E_kr15_Mark.pv r2))))))) false))]], [])) [0] (by kernel_rfl)
      exact e_.out ⟨.eq rfl, trivial⟩ ⟨⟨.eq rfl, .eq rfl, .eq rfl, .eq rfl, .pv (.recsT (.takeN (by first | rfl | (simp only [List.take_length]; done) | (simp; done)) (.app (.nil) (.takeN (by first | rfl | (simp only [List.take_length]; done) | (simp; done)) (.app (.cons (.cons (.eq rfl) (.cons (.eq rfl) (.nil))) (.nil)) (.eq (by first | rfl | (simp only [List.take_length]; done) | (simp; done) | (simp only [List.map_take, List.map_drop, List.map_append, List.take_length, List.nil_append]; done) | (simp only [List.length_map, List.take_length, List.length_append, List.drop_zero, List.map_append, List.map_take, List.map_drop, List.map_replicate, List.map_cons, List.map_nil, List.append_nil, List.nil_append]; done)))))))), trivial⟩, trivial⟩ trivial rfl
     ·obtain ⟨h12, h⟩ := need_of h
      obtain ⟨h13, h⟩ := need_of h
      have h := some_of h
      subst h
      have t_ := tR (kr15_Right_runs g g2 g3 g4 _ h1) <| tF (not_of2 h2) <| tF (not_of2 h3) <| tR q_4 <| tF h5 <| tL q_6 <| tO h7 <| tO h7 <| tO h7 <| tF (not_of h8) <| tO h9 <| tO h10 <| tF (not_of h11) <| tO h12 <| tO (show (Nat.beq ((([] : List (List PV)) ++ (List.take (n3 - 0).toNat (List.map E_kr15_Mark.pv r2)))).length ((([] : List (List PV)) ++ (List.take (n3 - 0).toNat (List.map E_kr15_Mark.pv r2)))).length) = true from Nat.beq_refl _) <| tO h13 <| tN
      have e_ : Runs Tryz.prog 32 [(.one (.ref 0 0)), (.agg [(.pv (.int .u64 g)), (.pv (.int .i64 g2)), (.pv (.int .i64 g3)), (.pv (T_kr01_ID.pv g4))])] [[(.pv (.int .i64 n)), (.pv (.int .u64 n2)), (.pv (.recs 4 (List.map E_kr15_Gift.pv r) false)), (.pv (.ints .i64 l false)), (.pv (.recs 2 (List.map E_kr15_Mark.pv r2) false))]] [] ([(.one (.pv (.int .i64 0)))], [[(.pv (.int .i64 n)), (.pv (.int .u64 n2)), (.pv (.recs 4 (List.map E_kr15_Gift.pv r) false)), (.pv (.ints .i64 l false)), (.own 0 0 (((([] : List (List PV)) ++ (List.take (n3 - 0).toNat (List.map E_kr15_Mark.pv r2))) ++ (List.take ((([[(.int .i64 g2), (.int .u64 g)]] : List (List PV)) ++ (List.take ((((List.map E_kr15_Mark.pv r2)).length : Int) - n3).toNat (List.drop (n3).toNat (List.map E_kr15_Mark.pv r2))))).length (([[(.int .i64 g2), (.int .u64 g)]] : List (List PV)) ++ (List.take ((((List.map E_kr15_Mark.pv r2)).length : Int) - n3).toNat (List.drop (n3).toNat (List.map E_kr15_Mark.pv r2))))))).length false)]], [(.recs 2 ((([] : List (List PV)) ++ (List.take (n3 - 0).toNat (List.map E_kr15_Mark.pv r2))) ++ (List.take ((([[(.int .i64 g2), (.int .u64 g)]] : List (List PV)) ++ (List.take ((((List.map E_kr15_Mark.pv r2)).length : Int) - n3).toNat (List.drop (n3).toNat (List.map E_kr15_Mark.pv r2))))).length (([[(.int .i64 g2), (.int .u64 g)]] : List (List PV)) ++ (List.take ((((List.map E_kr15_Mark.pv r2)).length : Int) - n3).toNat (List.drop (n3).toNat (List.map E_kr15_Mark.pv r2)))))))]) := runs_of (C := cfg) (objs := [[(.pv (.int .i64 n)), (.pv (.int .u64 n2)), (.pv (.recs 4 (List.map E_kr15_Gift.pv r) false)), (.pv (.ints .i64 l false)), (.pv (.recs 2 (List.map E_kr15_Mark.pv r2) false))]]) (sc := t_.ev) (.k1 t_.pf (by kernel_rfl) (by kernel_rfl))
      have e_ := e_.shut (res' := ([(.one (.pv (.int .i64 0)))], [[(.pv (.int .i64 n)), (.pv (.int .u64 n2)), (.pv (.recs 4 (List.map E_kr15_Gift.pv r) false)), (.pv (.ints .i64 l false)), (.pv (.recs 2 (List.take (((([] : List (List PV)) ++ (List.take (n3 - 0).toNat (List.map E_kr15_Mark.pv r2))) ++ (List.take ((([[(.int .i64 g2), (.int .u64 g)]] : List (List PV)) ++ (List.take ((((List.map E_kr15_Mark.pv r2)).length : Int) - n3).toNat (List.drop (n3).toNat (List.map E_kr15_Mark.pv r2))))).length (([[(.int .i64 g2), (.int .u64 g)]] : List (List PV)) ++ (List.take ((((List.map E_kr15_Mark.pv r2)).length : Int) - n3).toNat (List.drop (n3).toNat (List.map E_kr15_Mark.pv r2))))))).length ((([] : List (List PV)) ++ (List.take (n3 - 0).toNat (List.map E_kr15_Mark.pv r2))) ++ (List.take ((([[(.int .i64 g2), (.int .u64 g)]] : List (List PV)) ++ (List.take ((((List.map E_kr15_Mark.pv r2)).length : Int) - n3).toNat (List.drop (n3).toNat (List.map E_kr15_Mark.pv r2))))).length (([[(.int .i64 g2), (.int .u64 g)]] : List (List PV)) ++ (List.take ((((List.map E_kr15_Mark.pv r2)).length : Int) - n3).toNat (List.drop (n3).toNat (List.map E_kr15_Mark.pv r2))))))) false))]], [])) [0] (by kernel_rfl)
      exact e_.out ⟨.eq rfl, trivial⟩ ⟨⟨.eq rfl, .eq rfl, .eq rfl, .eq rfl, .pv (.recsT (.takeN (by first | rfl | (simp only [List.take_length]; done) | (simp; done)) (.app (.app (.nil) (.eq (by first | rfl | (simp only [List.take_length]; done) | (simp; done) | (simp only [List.map_take, List.map_drop, List.map_append, List.take_length, List.nil_append]; done) | (simp only [List.length_map, List.take_length, List.length_append, List.drop_zero, List.map_append, List.map_take, List.map_drop, List.map_replicate, List.map_cons, List.map_nil, List.append_nil, List.nil_append]; done)))) (.takeN (by first | rfl | (simp only [List.take_length]; done) | (simp; done)) (.app (.cons (.cons (.eq rfl) (.cons (.eq rfl) (.nil))) (.nil)) (.eq (by first | rfl | (simp only [List.take_length]; done) | (simp; done) | (simp only [List.map_take, List.map_drop, List.map_append, List.take_length, List.nil_append]; done) | (simp only [List.length_map, List.take_length, List.length_append, List.drop_zero, List.map_append, List.map_take, List.map_drop, List.map_replicate, List.map_cons, List.map_nil, List.append_nil, List.nil_append]; done)))))))), trivial⟩, trivial⟩ trivial rfl
  ·have h := some_of h
   subst h
   have t_ := tR (kr15_Right_runs g g2 g3 g4 _ h1) <| tF (not_of2 h2) <| tT (not_of h3) <| tN
   exact runs_of (C := cfg) (objs := [[(.pv (.int .i64 n)), (.pv (.int .u64 n2)), (.pv (.recs 4 (List.map E_kr15_Gift.pv r) false)), (.pv (.ints .i64 l false)), (.pv (.recs 2 (List.map E_kr15_Mark.pv r2) false))]]) (sc := t_.ev) (.k1 t_.pf (by kernel_rfl) (by kernel_rfl))
 ·have h := some_of h
  subst h
  have t_ := tR (kr15_Right_runs g g2 g3 g4 _ h1) <| tT (not_of h2) <| tT (rfl : true = true) <| tN
  exact runs_of (C := cfg) (objs := [[(.pv (.int .i64 n)), (.pv (.int .u64 n2)), (.pv (.recs 4 (List.map E_kr15_Gift.pv r) false)), (.pv (.ints .i64 l false)), (.pv (.recs 2 (List.map E_kr15_Mark.pv r2) false))]]) (sc := t_.ev) (.k1 t_.pf (by kernel_rfl) (by kernel_rfl))
def kr15_Give_3_out (to : Int) (share : T_kr01_ID) (n : Int) (n2 : Int) (r : List E_kr15_Gift) (l : List Int) (r2 : List E_kr15_Mark) : Int × Int × Int × T_kr01_ID × Int × Int × List E_kr15_Gift × List Int → Res
 | (r1, r3, r4, r5, r6, r7, r8, r9) => ([(.agg [(.pv (.int .u64 r1)), (.pv (.int .i64 r3)), (.pv (.int .i64 r4)), (.pv (T_kr01_ID.pv r5))]), (.one (.pv (.int .i64 r6)))], [[(.pv (.int .i64 n)), (.pv (.int .u64 r7)), (.pv (.recs 4 (List.map E_kr15_Gift.pv r8) false)), (.pv (.ints .i64 r9 false)), (.pv (.recs 2 (List.map E_kr15_Mark.pv r2) false))]], [])
def kr15_To_3_out (to : Int) (n : Int) (n2 : Int) (r : List E_kr15_Gift) (l : List Int) (r2 : List E_kr15_Mark) : Int → Res
 | r1 => ([(.one (.pv (.int .i64 r1)))], [[(.pv (.int .i64 n)), (.pv (.int .u64 n2)), (.pv (.recs 4 (List.map E_kr15_Gift.pv r) false)), (.pv (.ints .i64 l false)), (.pv (.recs 2 (List.map E_kr15_Mark.pv r2) false))]], [])
def kr15_To_L0_3_st (to : Int) (r : List E_kr15_Gift) (n : Int) (n2 : Int) (n3 : Int) (r2 : List E_kr15_Gift) (l : List Int) (r3 : List E_kr15_Mark) : Int → St
 | n4 => ⟨[(1, (.av (.one (.pv (.int .i64 to))))), (10, (.av (.one (.pv (.recs 4 (List.map E_kr15_Gift.pv r) false))))), (11, (.av (.one (.pv (.int .i64 n))))), (12, (.av (.one (.pv (.int .i64 n4)))))], [(0, [(.pv (.int .i64 n2)), (.pv (.int .u64 n3)), (.pv (.recs 4 (List.map E_kr15_Gift.pv r2) false)), (.pv (.ints .i64 l false)), (.pv (.recs 2 (List.map E_kr15_Mark.pv r3) false))])], []⟩
def kr15_To_L0_3_ex (to : Int) (r : List E_kr15_Gift) (n : Int) (n2 : Int) (n3 : Int) (r2 : List E_kr15_Gift) (l : List Int) (r3 : List E_kr15_Mark) : (Int) ⊕ (Unit) → Ex × St
 | .inl r1 => (.ret, ⟨[(4, (.av (.one (.pv (.int .i64 r1)))))], [(0, [(.pv (.int .i64 n2)), (.pv (.int .u64 n3)), (.pv (.recs 4 (List.map E_kr15_Gift.pv r2) false)), (.pv (.ints .i64 l false)), (.pv (.recs 2 (List.map E_kr15_Mark.pv r3) false))])], []⟩)
 | .inr _ => ((.exit 0), ⟨[], [(0, [(.pv (.int .i64 n2)), (.pv (.int .u64 n3)), (.pv (.recs 4 (List.map E_kr15_Gift.pv r2) false)), (.pv (.ints .i64 l false)), (.pv (.recs 2 (List.map E_kr15_Mark.pv r3) false))])], []⟩)
noncomputable def kr15_To_L0_3_step (to : Int) (r : List E_kr15_Gift) (n : Int) (n2 : Int) (n3 : Int) (r2 : List E_kr15_Gift) (l : List Int) (r3 : List E_kr15_Mark) : Int → Option ((Int) ⊕ ((Int) ⊕ (Unit)))
 | n4 =>
 bif (decide ((n4 : Int) < n)) then
  bif decide ((0 : Int) ≤ n4) && decide ((n4 : Int) < (((List.map E_kr15_Gift.pv r)).length : Int)) then
  (r[(n4).toNat]?).bind fun e_ => match e_ with
  | .mk n5 n6 n7 t =>
  bif (decide ((n7 : Int) = to)) then
   some (.inr (.inl n4))
  else
   some (.inl (iadd .i64 n4 1))
  else none
 else
  some (.inr (.inr ()))
theorem kr15_To_L0_3_ok (to : Int) (r : List E_kr15_Gift) (n : Int) (n2 : Int) (n3 : Int) (r2 : List E_kr15_Gift) (l : List Int) (r3 : List E_kr15_Mark) (n4 : Int) (z_ : (Int) ⊕ ((Int) ⊕ (Unit))) (h : kr15_To_L0_3_step to r n n2 n3 r2 l r3 n4 = some z_) : RoundOk Tryz.prog cfg 36 1 (loopAt Tryz.prog 36 0) (kr15_To_L0_3_st to r n n2 n3 r2 l r3) (kr15_To_L0_3_ex to r n n2 n3 r2 l r3) n4 z_ := by
 rcases cond_of h with ⟨h1, h⟩ | ⟨h1, h⟩
 ·obtain ⟨h2, h⟩ := need_of h
  obtain ⟨⟨n5, n6, n7, t⟩, h3, h⟩ := bind_of h
  rcases cond_of h with ⟨h4, h⟩ | ⟨h4, h⟩
  ·have h := some_of h
   subst h
   have t_ := tT h1 <| tO h2 <| tE (.el [(.int .u64 n5), (.int .i64 n6), (.int .i64 n7), (T_kr01_ID.pv t)]) <| tO (el_of (f := E_kr15_Gift.pv) h3) <| tT h4 <| tN
   exact ⟨t_.ev, (kr15_To_L0_3_ex to r n n2 n3 r2 l r3 (.inl n4)).2, .k0 t_.pf (by kernel_rfl), .same (by kernel_rfl)⟩
  ·have h := some_of h
   subst h
   have t_ := tT h1 <| tO h2 <| tE (.el [(.int .u64 n5), (.int .i64 n6), (.int .i64 n7), (T_kr01_ID.pv t)]) <| tO (el_of (f := E_kr15_Gift.pv) h3) <| tF h4 <| tN
   exact ⟨t_.ev, kr15_To_L0_3_st to r n n2 n3 r2 l r3 (iadd .i64 n4 1), .k0 t_.pf (by kernel_rfl), .same (by kernel_rfl)⟩
 ·have h := some_of h
  subst h
  have t_ := tF h1 <| tN
  exact ⟨t_.ev, ⟨[(13, (.av (.one (.pv (.bool false))))), (1, (.av (.one (.pv (.int .i64 to))))), (10, (.av (.one (.pv (.recs 4 (List.map E_kr15_Gift.pv r) false))))), (11, (.av (.one (.pv (.int .i64 n))))), (12, (.av (.one (.pv (.int .i64 n4))))), (13, (.av (.one (.pv (.bool (decide ((n4 : Int) < n)))))))], [(0, [(.pv (.int .i64 n2)), (.pv (.int .u64 n3)), (.pv (.recs 4 (List.map E_kr15_Gift.pv r2) false)), (.pv (.ints .i64 l false)), (.pv (.recs 2 (List.map E_kr15_Mark.pv r3) false))])], []⟩, .k0 t_.pf (by kernel_rfl), ⟨trivial, ⟨⟨rfl, ⟨.eq rfl, .eq rfl, .eq rfl, .eq rfl, .eq rfl, trivial⟩⟩, trivial⟩, trivial⟩⟩
theorem kr15_To_L0_3_runs (to : Int) (r : List E_kr15_Gift) (n : Int) (n2 : Int) (n3 : Int) (r2 : List E_kr15_Gift) (l : List Int) (r3 : List E_kr15_Mark) (s_ : Int) (r_ : (Int) ⊕ (Unit)) (h : runL (kr15_To_L0_3_step to r n n2 n3 r2 l r3) s_ = some r_) : LRuns Tryz.prog (lEnv Tryz.prog cfg 36 1).nt 1 (.loop (loopAt Tryz.prog 36 0)) (kr15_To_L0_3_st to r n n2 n3 r2 l r3 s_) (kr15_To_L0_3_ex to r n n2 n3 r2 l r3 r_).1 (kr15_To_L0_3_ex to r n n2 n3 r2 l r3 r_).2 :=
 loop_run h (kr15_To_L0_3_ok to r n n2 n3 r2 l r3) (by intro r_; rcases r_ with r1 | _ <;> simp [kr15_To_L0_3_ex])
noncomputable def kr15_To_3 (to : Int) (n : Int) (n2 : Int) (r : List E_kr15_Gift) (l : List Int) (r2 : List E_kr15_Mark) : Option (Int) :=
 (runL (kr15_To_L0_3_step to r (((List.map E_kr15_Gift.pv r)).length : Int) n n2 r l r2) 0).bind fun z_ => match z_ with
 | .inl n3 =>
  some n3
 | .inr _ =>
  some (-1)
theorem kr15_To_3_runs (to : Int) (n : Int) (n2 : Int) (r : List E_kr15_Gift) (l : List Int) (r2 : List E_kr15_Mark) (r_ : Int) (h : kr15_To_3 to n n2 r l r2 = some r_) : Runs Tryz.prog 36 [(.one (.ref 0 0)), (.one (.pv (.int .i64 to)))] [[(.pv (.int .i64 n)), (.pv (.int .u64 n2)), (.pv (.recs 4 (List.map E_kr15_Gift.pv r) false)), (.pv (.ints .i64 l false)), (.pv (.recs 2 (List.map E_kr15_Mark.pv r2) false))]] [] (kr15_To_3_out to n n2 r l r2 r_) := by
 unfold kr15_To_3 at h
 obtain ⟨z_, h1, h⟩ := bind_of h
 rcases z_ with n3 | _
 ·have h := some_of h
  subst h
  have t_ := tL (kr15_To_L0_3_runs to r (((List.map E_kr15_Gift.pv r)).length : Int) n n2 r l r2 _ _ h1) <| tN
  exact runs_of (C := cfg) (objs := [[(.pv (.int .i64 n)), (.pv (.int .u64 n2)), (.pv (.recs 4 (List.map E_kr15_Gift.pv r) false)), (.pv (.ints .i64 l false)), (.pv (.recs 2 (List.map E_kr15_Mark.pv r2) false))]]) (sc := t_.ev) (.k0 t_.pf (by kernel_rfl))
 ·have h := some_of h
  subst h
  have t_ := tL (kr15_To_L0_3_runs to r (((List.map E_kr15_Gift.pv r)).length : Int) n n2 r l r2 _ _ h1) <| tN
  exact runs_of (C := cfg) (objs := [[(.pv (.int .i64 n)), (.pv (.int .u64 n2)), (.pv (.recs 4 (List.map E_kr15_Gift.pv r) false)), (.pv (.ints .i64 l false)), (.pv (.recs 2 (List.map E_kr15_Mark.pv r2) false))]]) (sc := t_.ev) (.k0 t_.pf (by kernel_rfl))
def kr15_Gave_3_out (to : Int) (n : Int) (n2 : Int) (l : List Int) (r : List E_kr15_Mark) (r2 : List E_kr15_Gift) : Bool → Res
 | r1 => ([(.one (.pv (.bool r1)))], [[(.pv (.int .i64 n)), (.pv (.int .u64 n2)), (.own 0 0 ((List.map E_kr15_Gift.pv r2)).length false), (.pv (.ints .i64 l false)), (.pv (.recs 2 (List.map E_kr15_Mark.pv r) false))]], [(.recs 4 (List.map E_kr15_Gift.pv r2))])
def kr15_Gave_L0_3_st (to : Int) (l : List Int) (n : Int) (n2 : Int) (n3 : Int) (l2 : List Int) (r : List E_kr15_Mark) (r2 : List E_kr15_Gift) : Int → St
 | n4 => ⟨[(1, (.av (.one (.pv (.int .i64 to))))), (10, (.av (.one (.pv (.ints .i64 l false))))), (11, (.av (.one (.pv (.int .i64 n))))), (12, (.av (.one (.pv (.int .i64 n4)))))], [(0, [(.pv (.int .i64 n2)), (.pv (.int .u64 n3)), (.own 0 0 ((List.map E_kr15_Gift.pv r2)).length false), (.pv (.ints .i64 l2 false)), (.pv (.recs 2 (List.map E_kr15_Mark.pv r) false))])], [(0, (.live (.recs 4 (List.map E_kr15_Gift.pv r2))))]⟩
def kr15_Gave_L0_3_ex (to : Int) (l : List Int) (n : Int) (n2 : Int) (n3 : Int) (l2 : List Int) (r : List E_kr15_Mark) (r2 : List E_kr15_Gift) : (Unit) ⊕ (Unit) → Ex × St
 | .inl _ => (.ret, ⟨[(4, (.av (.one (.pv (.bool true)))))], [(0, [(.pv (.int .i64 n2)), (.pv (.int .u64 n3)), (.own 0 0 ((List.map E_kr15_Gift.pv r2)).length false), (.pv (.ints .i64 l2 false)), (.pv (.recs 2 (List.map E_kr15_Mark.pv r) false))])], [(0, (.live (.recs 4 (List.map E_kr15_Gift.pv r2))))]⟩)
 | .inr _ => ((.exit 0), ⟨[], [(0, [(.pv (.int .i64 n2)), (.pv (.int .u64 n3)), (.own 0 0 ((List.map E_kr15_Gift.pv r2)).length false), (.pv (.ints .i64 l2 false)), (.pv (.recs 2 (List.map E_kr15_Mark.pv r) false))])], [(0, (.live (.recs 4 (List.map E_kr15_Gift.pv r2))))]⟩)
noncomputable def kr15_Gave_L0_3_step (to : Int) (l : List Int) (n : Int) (n2 : Int) (n3 : Int) (l2 : List Int) (r : List E_kr15_Mark) (r2 : List E_kr15_Gift) : Int → Option ((Int) ⊕ ((Unit) ⊕ (Unit)))
 | n4 =>
 bif (decide ((n4 : Int) < n)) then
  bif decide ((0 : Int) ≤ n4) && decide ((n4 : Int) < ((l).length : Int)) then
  bif (decide (((l.getD (n4).toNat 0) : Int) = to)) then
   some (.inr (.inl ()))
  else
   some (.inl (iadd .i64 n4 1))
  else none
 else
  some (.inr (.inr ()))
theorem kr15_Gave_L0_3_ok (to : Int) (l : List Int) (n : Int) (n2 : Int) (n3 : Int) (l2 : List Int) (r : List E_kr15_Mark) (r2 : List E_kr15_Gift) (n4 : Int) (z_ : (Int) ⊕ ((Unit) ⊕ (Unit))) (h : kr15_Gave_L0_3_step to l n n2 n3 l2 r r2 n4 = some z_) : RoundOk Tryz.prog cfg 37 1 (loopAt Tryz.prog 37 0) (kr15_Gave_L0_3_st to l n n2 n3 l2 r r2) (kr15_Gave_L0_3_ex to l n n2 n3 l2 r r2) n4 z_ := by
 rcases cond_of h with ⟨h1, h⟩ | ⟨h1, h⟩
 ·obtain ⟨h2, h⟩ := need_of h
  rcases cond_of h with ⟨h3, h⟩ | ⟨h3, h⟩
  ·have h := some_of h
   subst h
   have t_ := tT h1 <| tO h2 <| tT h3 <| tN
   exact ⟨t_.ev, (kr15_Gave_L0_3_ex to l n n2 n3 l2 r r2 (.inl ())).2, .k0 t_.pf (by kernel_rfl), .same (by kernel_rfl)⟩
  ·have h := some_of h
   subst h
   have t_ := tT h1 <| tO h2 <| tF h3 <| tN
   exact ⟨t_.ev, kr15_Gave_L0_3_st to l n n2 n3 l2 r r2 (iadd .i64 n4 1), .k0 t_.pf (by kernel_rfl), .same (by kernel_rfl)⟩
 ·have h := some_of h
  subst h
  have t_ := tF h1 <| tN
  exact ⟨t_.ev, ⟨[(13, (.av (.one (.pv (.bool false))))), (1, (.av (.one (.pv (.int .i64 to))))), (10, (.av (.one (.pv (.ints .i64 l false))))), (11, (.av (.one (.pv (.int .i64 n))))), (12, (.av (.one (.pv (.int .i64 n4))))), (13, (.av (.one (.pv (.bool (decide ((n4 : Int) < n)))))))], [(0, [(.pv (.int .i64 n2)), (.pv (.int .u64 n3)), (.own 0 0 ((List.map E_kr15_Gift.pv r2)).length false), (.pv (.ints .i64 l2 false)), (.pv (.recs 2 (List.map E_kr15_Mark.pv r) false))])], [(0, (.live (.recs 4 (List.map E_kr15_Gift.pv r2))))]⟩, .k0 t_.pf (by kernel_rfl), ⟨trivial, ⟨⟨rfl, ⟨.eq rfl, .eq rfl, .eq rfl, .eq rfl, .eq rfl, trivial⟩⟩, trivial⟩, ⟨⟨rfl, .eq rfl⟩, trivial⟩⟩⟩
theorem kr15_Gave_L0_3_runs (to : Int) (l : List Int) (n : Int) (n2 : Int) (n3 : Int) (l2 : List Int) (r : List E_kr15_Mark) (r2 : List E_kr15_Gift) (s_ : Int) (r_ : (Unit) ⊕ (Unit)) (h : runL (kr15_Gave_L0_3_step to l n n2 n3 l2 r r2) s_ = some r_) : LRuns Tryz.prog (lEnv Tryz.prog cfg 37 1).nt 1 (.loop (loopAt Tryz.prog 37 0)) (kr15_Gave_L0_3_st to l n n2 n3 l2 r r2 s_) (kr15_Gave_L0_3_ex to l n n2 n3 l2 r r2 r_).1 (kr15_Gave_L0_3_ex to l n n2 n3 l2 r r2 r_).2 :=
 loop_run h (kr15_Gave_L0_3_ok to l n n2 n3 l2 r r2) (by intro r_; rcases r_ with _ | _ <;> simp [kr15_Gave_L0_3_ex])
noncomputable def kr15_Gave_3 (to : Int) (n : Int) (n2 : Int) (l : List Int) (r : List E_kr15_Mark) (r2 : List E_kr15_Gift) : Option (Bool) :=
 (runL (kr15_Gave_L0_3_step to l ((l).length : Int) n n2 l r r2) 0).bind fun z_ => match z_ with
 | .inl _ =>
  some true
 | .inr _ =>
  some false
theorem kr15_Gave_3_runs (to : Int) (n : Int) (n2 : Int) (l : List Int) (r : List E_kr15_Mark) (r2 : List E_kr15_Gift) (r_ : Bool) (h : kr15_Gave_3 to n n2 l r r2 = some r_) : Runs Tryz.prog 37 [(.one (.ref 0 0)), (.one (.pv (.int .i64 to)))] [[(.pv (.int .i64 n)), (.pv (.int .u64 n2)), (.own 0 0 ((List.map E_kr15_Gift.pv r2)).length false), (.pv (.ints .i64 l false)), (.pv (.recs 2 (List.map E_kr15_Mark.pv r) false))]] [(.recs 4 (List.map E_kr15_Gift.pv r2))] (kr15_Gave_3_out to n n2 l r r2 r_) := by
 unfold kr15_Gave_3 at h
 obtain ⟨z_, h1, h⟩ := bind_of h
 rcases z_ with _ | _
 ·have h := some_of h
  subst h
  have t_ := tL (kr15_Gave_L0_3_runs to l ((l).length : Int) n n2 l r r2 _ _ h1) <| tN
  exact runs_of (C := cfg) (objs := [[(.pv (.int .i64 n)), (.pv (.int .u64 n2)), (.own 0 0 ((List.map E_kr15_Gift.pv r2)).length false), (.pv (.ints .i64 l false)), (.pv (.recs 2 (List.map E_kr15_Mark.pv r) false))]]) (sc := t_.ev) (.k0 t_.pf (by kernel_rfl))
 ·have h := some_of h
  subst h
  have t_ := tL (kr15_Gave_L0_3_runs to l ((l).length : Int) n n2 l r r2 _ _ h1) <| tN
  exact runs_of (C := cfg) (objs := [[(.pv (.int .i64 n)), (.pv (.int .u64 n2)), (.own 0 0 ((List.map E_kr15_Gift.pv r2)).length false), (.pv (.ints .i64 l false)), (.pv (.recs 2 (List.map E_kr15_Mark.pv r) false))]]) (sc := t_.ev) (.k0 t_.pf (by kernel_rfl))
def kr15_Give_L0_4_st (to : Int) (n : Int) (n2 : Int) (l : List Int) (r : List E_kr15_Mark) (n3 : Int) (n4 : Int) (n5 : Int) (t : T_kr01_ID) (r2 : List E_kr15_Gift) : Int × List Int → St
 | (n6, l2) => ⟨[(0, (.av (.one (.ref 0 0)))), (1, (.av (.one (.pv (.int .i64 to))))), (6, (.av (.one (.ref 1 0)))), (8, (.av (.one (.ref 2 0)))), (10, (.av (.one (.own 1 0 (l2).length false)))), (11, (.av (.one (.pv (.int .i64 n6)))))], [(0, [(.pv (.int .i64 n)), (.pv (.int .u64 n2)), (.own 0 0 ((List.map E_kr15_Gift.pv r2)).length false), (.pv (.ints .i64 l false)), (.pv (.recs 2 (List.map E_kr15_Mark.pv r) false))]), (1, [(.pv (.int .u64 0)), (.pv (.int .i64 0)), (.pv (.int .i64 0)), (.pv (T_kr01_ID.pv T_kr01_ID.nil))]), (2, [(.pv (.int .u64 n3)), (.pv (.int .i64 n4)), (.pv (.int .i64 n5)), (.pv (T_kr01_ID.pv t))])], [(0, (.live (.recs 4 (List.map E_kr15_Gift.pv r2)))), (1, (.live (.ints .i64 l2)))]⟩
def kr15_Give_L0_4_ex (to : Int) (n : Int) (n2 : Int) (l : List Int) (r : List E_kr15_Mark) (n3 : Int) (n4 : Int) (n5 : Int) (t : T_kr01_ID) (r2 : List E_kr15_Gift) : List Int → Ex × St
 | r1 => ((.exit 0), ⟨[(0, (.av (.one (.ref 0 0)))), (6, (.av (.one (.ref 1 0)))), (8, (.av (.one (.ref 2 0)))), (10, (.av (.one (.own 1 0 (r1).length false))))], [(0, [(.pv (.int .i64 n)), (.pv (.int .u64 n2)), (.own 0 0 ((List.map E_kr15_Gift.pv r2)).length false), (.pv (.ints .i64 l false)), (.pv (.recs 2 (List.map E_kr15_Mark.pv r) false))]), (1, [(.pv (.int .u64 0)), (.pv (.int .i64 0)), (.pv (.int .i64 0)), (.pv (T_kr01_ID.pv T_kr01_ID.nil))]), (2, [(.pv (.int .u64 n3)), (.pv (.int .i64 n4)), (.pv (.int .i64 n5)), (.pv (T_kr01_ID.pv t))])], [(0, (.live (.recs 4 (List.map E_kr15_Gift.pv r2)))), (1, (.live (.ints .i64 r1)))]⟩)
noncomputable def kr15_Give_L0_4_step (to : Int) (n : Int) (n2 : Int) (l : List Int) (r : List E_kr15_Mark) (n3 : Int) (n4 : Int) (n5 : Int) (t : T_kr01_ID) (r2 : List E_kr15_Gift) : Int × List Int → Option ((Int × List Int) ⊕ (List Int))
 | (n6, l2) =>
 bif (decide ((n6 : Int) < 12)) then
  bif (decide ((n6 : Int) = to)) then
   bif fits ((l2 ++ [n6])).length then
   some (.inl ((iadd .i64 n6 1), (l2 ++ [n6])))
   else none
  else
   (kr15_Gave_3 n6 n n2 l r r2).bind fun b =>
   bif b then
    bif fits ((l2 ++ [n6])).length then
    some (.inl ((iadd .i64 n6 1), (l2 ++ [n6])))
    else none
   else
    some (.inl ((iadd .i64 n6 1), l2))
 else
  some (.inr l2)
theorem kr15_Give_L0_4_ok (to : Int) (n : Int) (n2 : Int) (l : List Int) (r : List E_kr15_Mark) (n3 : Int) (n4 : Int) (n5 : Int) (t : T_kr01_ID) (r2 : List E_kr15_Gift) (s_ : Int × List Int) (z_ : (Int × List Int) ⊕ (List Int)) (h : kr15_Give_L0_4_step to n n2 l r n3 n4 n5 t r2 s_ = some z_) : RoundOk Tryz.prog cfg 33 1 (loopAt Tryz.prog 33 0) (kr15_Give_L0_4_st to n n2 l r n3 n4 n5 t r2) (kr15_Give_L0_4_ex to n n2 l r n3 n4 n5 t r2) s_ z_ := by
 rcases s_ with ⟨n6, l2⟩
 rcases cond_of h with ⟨h1, h⟩ | ⟨h1, h⟩
 ·rcases cond_of h with ⟨h2, h⟩ | ⟨h2, h⟩
  ·obtain ⟨h3, h⟩ := need_of h
   have h := some_of h
   subst h
   have t_ := tT h1 <| tT h2 <| tT (rfl : true = true) <| tO (show (Nat.beq (l2).length (l2).length) = true from Nat.beq_refl _) <| tO h3 <| tN
   exact ⟨t_.ev, kr15_Give_L0_4_st to n n2 l r n3 n4 n5 t r2 ((iadd .i64 n6 1), (l2 ++ [n6])), .k0 t_.pf (by kernel_rfl), .same (by kernel_rfl)⟩
  ·obtain ⟨b, h3, h⟩ := bind_of h
   rcases cond_of h with ⟨h4, h⟩ | ⟨h4, h⟩
   ·obtain ⟨h5, h⟩ := need_of h
    have h := some_of h
    subst h
    have t_ := tT h1 <| tF h2 <| tR (kr15_Gave_3_runs n6 n n2 l r r2 _ h3) <| tT h4 <| tO (show (Nat.beq (l2).length (l2).length) = true from Nat.beq_refl _) <| tO h5 <| tN
    exact ⟨t_.ev, kr15_Give_L0_4_st to n n2 l r n3 n4 n5 t r2 ((iadd .i64 n6 1), (l2 ++ [n6])), .k0 t_.pf (by kernel_rfl), .same (by kernel_rfl)⟩
   ·have h := some_of h
    subst h
    have t_ := tT h1 <| tF h2 <| tR (kr15_Gave_3_runs n6 n n2 l r r2 _ h3) <| tF h4 <| tN
    exact ⟨t_.ev, kr15_Give_L0_4_st to n n2 l r n3 n4 n5 t r2 ((iadd .i64 n6 1), l2), .k0 t_.pf (by kernel_rfl), .same (by kernel_rfl)⟩
 ·have h := some_of h
  subst h
  have t_ := tF h1 <| tN
  exact ⟨t_.ev, ⟨[(59, (.av (.one (.pv (.bool false))))), (0, (.av (.one (.ref 0 0)))), (1, (.av (.one (.pv (.int .i64 to))))), (6, (.av (.one (.ref 1 0)))), (8, (.av (.one (.ref 2 0)))), (10, (.av (.one (.own 1 0 (l2).length false)))), (11, (.av (.one (.pv (.int .i64 n6))))), (59, (.av (.one (.pv (.bool (decide ((n6 : Int) < 12)))))))], [(0, [(.pv (.int .i64 n)), (.pv (.int .u64 n2)), (.own 0 0 ((List.map E_kr15_Gift.pv r2)).length false), (.pv (.ints .i64 l false)), (.pv (.recs 2 (List.map E_kr15_Mark.pv r) false))]), (1, [(.pv (.int .u64 0)), (.pv (.int .i64 0)), (.pv (.int .i64 0)), (.pv (T_kr01_ID.pv T_kr01_ID.nil))]), (2, [(.pv (.int .u64 n3)), (.pv (.int .i64 n4)), (.pv (.int .i64 n5)), (.pv (T_kr01_ID.pv t))])], [(0, (.live (.recs 4 (List.map E_kr15_Gift.pv r2)))), (1, (.live (.ints .i64 l2)))]⟩, .k0 t_.pf (by kernel_rfl), ⟨⟨⟨_, rfl, .eq rfl⟩, ⟨_, rfl, .eq rfl⟩, ⟨_, rfl, .eq rfl⟩, ⟨_, rfl, .eq rfl⟩, trivial⟩, ⟨⟨rfl, ⟨.eq rfl, .eq rfl, .eq rfl, .eq rfl, .eq rfl, trivial⟩⟩, ⟨rfl, ⟨.eq rfl, .eq rfl, .eq rfl, .eq rfl, trivial⟩⟩, ⟨rfl, ⟨.eq rfl, .eq rfl, .eq rfl, .eq rfl, trivial⟩⟩, trivial⟩, ⟨⟨rfl, .eq rfl⟩, ⟨rfl, .eq rfl⟩, trivial⟩⟩⟩
theorem kr15_Give_L0_4_runs (to : Int) (n : Int) (n2 : Int) (l : List Int) (r : List E_kr15_Mark) (n3 : Int) (n4 : Int) (n5 : Int) (t : T_kr01_ID) (r2 : List E_kr15_Gift) (s_ : Int × List Int) (r_ : List Int) (h : runL (kr15_Give_L0_4_step to n n2 l r n3 n4 n5 t r2) s_ = some r_) : LRuns Tryz.prog (lEnv Tryz.prog cfg 33 1).nt 1 (.loop (loopAt Tryz.prog 33 0)) (kr15_Give_L0_4_st to n n2 l r n3 n4 n5 t r2 s_) (kr15_Give_L0_4_ex to n n2 l r n3 n4 n5 t r2 r_).1 (kr15_Give_L0_4_ex to n n2 l r n3 n4 n5 t r2 r_).2 :=
 loop_run h (kr15_Give_L0_4_ok to n n2 l r n3 n4 n5 t r2) (by intro r_; rcases r_ with r1 <;> simp [kr15_Give_L0_4_ex])
noncomputable def kr15_Give_3 (to : Int) (share : T_kr01_ID) (n : Int) (n2 : Int) (r : List E_kr15_Gift) (l : List Int) (r2 : List E_kr15_Mark) : Option (Int × Int × Int × T_kr01_ID × Int × Int × List E_kr15_Gift × List Int) :=
 (kr01_Zero).bind fun t =>
 (kr15_Right (iadd .u64 n2 1) n to share).bind fun b =>
 bif b then
  (kr15_To_3 to n n2 r l r2).bind fun n3 =>
  bif (decide ((0 : Int) ≤ n3)) then
   some (0, 0, 0, t, 14, n2, r, l)
  else
   bif Nat.beq ((List.map E_kr15_Gift.pv r)).length 0 then
    (kr15_Gave_3 to n (iadd .u64 n2 1) l r2 [(E_kr15_Gift.mk (iadd .u64 n2 1) n to share)]).bind fun b2 =>
    bif b2 then
     some ((iadd .u64 n2 1), n, to, share, 0, (iadd .u64 n2 1), (List.take ((List.map E_kr15_Gift.pv [(E_kr15_Gift.mk (iadd .u64 n2 1) n to share)])).length [(E_kr15_Gift.mk (iadd .u64 n2 1) n to share)]), l)
    else
     (runL (kr15_Give_L0_4_step to n (iadd .u64 n2 1) l r2 (iadd .u64 n2 1) n to share [(E_kr15_Gift.mk (iadd .u64 n2 1) n to share)]) (0, [])).bind fun l_ =>
     some ((iadd .u64 n2 1), n, to, share, 0, (iadd .u64 n2 1), (List.take ((List.map E_kr15_Gift.pv [(E_kr15_Gift.mk (iadd .u64 n2 1) n to share)])).length [(E_kr15_Gift.mk (iadd .u64 n2 1) n to share)]), l_)
   else
    bif fits ((([] : List (List PV)) ++ (List.map E_kr15_Gift.pv r))).length then
    bif fits (((([] : List (List PV)) ++ (List.map E_kr15_Gift.pv r)) ++ ([[(.int .u64 (iadd .u64 n2 1)), (.int .i64 n), (.int .i64 to), (T_kr01_ID.pv share)]] : List (List PV)))).length then
    (kr15_Gave_3 to n (iadd .u64 n2 1) l r2 (([] ++ r) ++ [(E_kr15_Gift.mk (iadd .u64 n2 1) n to share)])).bind fun b2 =>
    bif b2 then
     some ((iadd .u64 n2 1), n, to, share, 0, (iadd .u64 n2 1), (List.take ((List.map E_kr15_Gift.pv (([] ++ r) ++ [(E_kr15_Gift.mk (iadd .u64 n2 1) n to share)]))).length (([] ++ r) ++ [(E_kr15_Gift.mk (iadd .u64 n2 1) n to share)])), l)
    else
     (runL (kr15_Give_L0_4_step to n (iadd .u64 n2 1) l r2 (iadd .u64 n2 1) n to share (([] ++ r) ++ [(E_kr15_Gift.mk (iadd .u64 n2 1) n to share)])) (0, [])).bind fun l_ =>
     some ((iadd .u64 n2 1), n, to, share, 0, (iadd .u64 n2 1), (List.take ((List.map E_kr15_Gift.pv (([] ++ r) ++ [(E_kr15_Gift.mk (iadd .u64 n2 1) n to share)]))).length (([] ++ r) ++ [(E_kr15_Gift.mk (iadd .u64 n2 1) n to share)])), l_)
    else none
    else none
 else
  some (0, 0, 0, t, 1, n2, r, l)
theorem kr15_Give_3_runs (to : Int) (share : T_kr01_ID) (n : Int) (n2 : Int) (r : List E_kr15_Gift) (l : List Int) (r2 : List E_kr15_Mark) (r_ : Int × Int × Int × T_kr01_ID × Int × Int × List E_kr15_Gift × List Int) (h : kr15_Give_3 to share n n2 r l r2 = some r_) : Runs Tryz.prog 33 [(.one (.ref 0 0)), (.one (.pv (.int .i64 to))), (.one (.pv (T_kr01_ID.pv share)))] [[(.pv (.int .i64 n)), (.pv (.int .u64 n2)), (.pv (.recs 4 (List.map E_kr15_Gift.pv r) false)), (.pv (.ints .i64 l false)), (.pv (.recs 2 (List.map E_kr15_Mark.pv r2) false))]] [] (kr15_Give_3_out to share n n2 r l r2 r_) := by
 unfold kr15_Give_3 at h
 obtain ⟨t, h1, h⟩ := bind_of h
 obtain ⟨b, h2, h⟩ := bind_of h
 have q_2 := (kr15_Right_runs (iadd .u64 n2 1) n to share _ h2)
 rcases cond_of h with ⟨h3, h⟩ | ⟨h3, h⟩
 ·obtain ⟨n3, h4, h⟩ := bind_of h
  rcases cond_of h with ⟨h5, h⟩ | ⟨h5, h⟩
  ·have h := some_of h
   subst h
   have t_ := tR (kr01_Zero_runs _ h1) <| tR q_2 <| tF (not_of2 h3) <| tR (kr15_To_3_runs to n n2 r l r2 _ h4) <| tT h5 <| tN
   exact runs_of (C := cfg) (objs := [[(.pv (.int .i64 n)), (.pv (.int .u64 n2)), (.pv (.recs 4 (List.map E_kr15_Gift.pv r) false)), (.pv (.ints .i64 l false)), (.pv (.recs 2 (List.map E_kr15_Mark.pv r2) false))]]) (sc := t_.ev) (.k1 t_.pf (by kernel_rfl) (by kernel_rfl))
  ·rcases cond_of h with ⟨h6, h⟩ | ⟨h6, h⟩
   ·obtain ⟨b2, h7, h⟩ := bind_of h
    have q_7 := (Runs.coe (as' := [(.one (.ref 0 0)), (.one (.pv (.int .i64 to)))]) (objs' := [[(.pv (.int .i64 n)), (.pv (.int .u64 (iadd .u64 n2 1))), (.own 0 0 1 false), (.pv (.ints .i64 l false)), (.pv (.recs 2 (List.map E_kr15_Mark.pv r2) false))]]) (rows' := [(.recs 4 [[(.int .u64 (iadd .u64 n2 1)), (.int .i64 n), (.int .i64 to), (T_kr01_ID.pv share)]])]) (kr15_Gave_3_runs to n (iadd .u64 n2 1) l r2 [(E_kr15_Gift.mk (iadd .u64 n2 1) n to share)] _ h7) ⟨.eq rfl, .eq rfl, trivial⟩ ⟨⟨.eq rfl, .eq rfl, .own (by first | rfl | (simp only [List.take_length]; done) | (simp; done) | (simp only [List.map_take, List.map_drop, List.map_append, List.take_length, List.nil_append]; done) | (simp only [List.length_map, List.take_length, List.length_append, List.drop_zero, List.map_append, List.map_take, List.map_drop, List.map_replicate, List.map_cons, List.map_nil, List.append_nil, List.nil_append]; done)), .eq rfl, .eq rfl, trivial⟩, trivial⟩ ⟨.recs (.cons (.cons (.eq rfl) (.cons (.eq rfl) (.cons (.eq rfl) (.cons (.eq rfl) (.nil))))) (.nil)), trivial⟩)
    rcases cond_of h with ⟨h8, h⟩ | ⟨h8, h⟩
    ·have h := some_of h
     subst h
     have t_ := tR (kr01_Zero_runs _ h1) <| tR q_2 <| tF (not_of2 h3) <| tR (kr15_To_3_runs to n n2 r l r2 _ h4) <| tF h5 <| tT h6 <| tT h6 <| tT h6 <| tO (rfl : true = true) <| tO (rfl : true = true) <| tR q_7 <| tF (not_of2 h8) <| tN
     have e_ : Runs Tryz.prog 33 [(.one (.ref 0 0)), (.one (.pv (.int .i64 to))), (.one (.pv (T_kr01_ID.pv share)))] [[(.pv (.int .i64 n)), (.pv (.int .u64 n2)), (.pv (.recs 4 (List.map E_kr15_Gift.pv r) false)), (.pv (.ints .i64 l false)), (.pv (.recs 2 (List.map E_kr15_Mark.pv r2) false))]] [] ([(.agg [(.pv (.int .u64 (iadd .u64 n2 1))), (.pv (.int .i64 n)), (.pv (.int .i64 to)), (.pv (T_kr01_ID.pv share))]), (.one (.pv (.int .i64 0)))], [[(.pv (.int .i64 n)), (.pv (.int .u64 (iadd .u64 n2 1))), (.own 0 0 ((List.map E_kr15_Gift.pv [(E_kr15_Gift.mk (iadd .u64 n2 1) n to share)])).length false), (.pv (.ints .i64 l false)), (.pv (.recs 2 (List.map E_kr15_Mark.pv r2) false))]], [(.recs 4 (List.map E_kr15_Gift.pv [(E_kr15_Gift.mk (iadd .u64 n2 1) n to share)]))]) := runs_of (C := cfg) (objs := [[(.pv (.int .i64 n)), (.pv (.int .u64 n2)), (.pv (.recs 4 (List.map E_kr15_Gift.pv r) false)), (.pv (.ints .i64 l false)), (.pv (.recs 2 (List.map E_kr15_Mark.pv r2) false))]]) (sc := t_.ev) (.k1 t_.pf (by kernel_rfl) (by kernel_rfl))
     have e_ := e_.shut (res' := ([(.agg [(.pv (.int .u64 (iadd .u64 n2 1))), (.pv (.int .i64 n)), (.pv (.int .i64 to)), (.pv (T_kr01_ID.pv share))]), (.one (.pv (.int .i64 0)))], [[(.pv (.int .i64 n)), (.pv (.int .u64 (iadd .u64 n2 1))), (.pv (.recs 4 (List.take ((List.map E_kr15_Gift.pv [(E_kr15_Gift.mk (iadd .u64 n2 1) n to share)])).length (List.map E_kr15_Gift.pv [(E_kr15_Gift.mk (iadd .u64 n2 1) n to share)])) false)), (.pv (.ints .i64 l false)), (.pv (.recs 2 (List.map E_kr15_Mark.pv r2) false))]], [])) [0] (by kernel_rfl)
     exact e_.out ⟨⟨.eq rfl, .eq rfl, .eq rfl, .eq rfl, trivial⟩, .eq rfl, trivial⟩ ⟨⟨.eq rfl, .eq rfl, .pv (.recsT (.eq (by first | rfl | (simp only [List.take_length]; done) | (simp; done) | (simp only [List.map_take, List.map_drop, List.map_append, List.take_length, List.nil_append]; done) | (simp only [List.length_map, List.take_length, List.length_append, List.drop_zero, List.map_append, List.map_take, List.map_drop, List.map_replicate, List.map_cons, List.map_nil, List.append_nil, List.nil_append]; done)))), .eq rfl, .eq rfl, trivial⟩, trivial⟩ trivial rfl
    ·obtain ⟨l_, h9, h⟩ := bind_of h
     have h := some_of h
     subst h
     have t_ := tR (kr01_Zero_runs _ h1) <| tR q_2 <| tF (not_of2 h3) <| tR (kr15_To_3_runs to n n2 r l r2 _ h4) <| tF h5 <| tT h6 <| tT h6 <| tT h6 <| tO (rfl : true = true) <| tO (rfl : true = true) <| tR q_7 <| tT (not_of h8) <| tL (LRuns.coe (s0 := ⟨[(0, (.av (.one (.ref 0 0)))), (1, (.av (.one (.pv (.int .i64 to))))), (6, (.av (.one (.ref 1 0)))), (8, (.av (.one (.ref 2 0)))), (10, (.av (.one (.own 1 0 0 false)))), (11, (.av (.one (.pv (.int .i64 0)))))], [(0, [(.pv (.int .i64 n)), (.pv (.int .u64 (iadd .u64 n2 1))), (.own 0 0 ((List.map E_kr15_Gift.pv [(E_kr15_Gift.mk (iadd .u64 n2 1) n to share)])).length false), (.pv (.ints .i64 l false)), (.pv (.recs 2 (List.map E_kr15_Mark.pv r2) false))]), (1, [(.pv (.int .u64 0)), (.pv (.int .i64 0)), (.pv (.int .i64 0)), (.pv .nilp)]), (2, [(.pv (.int .u64 (iadd .u64 n2 1))), (.pv (.int .i64 n)), (.pv (.int .i64 to)), (.pv (T_kr01_ID.pv share))])], [(0, (.live (.recs 4 (List.map E_kr15_Gift.pv [(E_kr15_Gift.mk (iadd .u64 n2 1) n to share)])))), (1, (.live (.ints .i64 [])))]⟩) (kr15_Give_L0_4_runs to n (iadd .u64 n2 1) l r2 (iadd .u64 n2 1) n to share [(E_kr15_Gift.mk (iadd .u64 n2 1) n to share)] _ _ h9) ⟨⟨⟨_, rfl, .eq rfl⟩, ⟨_, rfl, .eq rfl⟩, ⟨_, rfl, .eq rfl⟩, ⟨_, rfl, .eq rfl⟩, ⟨_, rfl, .own (by first | rfl | (simp only [List.take_length]; done) | (simp; done) | (simp only [List.map_take, List.map_drop, List.map_append, List.take_length, List.nil_append]; done) | (simp only [List.length_map, List.take_length, List.length_append, List.drop_zero, List.map_append, List.map_take, List.map_drop, List.map_replicate, List.map_cons, List.map_nil, List.append_nil, List.nil_append]; done))⟩, ⟨_, rfl, .eq rfl⟩, trivial⟩, ⟨⟨rfl, ⟨.eq rfl, .eq rfl, .eq rfl, .eq rfl, .eq rfl, trivial⟩⟩, ⟨rfl, ⟨.eq rfl, .eq rfl, .eq rfl, .eq rfl, trivial⟩⟩, ⟨rfl, ⟨.eq rfl, .eq rfl, .eq rfl, .eq rfl, trivial⟩⟩, trivial⟩, ⟨⟨rfl, .eq rfl⟩, ⟨rfl, .eq rfl⟩, trivial⟩⟩) <| tN
     have e_ : Runs Tryz.prog 33 [(.one (.ref 0 0)), (.one (.pv (.int .i64 to))), (.one (.pv (T_kr01_ID.pv share)))] [[(.pv (.int .i64 n)), (.pv (.int .u64 n2)), (.pv (.recs 4 (List.map E_kr15_Gift.pv r) false)), (.pv (.ints .i64 l false)), (.pv (.recs 2 (List.map E_kr15_Mark.pv r2) false))]] [] ([(.agg [(.pv (.int .u64 (iadd .u64 n2 1))), (.pv (.int .i64 n)), (.pv (.int .i64 to)), (.pv (T_kr01_ID.pv share))]), (.one (.pv (.int .i64 0)))], [[(.pv (.int .i64 n)), (.pv (.int .u64 (iadd .u64 n2 1))), (.own 0 0 ((List.map E_kr15_Gift.pv [(E_kr15_Gift.mk (iadd .u64 n2 1) n to share)])).length false), (.own 1 0 (l_).length false), (.pv (.recs 2 (List.map E_kr15_Mark.pv r2) false))]], [(.recs 4 (List.map E_kr15_Gift.pv [(E_kr15_Gift.mk (iadd .u64 n2 1) n to share)])), (.ints .i64 l_)]) := runs_of (C := cfg) (objs := [[(.pv (.int .i64 n)), (.pv (.int .u64 n2)), (.pv (.recs 4 (List.map E_kr15_Gift.pv r) false)), (.pv (.ints .i64 l false)), (.pv (.recs 2 (List.map E_kr15_Mark.pv r2) false))]]) (sc := t_.ev) (.k1 t_.pf (by kernel_rfl) (by kernel_rfl))
     have e_ := e_.shut (res' := ([(.agg [(.pv (.int .u64 (iadd .u64 n2 1))), (.pv (.int .i64 n)), (.pv (.int .i64 to)), (.pv (T_kr01_ID.pv share))]), (.one (.pv (.int .i64 0)))], [[(.pv (.int .i64 n)), (.pv (.int .u64 (iadd .u64 n2 1))), (.pv (.recs 4 (List.take ((List.map E_kr15_Gift.pv [(E_kr15_Gift.mk (iadd .u64 n2 1) n to share)])).length (List.map E_kr15_Gift.pv [(E_kr15_Gift.mk (iadd .u64 n2 1) n to share)])) false)), (.pv (.ints .i64 (List.take (l_).length l_) false)), (.pv (.recs 2 (List.map E_kr15_Mark.pv r2) false))]], [])) [0, 1] (by kernel_rfl)
     exact e_.out ⟨⟨.eq rfl, .eq rfl, .eq rfl, .eq rfl, trivial⟩, .eq rfl, trivial⟩ ⟨⟨.eq rfl, .eq rfl, .pv (.recsT (.eq (by first | rfl | (simp only [List.take_length]; done) | (simp; done) | (simp only [List.map_take, List.map_drop, List.map_append, List.take_length, List.nil_append]; done) | (simp only [List.length_map, List.take_length, List.length_append, List.drop_zero, List.map_append, List.map_take, List.map_drop, List.map_replicate, List.map_cons, List.map_nil, List.append_nil, List.nil_append]; done)))), .pv (.ints (by first | rfl | (simp only [List.take_length]; done) | (simp; done) | (simp only [List.map_take, List.map_drop, List.map_append, List.take_length, List.nil_append]; done) | (simp only [List.length_map, List.take_length, List.length_append, List.drop_zero, List.map_append, List.map_take, List.map_drop, List.map_replicate, List.map_cons, List.map_nil, List.append_nil, List.nil_append]; done))), .eq rfl, trivial⟩, trivial⟩ trivial rfl
   ·obtain ⟨h7, h⟩ := need_of h
    obtain ⟨h8, h⟩ := need_of h
    obtain ⟨b2, h9, h⟩ := bind_of h
    have q_9 := (Runs.coe (as' := [(.one (.ref 0 0)), (.one (.pv (.int .i64 to)))]) (objs' := [[(.pv (.int .i64 n)), (.pv (.int .u64 (iadd .u64 n2 1))), (.own 0 0 (((([] : List (List PV)) ++ (List.map E_kr15_Gift.pv r)) ++ ([[(.int .u64 (iadd .u64 n2 1)), (.int .i64 n), (.int .i64 to), (T_kr01_ID.pv share)]] : List (List PV)))).length false), (.pv (.ints .i64 l false)), (.pv (.recs 2 (List.map E_kr15_Mark.pv r2) false))]]) (rows' := [(.recs 4 ((([] : List (List PV)) ++ (List.map E_kr15_Gift.pv r)) ++ ([[(.int .u64 (iadd .u64 n2 1)), (.int .i64 n), (.int .i64 to), (T_kr01_ID.pv share)]] : List (List PV))))]) (kr15_Gave_3_runs to n (iadd .u64 n2 1) l r2 (([] ++ r) ++ [(E_kr15_Gift.mk (iadd .u64 n2 1) n to share)]) _ h9) ⟨.eq rfl, .eq rfl, trivial⟩ ⟨⟨.eq rfl, .eq rfl, .own (by first | rfl | (simp only [List.take_length]; done) | (simp; done) | (simp only [List.map_take, List.map_drop, List.map_append, List.take_length, List.nil_append]; done) | (simp only [List.length_map, List.take_length, List.length_append, List.drop_zero, List.map_append, List.map_take, List.map_drop, List.map_replicate, List.map_cons, List.map_nil, List.append_nil, List.nil_append]; done)), .eq rfl, .eq rfl, trivial⟩, trivial⟩ ⟨.recs (.app (.app (.nil) (.eq rfl)) (.cons (.cons (.eq rfl) (.cons (.eq rfl) (.cons (.eq rfl) (.cons (.eq rfl) (.nil))))) (.nil))), trivial⟩)
    have p9_ := fun {sc_ : List Ev} {Q_ : Prop} (t_ : Tell sc_ Q_) => tR (kr01_Zero_runs _ h1) <| tR q_2 <| tF (not_of2 h3) <| tR (kr15_To_3_runs to n n2 r l r2 _ h4) <| tF h5 <| tF (not_of h6) <| tO h7 <| tF (not_of h6) <| tO h7 <| tF (not_of h6) <| tO h7 <| tO (show (Nat.beq ((([] : List (List PV)) ++ (List.map E_kr15_Gift.pv r))).length ((([] : List (List PV)) ++ (List.map E_kr15_Gift.pv r))).length) = true from Nat.beq_refl _) <| tO h8 <| tR q_9 <| t_
    rcases cond_of h with ⟨h10, h⟩ | ⟨h10, h⟩
    ·have h := some_of h
     subst h
     have t_ := p9_ <| tF (not_of2 h10) <| tN
     have e_ : Runs Tryz.prog 33 [(.one (.ref 0 0)), (.one (.pv (.int .i64 to))), (.one (.pv (T_kr01_ID.pv share)))] [[(.pv (.int .i64 n)), (.pv (.int .u64 n2)), (.pv (.recs 4 (List.map E_kr15_Gift.pv r) false)), (.pv (.ints .i64 l false)), (.pv (.recs 2 (List.map E_kr15_Mark.pv r2) false))]] [] ([(.agg [(.pv (.int .u64 (iadd .u64 n2 1))), (.pv (.int .i64 n)), (.pv (.int .i64 to)), (.pv (T_kr01_ID.pv share))]), (.one (.pv (.int .i64 0)))], [[(.pv (.int .i64 n)), (.pv (.int .u64 (iadd .u64 n2 1))), (.own 0 0 ((List.map E_kr15_Gift.pv (([] ++ r) ++ [(E_kr15_Gift.mk (iadd .u64 n2 1) n to share)]))).length false), (.pv (.ints .i64 l false)), (.pv (.recs 2 (List.map E_kr15_Mark.pv r2) false))]], [(.recs 4 (List.map E_kr15_Gift.pv (([] ++ r) ++ [(E_kr15_Gift.mk (iadd .u64 n2 1) n to share)])))]) := runs_of (C := cfg) (objs := [[(.pv (.int .i64 n)), (.pv (.int .u64 n2)), (.pv (.recs 4 (List.map E_kr15_Gift.pv r) false)), (.pv (.ints .i64 l false)), (.pv (.recs 2 (List.map E_kr15_Mark.pv r2) false))]]) (sc := t_.ev) (.k1 t_.pf (by kernel_rfl) (by kernel_rfl))
     have e_ := e_.shut (res' := ([(.agg [(.pv (.int .u64 (iadd .u64 n2 1))), (.pv (.int .i64 n)), (.pv (.int .i64 to)), (.pv (T_kr01_ID.pv share))]), (.one (.pv (.int .i64 0)))], [[(.pv (.int .i64 n)), (.pv (.int .u64 (iadd .u64 n2 1))), (.pv (.recs 4 (List.take ((List.map E_kr15_Gift.pv (([] ++ r) ++ [(E_kr15_Gift.mk (iadd .u64 n2 1) n to share)]))).length (List.map E_kr15_Gift.pv (([] ++ r) ++ [(E_kr15_Gift.mk (iadd .u64 n2 1) n to share)]))) false)), (.pv (.ints .i64 l false)), (.pv (.recs 2 (List.map E_kr15_Mark.pv r2) false))]], [])) [0] (by kernel_rfl)
     exact e_.out ⟨⟨.eq rfl, .eq rfl, .eq rfl, .eq rfl, trivial⟩, .eq rfl, trivial⟩ ⟨⟨.eq rfl, .eq rfl, .pv (.recsT (.eq (by first | rfl | (simp only [List.take_length]; done) | (simp; done) | (simp only [List.map_take, List.map_drop, List.map_append, List.take_length, List.nil_append]; done) | (simp only [List.length_map, List.take_length, List.length_append, List.drop_zero, List.map_append, List.map_take, List.map_drop, List.map_replicate, List.map_cons, List.map_nil, List.append_nil, List.nil_append]; done)))), .eq rfl, .eq rfl, trivial⟩, trivial⟩ trivial rfl
    ·obtain ⟨l_, h11, h⟩ := bind_of h
     have h := some_of h
     subst h
     have t_ := p9_ <| tT (not_of h10) <| tL (LRuns.coe (s0 := ⟨[(0, (.av (.one (.ref 0 0)))), (1, (.av (.one (.pv (.int .i64 to))))), (6, (.av (.one (.ref 1 0)))), (8, (.av (.one (.ref 2 0)))), (10, (.av (.one (.own 1 0 0 false)))), (11, (.av (.one (.pv (.int .i64 0)))))], [(0, [(.pv (.int .i64 n)), (.pv (.int .u64 (iadd .u64 n2 1))), (.own 0 0 ((List.map E_kr15_Gift.pv (([] ++ r) ++ [(E_kr15_Gift.mk (iadd .u64 n2 1) n to share)]))).length false), (.pv (.ints .i64 l false)), (.pv (.recs 2 (List.map E_kr15_Mark.pv r2) false))]), (1, [(.pv (.int .u64 0)), (.pv (.int .i64 0)), (.pv (.int .i64 0)), (.pv .nilp)]), (2, [(.pv (.int .u64 (iadd .u64 n2 1))), (.pv (.int .i64 n)), (.pv (.int .i64 to)), (.pv (T_kr01_ID.pv share))])], [(0, (.live (.recs 4 (List.map E_kr15_Gift.pv (([] ++ r) ++ [(E_kr15_Gift.mk (iadd .u64 n2 1) n to share)]))))), (1, (.live (.ints .i64 [])))]⟩) (kr15_Give_L0_4_runs to n (iadd .u64 n2 1) l r2 (iadd .u64 n2 1) n to share (([] ++ r) ++ [(E_kr15_Gift.mk (iadd .u64 n2 1) n to share)]) _ _ h11) ⟨⟨⟨_, rfl, .eq rfl⟩, ⟨_, rfl, .eq rfl⟩, ⟨_, rfl, .eq rfl⟩, ⟨_, rfl, .eq rfl⟩, ⟨_, rfl, .own (by first | rfl | (simp only [List.take_length]; done) | (simp; done) | (simp only [List.map_take, List.map_drop, List.map_append, List.take_length, List.nil_append]; done) | (simp only [List.length_map, List.take_length, List.length_append, List.drop_zero, List.map_append, List.map_take, List.map_drop, List.map_replicate, List.map_cons, List.map_nil, List.append_nil, List.nil_append]; done))⟩, ⟨_, rfl, .eq rfl⟩, trivial⟩, ⟨⟨rfl, ⟨.eq rfl, .eq rfl, .eq rfl, .eq rfl, .eq rfl, trivial⟩⟩, ⟨rfl, ⟨.eq rfl, .eq rfl, .eq rfl, .eq rfl, trivial⟩⟩, ⟨rfl, ⟨.eq rfl, .eq rfl, .eq rfl, .eq rfl, trivial⟩⟩, trivial⟩, ⟨⟨rfl, .eq rfl⟩, ⟨rfl, .eq rfl⟩, trivial⟩⟩) <| tN
     have e_ : Runs Tryz.prog 33 [(.one (.ref 0 0)), (.one (.pv (.int .i64 to))), (.one (.pv (T_kr01_ID.pv share)))] [[(.pv (.int .i64 n)), (.pv (.int .u64 n2)), (.pv (.recs 4 (List.map E_kr15_Gift.pv r) false)), (.pv (.ints .i64 l false)), (.pv (.recs 2 (List.map E_kr15_Mark.pv r2) false))]] [] ([(.agg [(.pv (.int .u64 (iadd .u64 n2 1))), (.pv (.int .i64 n)), (.pv (.int .i64 to)), (.pv (T_kr01_ID.pv share))]), (.one (.pv (.int .i64 0)))], [[(.pv (.int .i64 n)), (.pv (.int .u64 (iadd .u64 n2 1))), (.own 0 0 ((List.map E_kr15_Gift.pv (([] ++ r) ++ [(E_kr15_Gift.mk (iadd .u64 n2 1) n to share)]))).length false), (.own 1 0 (l_).length false), (.pv (.recs 2 (List.map E_kr15_Mark.pv r2) false))]], [(.recs 4 (List.map E_kr15_Gift.pv (([] ++ r) ++ [(E_kr15_Gift.mk (iadd .u64 n2 1) n to share)]))), (.ints .i64 l_)]) := runs_of (C := cfg) (objs := [[(.pv (.int .i64 n)), (.pv (.int .u64 n2)), (.pv (.recs 4 (List.map E_kr15_Gift.pv r) false)), (.pv (.ints .i64 l false)), (.pv (.recs 2 (List.map E_kr15_Mark.pv r2) false))]]) (sc := t_.ev) (.k1 t_.pf (by kernel_rfl) (by kernel_rfl))
     have e_ := e_.shut (res' := ([(.agg [(.pv (.int .u64 (iadd .u64 n2 1))), (.pv (.int .i64 n)), (.pv (.int .i64 to)), (.pv (T_kr01_ID.pv share))]), (.one (.pv (.int .i64 0)))], [[(.pv (.int .i64 n)), (.pv (.int .u64 (iadd .u64 n2 1))), (.pv (.recs 4 (List.take ((List.map E_kr15_Gift.pv (([] ++ r) ++ [(E_kr15_Gift.mk (iadd .u64 n2 1) n to share)]))).length (List.map E_kr15_Gift.pv (([] ++ r) ++ [(E_kr15_Gift.mk (iadd .u64 n2 1) n to share)]))) false)), (.pv (.ints .i64 (List.take (l_).length l_) false)), (.pv (.recs 2 (List.map E_kr15_Mark.pv r2) false))]], [])) [0, 1] (by kernel_rfl)
     exact e_.out ⟨⟨.eq rfl, .eq rfl, .eq rfl, .eq rfl, trivial⟩, .eq rfl, trivial⟩ ⟨⟨.eq rfl, .eq rfl, .pv (.recsT (.eq (by first | rfl | (simp only [List.take_length]; done) | (simp; done) | (simp only [List.map_take, List.map_drop, List.map_append, List.take_length, List.nil_append]; done) | (simp only [List.length_map, List.take_length, List.length_append, List.drop_zero, List.map_append, List.map_take, List.map_drop, List.map_replicate, List.map_cons, List.map_nil, List.append_nil, List.nil_append]; done)))), .pv (.ints (by first | rfl | (simp only [List.take_length]; done) | (simp; done) | (simp only [List.map_take, List.map_drop, List.map_append, List.take_length, List.nil_append]; done) | (simp only [List.length_map, List.take_length, List.length_append, List.drop_zero, List.map_append, List.map_take, List.map_drop, List.map_replicate, List.map_cons, List.map_nil, List.append_nil, List.nil_append]; done))), .eq rfl, trivial⟩, trivial⟩ trivial rfl
 ·have h := some_of h
  subst h
  have t_ := tR (kr01_Zero_runs _ h1) <| tR q_2 <| tT (not_of h3) <| tN
  exact runs_of (C := cfg) (objs := [[(.pv (.int .i64 n)), (.pv (.int .u64 n2)), (.pv (.recs 4 (List.map E_kr15_Gift.pv r) false)), (.pv (.ints .i64 l false)), (.pv (.recs 2 (List.map E_kr15_Mark.pv r2) false))]]) (sc := t_.ev) (.k1 t_.pf (by kernel_rfl) (by kernel_rfl))
def kl15_do_4_out (a : Int) (a2 : Int) (a3 : Int) (a4 : Int) (a5 : List Int) (n : Int) (n2 : Int) (r : List E_deed_Gift) (m : List (Int × Int)) (m2 : List ((Int × Int) × Int)) (n3 : Int) (n4 : Int) (r2 : List E_kr15_Gift) (l : List Int) (r3 : List E_kr15_Mark) : Bool × Int × List E_deed_Gift × List (Int × Int) × List ((Int × Int) × Int) × Int × List E_kr15_Gift × List Int × List E_kr15_Mark → Res
 | (r1, r4, r5, r6, r7, r8, r9, r10, r11) => ([(.one (.pv (.bool r1)))], [[(.pv (.int .i64 n)), (.pv (.int .u64 r4)), (.pv (.recs 5 (List.map E_deed_Gift.pv r5) false)), (.mp 1), (.mp 2)], [(.maph (.int .i64) false (List.map M_int_int.pv r6) [])], [(.maph (.st [.i64, .u64]) false (List.map M_deed_Mark_int.pv r7) [])], [(.pv (.int .i64 n3)), (.pv (.int .u64 r8)), (.pv (.recs 4 (List.map E_kr15_Gift.pv r9) false)), (.pv (.ints .i64 r10 false)), (.pv (.recs 2 (List.map E_kr15_Mark.pv r11) false))]], [])
def deed_Deeds_Take_2_out (g : Int) (g2 : Int) (g3 : Int) (g4 : Bool) (g5 : T_id_halves) (n : Int) (n2 : Int) (r : List E_deed_Gift) (m : List (Int × Int)) (m2 : List ((Int × Int) × Int)) : Int × List ((Int × Int) × Int) → Res
 | (r1, r2) => ([(.one (.pv (.int .i64 r1)))], [[(.pv (.int .i64 n)), (.pv (.int .u64 n2)), (.pv (.recs 5 (List.map E_deed_Gift.pv r) false)), (.mp 1), (.mp 2)], [(.maph (.int .i64) false (List.map M_int_int.pv m) [])], [(.maph (.st [.i64, .u64]) false (List.map M_deed_Mark_int.pv r2) [])]], [])
def deed_Deeds_Took_2_out (m : Int) (m2 : Int) (n : Int) (n2 : Int) (r : List E_deed_Gift) (m3 : List (Int × Int)) (m4 : List ((Int × Int) × Int)) : Bool → Res
 | r1 => ([(.one (.pv (.bool r1)))], [[(.pv (.int .i64 n)), (.pv (.int .u64 n2)), (.pv (.recs 5 (List.map E_deed_Gift.pv r) false)), (.mp 1), (.mp 2)], [(.maph (.int .i64) false (List.map M_int_int.pv m3) [])], [(.maph (.st [.i64, .u64]) false (List.map M_deed_Mark_int.pv m4) [])]], [])
noncomputable def deed_Deeds_Took_2 (m : Int) (m2 : Int) (n : Int) (n2 : Int) (r : List E_deed_Gift) (m3 : List (Int × Int)) (m4 : List ((Int × Int) × Int)) : Option (Bool) :=
 match (mget (m, m2) m4) with
 | .some n3 =>
  some (decide ((0 : Int) < n3))
 | .none =>
  some false
theorem deed_Deeds_Took_2_runs (m : Int) (m2 : Int) (n : Int) (n2 : Int) (r : List E_deed_Gift) (m3 : List (Int × Int)) (m4 : List ((Int × Int) × Int)) (r_ : Bool) (h : deed_Deeds_Took_2 m m2 n n2 r m3 m4 = some r_) : Runs Tryz.prog 21 [(.one (.ref 0 0)), (.agg [(.pv (.int .i64 m)), (.pv (.int .u64 m2))])] [[(.pv (.int .i64 n)), (.pv (.int .u64 n2)), (.pv (.recs 5 (List.map E_deed_Gift.pv r) false)), (.mp 1), (.mp 2)], [(.maph (.int .i64) false (List.map M_int_int.pv m3) [])], [(.maph (.st [.i64, .u64]) false (List.map M_deed_Mark_int.pv m4) [])]] [] (deed_Deeds_Took_2_out m m2 n n2 r m3 m4 r_) := by
 unfold deed_Deeds_Took_2 at h
 cases h1 : (mget (m, m2) m4) with
 | some n3 =>
  simp only [h1] at h
  have h := some_of h
  subst h
  have t_ := tT (rfl : true = true) <| tT (show kget [(.int .i64 m), (.int .u64 m2)] (List.map M_deed_Mark_int.pv m4) = some [(.int .i64 n3)] from by first | (simp only [M_deed_Mark_int.set, M_int_int.set, M_deed_Mark_int.get, M_int_int.get, h1, Option.map_some, Option.map_none]; done) | (simp only [M_deed_Mark_int.set, M_int_int.set, M_deed_Mark_int.get, M_int_int.get, h1, Option.map_some, Option.map_none]; rfl) | (rw [← List.map_nil]; simp only [M_deed_Mark_int.set, M_int_int.set, M_deed_Mark_int.get, M_int_int.get, h1, Option.map_some, Option.map_none]; rfl)) <| tE (.el [(.int .i64 n3)]) <| tN
  exact runs_of (C := cfg) (objs := [[(.pv (.int .i64 n)), (.pv (.int .u64 n2)), (.pv (.recs 5 (List.map E_deed_Gift.pv r) false)), (.mp 1), (.mp 2)], [(.maph (.int .i64) false (List.map M_int_int.pv m3) [])], [(.maph (.st [.i64, .u64]) false (List.map M_deed_Mark_int.pv m4) [])]]) (sc := t_.ev) (.k1 t_.pf (by kernel_rfl) (by kernel_rfl))
 | none =>
  simp only [h1] at h
  have h := some_of h
  subst h
  have t_ := tT (rfl : true = true) <| tF (show kget [(.int .i64 m), (.int .u64 m2)] (List.map M_deed_Mark_int.pv m4) = none from by first | (simp only [M_deed_Mark_int.set, M_int_int.set, M_deed_Mark_int.get, M_int_int.get, h1, Option.map_some, Option.map_none]; done) | (simp only [M_deed_Mark_int.set, M_int_int.set, M_deed_Mark_int.get, M_int_int.get, h1, Option.map_some, Option.map_none]; rfl) | (rw [← List.map_nil]; simp only [M_deed_Mark_int.set, M_int_int.set, M_deed_Mark_int.get, M_int_int.get, h1, Option.map_some, Option.map_none]; rfl)) <| tN
  exact runs_of (C := cfg) (objs := [[(.pv (.int .i64 n)), (.pv (.int .u64 n2)), (.pv (.recs 5 (List.map E_deed_Gift.pv r) false)), (.mp 1), (.mp 2)], [(.maph (.int .i64) false (List.map M_int_int.pv m3) [])], [(.maph (.st [.i64, .u64]) false (List.map M_deed_Mark_int.pv m4) [])]]) (sc := t_.ev) (.k1 t_.pf (by kernel_rfl) (by kernel_rfl))
noncomputable def deed_Deeds_Take_2 (g : Int) (g2 : Int) (g3 : Int) (g4 : Bool) (g5 : T_id_halves) (n : Int) (n2 : Int) (r : List E_deed_Gift) (m : List (Int × Int)) (m2 : List ((Int × Int) × Int)) : Option (Int × List ((Int × Int) × Int)) :=
 (deed_Gift_Right g g2 g3 g4 g5).bind fun b =>
 bif b then
  bif (decide ((g3 : Int) = n)) then
   (deed_Deeds_Took_2 g2 g n n2 r m m2).bind fun b2 =>
   bif b2 then
    some (14, m2)
   else
    match (mget (g2, g) m2) with
    | .some n3 =>
     some (0, (mset (g2, g) (iadd .i64 n3 1) (mset (g2, g) n3 m2)))
    | .none =>
     some (0, (mset (g2, g) 1 (mset (g2, g) 0 m2)))
  else
   some (1, m2)
 else
  some (1, m2)
theorem deed_Deeds_Take_2_runs (g : Int) (g2 : Int) (g3 : Int) (g4 : Bool) (g5 : T_id_halves) (n : Int) (n2 : Int) (r : List E_deed_Gift) (m : List (Int × Int)) (m2 : List ((Int × Int) × Int)) (r_ : Int × List ((Int × Int) × Int)) (h : deed_Deeds_Take_2 g g2 g3 g4 g5 n n2 r m m2 = some r_) : Runs Tryz.prog 19 [(.one (.ref 0 0)), (.agg [(.pv (.int .u64 g)), (.pv (.int .i64 g2)), (.pv (.int .i64 g3)), (.pv (.bool g4)), (.pv (T_id_halves.pv g5))])] [[(.pv (.int .i64 n)), (.pv (.int .u64 n2)), (.pv (.recs 5 (List.map E_deed_Gift.pv r) false)), (.mp 1), (.mp 2)], [(.maph (.int .i64) false (List.map M_int_int.pv m) [])], [(.maph (.st [.i64, .u64]) false (List.map M_deed_Mark_int.pv m2) [])]] [] (deed_Deeds_Take_2_out g g2 g3 g4 g5 n n2 r m m2 r_) := by
 unfold deed_Deeds_Take_2 at h
 obtain ⟨b, h1, h⟩ := bind_of h
 rcases cond_of h with ⟨h2, h⟩ | ⟨h2, h⟩
 ·rcases cond_of h with ⟨h3, h⟩ | ⟨h3, h⟩
  ·obtain ⟨b2, h4, h⟩ := bind_of h
   rcases cond_of h with ⟨h5, h⟩ | ⟨h5, h⟩
   ·have h := some_of h
    subst h
    have t_ := tF (rfl : false = false) <| tR (deed_Gift_Right_runs g g2 g3 g4 g5 _ h1) <| tF (not_of2 h2) <| tF (not_of2 h3) <| tR (deed_Deeds_Took_2_runs g2 g n n2 r m m2 _ h4) <| tT h5 <| tN
    exact runs_of (C := cfg) (objs := [[(.pv (.int .i64 n)), (.pv (.int .u64 n2)), (.pv (.recs 5 (List.map E_deed_Gift.pv r) false)), (.mp 1), (.mp 2)], [(.maph (.int .i64) false (List.map M_int_int.pv m) [])], [(.maph (.st [.i64, .u64]) false (List.map M_deed_Mark_int.pv m2) [])]]) (sc := t_.ev) (.k1 t_.pf (by kernel_rfl) (by kernel_rfl))
   ·cases h6 : (mget (g2, g) m2) with
    | some n3 =>
     simp only [h6] at h
     have h := some_of h
     subst h
     have t_ := tF (rfl : false = false) <| tR (deed_Gift_Right_runs g g2 g3 g4 g5 _ h1) <| tF (not_of2 h2) <| tF (not_of2 h3) <| tR (deed_Deeds_Took_2_runs g2 g n n2 r m m2 _ h4) <| tF h5 <| tT (show kget [(.int .i64 g2), (.int .u64 g)] (List.map M_deed_Mark_int.pv m2) = some [(.int .i64 n3)] from by first | (simp only [M_deed_Mark_int.set, M_int_int.set, M_deed_Mark_int.get, M_int_int.get, h6, Option.map_some, Option.map_none]; done) | (simp only [M_deed_Mark_int.set, M_int_int.set, M_deed_Mark_int.get, M_int_int.get, h6, Option.map_some, Option.map_none]; rfl) | (rw [← List.map_nil]; simp only [M_deed_Mark_int.set, M_int_int.set, M_deed_Mark_int.get, M_int_int.get, h6, Option.map_some, Option.map_none]; rfl)) <| tE (.el [(.int .i64 n3)]) <| tT (show kget [(.int .i64 g2), (.int .u64 g)] (List.map M_deed_Mark_int.pv m2) = some [(.int .i64 n3)] from by first | (simp only [M_deed_Mark_int.set, M_int_int.set, M_deed_Mark_int.get, M_int_int.get, h6, Option.map_some, Option.map_none]; done) | (simp only [M_deed_Mark_int.set, M_int_int.set, M_deed_Mark_int.get, M_int_int.get, h6, Option.map_some, Option.map_none]; rfl) | (rw [← List.map_nil]; simp only [M_deed_Mark_int.set, M_int_int.set, M_deed_Mark_int.get, M_int_int.get, h6, Option.map_some, Option.map_none]; rfl)) <| tE (.el [(.int .i64 n3)]) <| tT (show kget [(.int .i64 g2), (.int .u64 g)] (List.map M_deed_Mark_int.pv m2) = some [(.int .i64 n3)] from by first | (simp only [M_deed_Mark_int.set, M_int_int.set, M_deed_Mark_int.get, M_int_int.get, h6, Option.map_some, Option.map_none]; done) | (simp only [M_deed_Mark_int.set, M_int_int.set, M_deed_Mark_int.get, M_int_int.get, h6, Option.map_some, Option.map_none]; rfl) | (rw [← List.map_nil]; simp only [M_deed_Mark_int.set, M_int_int.set, M_deed_Mark_int.get, M_int_int.get, h6, Option.map_some, Option.map_none]; rfl)) <| tE (.el [(.int .i64 n3)]) <| tT (show kget [(.int .i64 g2), (.int .u64 g)] (kset [(.int .i64 g2), (.int .u64 g)] [(.int .i64 n3)] (List.map M_deed_Mark_int.pv m2)) = some [(.int .i64 n3)] from by exact kget_kset (by simp [keq]) _ _) <| tE (.el [(.int .i64 n3)]) <| tN
     have e_ : Runs Tryz.prog 19 [(.one (.ref 0 0)), (.agg [(.pv (.int .u64 g)), (.pv (.int .i64 g2)), (.pv (.int .i64 g3)), (.pv (.bool g4)), (.pv (T_id_halves.pv g5))])] [[(.pv (.int .i64 n)), (.pv (.int .u64 n2)), (.pv (.recs 5 (List.map E_deed_Gift.pv r) false)), (.mp 1), (.mp 2)], [(.maph (.int .i64) false (List.map M_int_int.pv m) [])], [(.maph (.st [.i64, .u64]) false (List.map M_deed_Mark_int.pv m2) [])]] [] ([(.one (.pv (.int .i64 0)))], [[(.pv (.int .i64 n)), (.pv (.int .u64 n2)), (.pv (.recs 5 (List.map E_deed_Gift.pv r) false)), (.mp 1), (.mp 2)], [(.maph (.int .i64) false (List.map M_int_int.pv m) [])], [(.maph (.st [.i64, .u64]) false (kset [(.int .i64 g2), (.int .u64 g)] [(.int .i64 (iadd .i64 n3 1))] (kset [(.int .i64 g2), (.int .u64 g)] [(.int .i64 n3)] (List.map M_deed_Mark_int.pv m2))) [])]], []) := runs_of (C := cfg) (objs := [[(.pv (.int .i64 n)), (.pv (.int .u64 n2)), (.pv (.recs 5 (List.map E_deed_Gift.pv r) false)), (.mp 1), (.mp 2)], [(.maph (.int .i64) false (List.map M_int_int.pv m) [])], [(.maph (.st [.i64, .u64]) false (List.map M_deed_Mark_int.pv m2) [])]]) (sc := t_.ev) (.k1 t_.pf (by kernel_rfl) (by kernel_rfl))
     exact e_.out ⟨.eq rfl, trivial⟩ ⟨⟨.eq rfl, .eq rfl, .eq rfl, .eq rfl, .eq rfl, trivial⟩, ⟨.eq rfl, trivial⟩, ⟨.maph (WkEs.to (WkEs.set (.cons (.eq rfl) (.nil)) (WkEs.set (.cons (.eq rfl) (.nil)) (WkEs.refl _))) (by first | rfl | (simp only [M_deed_Mark_int.set, M_int_int.set]; done) | (simp only [M_deed_Mark_int.set, M_int_int.set, kset, kdel]; rfl))), trivial⟩, trivial⟩ trivial rfl
    | none =>
     simp only [h6] at h
     have h := some_of h
     subst h
     have t_ := tF (rfl : false = false) <| tR (deed_Gift_Right_runs g g2 g3 g4 g5 _ h1) <| tF (not_of2 h2) <| tF (not_of2 h3) <| tR (deed_Deeds_Took_2_runs g2 g n n2 r m m2 _ h4) <| tF h5 <| tF (show kget [(.int .i64 g2), (.int .u64 g)] (List.map M_deed_Mark_int.pv m2) = none from by first | (simp only [M_deed_Mark_int.set, M_int_int.set, M_deed_Mark_int.get, M_int_int.get, h6, Option.map_some, Option.map_none]; done) | (simp only [M_deed_Mark_int.set, M_int_int.set, M_deed_Mark_int.get, M_int_int.get, h6, Option.map_some, Option.map_none]; rfl) | (rw [← List.map_nil]; simp only [M_deed_Mark_int.set, M_int_int.set, M_deed_Mark_int.get, M_int_int.get, h6, Option.map_some, Option.map_none]; rfl)) <| tF (show kget [(.int .i64 g2), (.int .u64 g)] (List.map M_deed_Mark_int.pv m2) = none from by first | (simp only [M_deed_Mark_int.set, M_int_int.set, M_deed_Mark_int.get, M_int_int.get, h6, Option.map_some, Option.map_none]; done) | (simp only [M_deed_Mark_int.set, M_int_int.set, M_deed_Mark_int.get, M_int_int.get, h6, Option.map_some, Option.map_none]; rfl) | (rw [← List.map_nil]; simp only [M_deed_Mark_int.set, M_int_int.set, M_deed_Mark_int.get, M_int_int.get, h6, Option.map_some, Option.map_none]; rfl)) <| tF (show kget [(.int .i64 g2), (.int .u64 g)] (List.map M_deed_Mark_int.pv m2) = none from by first | (simp only [M_deed_Mark_int.set, M_int_int.set, M_deed_Mark_int.get, M_int_int.get, h6, Option.map_some, Option.map_none]; done) | (simp only [M_deed_Mark_int.set, M_int_int.set, M_deed_Mark_int.get, M_int_int.get, h6, Option.map_some, Option.map_none]; rfl) | (rw [← List.map_nil]; simp only [M_deed_Mark_int.set, M_int_int.set, M_deed_Mark_int.get, M_int_int.get, h6, Option.map_some, Option.map_none]; rfl)) <| tT (show kget [(.int .i64 g2), (.int .u64 g)] (kset [(.int .i64 g2), (.int .u64 g)] [(.int .i64 0)] (List.map M_deed_Mark_int.pv m2)) = some [(.int .i64 0)] from by exact kget_kset (by simp [keq]) _ _) <| tE (.el [(.int .i64 0)]) <| tN
     have e_ : Runs Tryz.prog 19 [(.one (.ref 0 0)), (.agg [(.pv (.int .u64 g)), (.pv (.int .i64 g2)), (.pv (.int .i64 g3)), (.pv (.bool g4)), (.pv (T_id_halves.pv g5))])] [[(.pv (.int .i64 n)), (.pv (.int .u64 n2)), (.pv (.recs 5 (List.map E_deed_Gift.pv r) false)), (.mp 1), (.mp 2)], [(.maph (.int .i64) false (List.map M_int_int.pv m) [])], [(.maph (.st [.i64, .u64]) false (List.map M_deed_Mark_int.pv m2) [])]] [] ([(.one (.pv (.int .i64 0)))], [[(.pv (.int .i64 n)), (.pv (.int .u64 n2)), (.pv (.recs 5 (List.map E_deed_Gift.pv r) false)), (.mp 1), (.mp 2)], [(.maph (.int .i64) false (List.map M_int_int.pv m) [])], [(.maph (.st [.i64, .u64]) false (kset [(.int .i64 g2), (.int .u64 g)] [(.int .i64 1)] (kset [(.int .i64 g2), (.int .u64 g)] [(.int .i64 0)] (List.map M_deed_Mark_int.pv m2))) [])]], []) := runs_of (C := cfg) (objs := [[(.pv (.int .i64 n)), (.pv (.int .u64 n2)), (.pv (.recs 5 (List.map E_deed_Gift.pv r) false)), (.mp 1), (.mp 2)], [(.maph (.int .i64) false (List.map M_int_int.pv m) [])], [(.maph (.st [.i64, .u64]) false (List.map M_deed_Mark_int.pv m2) [])]]) (sc := t_.ev) (.k1 t_.pf (by kernel_rfl) (by kernel_rfl))
     exact e_.out ⟨.eq rfl, trivial⟩ ⟨⟨.eq rfl, .eq rfl, .eq rfl, .eq rfl, .eq rfl, trivial⟩, ⟨.eq rfl, trivial⟩, ⟨.maph (WkEs.to (WkEs.set (.cons (.eq rfl) (.nil)) (WkEs.set (.cons (.eq rfl) (.nil)) (WkEs.refl _))) (by first | rfl | (simp only [M_deed_Mark_int.set, M_int_int.set]; done) | (simp only [M_deed_Mark_int.set, M_int_int.set, kset, kdel]; rfl))), trivial⟩, trivial⟩ trivial rfl
  ·have h := some_of h
   subst h
   have t_ := tF (rfl : false = false) <| tR (deed_Gift_Right_runs g g2 g3 g4 g5 _ h1) <| tF (not_of2 h2) <| tT (not_of h3) <| tN
   exact runs_of (C := cfg) (objs := [[(.pv (.int .i64 n)), (.pv (.int .u64 n2)), (.pv (.recs 5 (List.map E_deed_Gift.pv r) false)), (.mp 1), (.mp 2)], [(.maph (.int .i64) false (List.map M_int_int.pv m) [])], [(.maph (.st [.i64, .u64]) false (List.map M_deed_Mark_int.pv m2) [])]]) (sc := t_.ev) (.k1 t_.pf (by kernel_rfl) (by kernel_rfl))
 ·have h := some_of h
  subst h
  have t_ := tF (rfl : false = false) <| tR (deed_Gift_Right_runs g g2 g3 g4 g5 _ h1) <| tT (not_of h2) <| tT (rfl : true = true) <| tN
  exact runs_of (C := cfg) (objs := [[(.pv (.int .i64 n)), (.pv (.int .u64 n2)), (.pv (.recs 5 (List.map E_deed_Gift.pv r) false)), (.mp 1), (.mp 2)], [(.maph (.int .i64) false (List.map M_int_int.pv m) [])], [(.maph (.st [.i64, .u64]) false (List.map M_deed_Mark_int.pv m2) [])]]) (sc := t_.ev) (.k1 t_.pf (by kernel_rfl) (by kernel_rfl))
def deed_Deeds_Give_2_out (to : Int) (share : Bool) (share2 : T_id_halves) (n : Int) (n2 : Int) (r : List E_deed_Gift) (m : List (Int × Int)) (m2 : List ((Int × Int) × Int)) : Int × Int × Int × Bool × T_id_halves × Int × Int × List E_deed_Gift × List (Int × Int) → Res
 | (r1, r2, r3, r4, r5, r6, r7, r8, r9) => ([(.agg [(.pv (.int .u64 r1)), (.pv (.int .i64 r2)), (.pv (.int .i64 r3)), (.pv (.bool r4)), (.pv (T_id_halves.pv r5))]), (.one (.pv (.int .i64 r6)))], [[(.pv (.int .i64 n)), (.pv (.int .u64 r7)), (.pv (.recs 5 (List.map E_deed_Gift.pv r8) false)), (.mp 1), (.mp 2)], [(.maph (.int .i64) false (List.map M_int_int.pv r9) [])], [(.maph (.st [.i64, .u64]) false (List.map M_deed_Mark_int.pv m2) [])]], [])
def deed_Deeds_Last_2_out (n : Int) (n2 : Int) (r : List E_deed_Gift) (m : List (Int × Int)) (m2 : List ((Int × Int) × Int)) : Unit → Res
 | _ => ([(.one (.pv (.int .u64 n2)))], [[(.pv (.int .i64 n)), (.pv (.int .u64 n2)), (.pv (.recs 5 (List.map E_deed_Gift.pv r) false)), (.mp 1), (.mp 2)], [(.maph (.int .i64) false (List.map M_int_int.pv m) [])], [(.maph (.st [.i64, .u64]) false (List.map M_deed_Mark_int.pv m2) [])]], [])
noncomputable def deed_Deeds_Last_2 (n : Int) (n2 : Int) (r : List E_deed_Gift) (m : List (Int × Int)) (m2 : List ((Int × Int) × Int)) : Option (Unit) :=
 some ()
theorem deed_Deeds_Last_2_runs (n : Int) (n2 : Int) (r : List E_deed_Gift) (m : List (Int × Int)) (m2 : List ((Int × Int) × Int)) (r_ : Unit) (h : deed_Deeds_Last_2 n n2 r m m2 = some r_) : Runs Tryz.prog 23 [(.one (.ref 0 0))] [[(.pv (.int .i64 n)), (.pv (.int .u64 n2)), (.pv (.recs 5 (List.map E_deed_Gift.pv r) false)), (.mp 1), (.mp 2)], [(.maph (.int .i64) false (List.map M_int_int.pv m) [])], [(.maph (.st [.i64, .u64]) false (List.map M_deed_Mark_int.pv m2) [])]] [] (deed_Deeds_Last_2_out n n2 r m m2 r_) := by
 unfold deed_Deeds_Last_2 at h
 have h := some_of h
 subst h
 have t_ := tF (rfl : false = false) <| tN
 exact runs_of (C := cfg) (objs := [[(.pv (.int .i64 n)), (.pv (.int .u64 n2)), (.pv (.recs 5 (List.map E_deed_Gift.pv r) false)), (.mp 1), (.mp 2)], [(.maph (.int .i64) false (List.map M_int_int.pv m) [])], [(.maph (.st [.i64, .u64]) false (List.map M_deed_Mark_int.pv m2) [])]]) (sc := t_.ev) (.k0 t_.pf (by kernel_rfl))
def deed_Deeds_Self_2_out (n : Int) (n2 : Int) (r : List E_deed_Gift) (m : List (Int × Int)) (m2 : List ((Int × Int) × Int)) : Unit → Res
 | _ => ([(.one (.pv (.int .i64 n)))], [[(.pv (.int .i64 n)), (.pv (.int .u64 n2)), (.pv (.recs 5 (List.map E_deed_Gift.pv r) false)), (.mp 1), (.mp 2)], [(.maph (.int .i64) false (List.map M_int_int.pv m) [])], [(.maph (.st [.i64, .u64]) false (List.map M_deed_Mark_int.pv m2) [])]], [])
noncomputable def deed_Deeds_Self_2 (n : Int) (n2 : Int) (r : List E_deed_Gift) (m : List (Int × Int)) (m2 : List ((Int × Int) × Int)) : Option (Unit) :=
 some ()
theorem deed_Deeds_Self_2_runs (n : Int) (n2 : Int) (r : List E_deed_Gift) (m : List (Int × Int)) (m2 : List ((Int × Int) × Int)) (r_ : Unit) (h : deed_Deeds_Self_2 n n2 r m m2 = some r_) : Runs Tryz.prog 22 [(.one (.ref 0 0))] [[(.pv (.int .i64 n)), (.pv (.int .u64 n2)), (.pv (.recs 5 (List.map E_deed_Gift.pv r) false)), (.mp 1), (.mp 2)], [(.maph (.int .i64) false (List.map M_int_int.pv m) [])], [(.maph (.st [.i64, .u64]) false (List.map M_deed_Mark_int.pv m2) [])]] [] (deed_Deeds_Self_2_out n n2 r m m2 r_) := by
 unfold deed_Deeds_Self_2 at h
 have h := some_of h
 subst h
 have t_ := tF (rfl : false = false) <| tN
 exact runs_of (C := cfg) (objs := [[(.pv (.int .i64 n)), (.pv (.int .u64 n2)), (.pv (.recs 5 (List.map E_deed_Gift.pv r) false)), (.mp 1), (.mp 2)], [(.maph (.int .i64) false (List.map M_int_int.pv m) [])], [(.maph (.st [.i64, .u64]) false (List.map M_deed_Mark_int.pv m2) [])]]) (sc := t_.ev) (.k0 t_.pf (by kernel_rfl))
def deed_Deeds_To_2_out (to : Int) (n : Int) (n2 : Int) (r : List E_deed_Gift) (m : List (Int × Int)) (m2 : List ((Int × Int) × Int)) : Int × Int × Int × Bool × T_id_halves × Bool → Res
 | (r1, r2, r3, r4, r5, r6) => ([(.agg [(.pv (.int .u64 r1)), (.pv (.int .i64 r2)), (.pv (.int .i64 r3)), (.pv (.bool r4)), (.pv (T_id_halves.pv r5))]), (.one (.pv (.bool r6)))], [[(.pv (.int .i64 n)), (.pv (.int .u64 n2)), (.pv (.recs 5 (List.map E_deed_Gift.pv r) false)), (.mp 1), (.mp 2)], [(.maph (.int .i64) false (List.map M_int_int.pv m) [])], [(.maph (.st [.i64, .u64]) false (List.map M_deed_Mark_int.pv m2) [])]], [])
def deed_Deeds_To_L0_2_st (to : Int) (n : Int) (n2 : Int) (n3 : Int) (r : List E_deed_Gift) (m : List (Int × Int)) (m2 : List ((Int × Int) × Int)) (r2 : List E_deed_Gift) : Int → St
 | n4 => ⟨[(1, (.av (.one (.pv (.int .i64 to))))), (4, (.av (.one (.ref 3 0)))), (9, (.av (.one (.own 0 0 ((List.map E_deed_Gift.pv r2)).length false)))), (10, (.av (.one (.pv (.int .i64 n))))), (11, (.av (.one (.pv (.int .i64 n4)))))], [(0, [(.pv (.int .i64 n2)), (.pv (.int .u64 n3)), (.pv (.recs 5 (List.map E_deed_Gift.pv r) false)), (.mp 1), (.mp 2)]), (1, [(.maph (.int .i64) false (List.map M_int_int.pv m) [])]), (2, [(.maph (.st [.i64, .u64]) false (List.map M_deed_Mark_int.pv m2) [])]), (3, [(.pv (.int .u64 0)), (.pv (.int .i64 0)), (.pv (.int .i64 0)), (.pv (.bool false)), (.pv (T_id_halves.pv T_id_halves.nil))])], [(0, (.live (.recs 5 (List.map E_deed_Gift.pv r2))))]⟩
def deed_Deeds_To_L0_2_ex (to : Int) (n : Int) (n2 : Int) (n3 : Int) (r : List E_deed_Gift) (m : List (Int × Int)) (m2 : List ((Int × Int) × Int)) (r2 : List E_deed_Gift) : (Int × Int × Int × Bool × T_id_halves) ⊕ (Unit) → Ex × St
 | .inl (r1, r3, r4, r5, r6) => (.ret, ⟨[(4, (.av (.one (.ref 3 0)))), (5, (.av (.one (.pv (.bool true)))))], [(0, [(.pv (.int .i64 n2)), (.pv (.int .u64 n3)), (.pv (.recs 5 (List.map E_deed_Gift.pv r) false)), (.mp 1), (.mp 2)]), (1, [(.maph (.int .i64) false (List.map M_int_int.pv m) [])]), (2, [(.maph (.st [.i64, .u64]) false (List.map M_deed_Mark_int.pv m2) [])]), (3, [(.pv (.int .u64 r1)), (.pv (.int .i64 r3)), (.pv (.int .i64 r4)), (.pv (.bool r5)), (.pv (T_id_halves.pv r6))])], []⟩)
 | .inr _ => ((.exit 0), ⟨[(4, (.av (.one (.ref 3 0))))], [(0, [(.pv (.int .i64 n2)), (.pv (.int .u64 n3)), (.pv (.recs 5 (List.map E_deed_Gift.pv r) false)), (.mp 1), (.mp 2)]), (1, [(.maph (.int .i64) false (List.map M_int_int.pv m) [])]), (2, [(.maph (.st [.i64, .u64]) false (List.map M_deed_Mark_int.pv m2) [])]), (3, [(.pv (.int .u64 0)), (.pv (.int .i64 0)), (.pv (.int .i64 0)), (.pv (.bool false)), (.pv (T_id_halves.pv T_id_halves.nil))])], [(0, (.live (.recs 5 (List.map E_deed_Gift.pv r2))))]⟩)
noncomputable def deed_Deeds_To_L0_2_step (to : Int) (n : Int) (n2 : Int) (n3 : Int) (r : List E_deed_Gift) (m : List (Int × Int)) (m2 : List ((Int × Int) × Int)) (r2 : List E_deed_Gift) : Int → Option ((Int) ⊕ ((Int × Int × Int × Bool × T_id_halves) ⊕ (Unit)))
 | n4 =>
 bif (decide ((n4 : Int) < n)) then
  bif decide ((0 : Int) ≤ n4) && decide ((n4 : Int) < (((List.map E_deed_Gift.pv r2)).length : Int)) then
  (r2[(0 + (n4).toNat)]?).bind fun e_ => match e_ with
  | .mk n5 n6 n7 b t =>
  bif (decide ((n7 : Int) = to)) then
   some (.inr (.inl (n5, n6, n7, b, t)))
  else
   some (.inl (iadd .i64 n4 1))
  else none
 else
  some (.inr (.inr ()))
theorem deed_Deeds_To_L0_2_ok (to : Int) (n : Int) (n2 : Int) (n3 : Int) (r : List E_deed_Gift) (m : List (Int × Int)) (m2 : List ((Int × Int) × Int)) (r2 : List E_deed_Gift) (n4 : Int) (z_ : (Int) ⊕ ((Int × Int × Int × Bool × T_id_halves) ⊕ (Unit))) (h : deed_Deeds_To_L0_2_step to n n2 n3 r m m2 r2 n4 = some z_) : RoundOk Tryz.prog cfg 17 3 (loopAt Tryz.prog 17 0) (deed_Deeds_To_L0_2_st to n n2 n3 r m m2 r2) (deed_Deeds_To_L0_2_ex to n n2 n3 r m m2 r2) n4 z_ := by
 rcases cond_of h with ⟨h1, h⟩ | ⟨h1, h⟩
 ·obtain ⟨h2, h⟩ := need_of h
  obtain ⟨⟨n5, n6, n7, b, t⟩, h3, h⟩ := bind_of h
  rcases cond_of h with ⟨h4, h⟩ | ⟨h4, h⟩
  ·have h := some_of h
   subst h
   have t_ := tT h1 <| tO h2 <| tE (.el [(.int .u64 n5), (.int .i64 n6), (.int .i64 n7), (.bool b), (T_id_halves.pv t)]) <| tO (el_of (f := E_deed_Gift.pv) h3) <| tT h4 <| tN
   exact ⟨t_.ev, (deed_Deeds_To_L0_2_ex to n n2 n3 r m m2 r2 (.inl (n5, n6, n7, b, t))).2, .k0 t_.pf (by kernel_rfl), .same (by kernel_rfl)⟩
  ·have h := some_of h
   subst h
   have t_ := tT h1 <| tO h2 <| tE (.el [(.int .u64 n5), (.int .i64 n6), (.int .i64 n7), (.bool b), (T_id_halves.pv t)]) <| tO (el_of (f := E_deed_Gift.pv) h3) <| tF h4 <| tN
   exact ⟨t_.ev, deed_Deeds_To_L0_2_st to n n2 n3 r m m2 r2 (iadd .i64 n4 1), .k0 t_.pf (by kernel_rfl), .same (by kernel_rfl)⟩
 ·have h := some_of h
  subst h
  have t_ := tF h1 <| tN
  exact ⟨t_.ev, ⟨[(12, (.av (.one (.pv (.bool false))))), (1, (.av (.one (.pv (.int .i64 to))))), (4, (.av (.one (.ref 3 0)))), (9, (.av (.one (.own 0 0 ((List.map E_deed_Gift.pv r2)).length false)))), (10, (.av (.one (.pv (.int .i64 n))))), (11, (.av (.one (.pv (.int .i64 n4))))), (12, (.av (.one (.pv (.bool (decide ((n4 : Int) < n)))))))], [(0, [(.pv (.int .i64 n2)), (.pv (.int .u64 n3)), (.pv (.recs 5 (List.map E_deed_Gift.pv r) false)), (.mp 1), (.mp 2)]), (1, [(.maph (.int .i64) false (List.map M_int_int.pv m) [])]), (2, [(.maph (.st [.i64, .u64]) false (List.map M_deed_Mark_int.pv m2) [])]), (3, [(.pv (.int .u64 0)), (.pv (.int .i64 0)), (.pv (.int .i64 0)), (.pv (.bool false)), (.pv (T_id_halves.pv T_id_halves.nil))])], [(0, (.live (.recs 5 (List.map E_deed_Gift.pv r2))))]⟩, .k0 t_.pf (by kernel_rfl), ⟨⟨⟨_, rfl, .eq rfl⟩, trivial⟩, ⟨⟨rfl, ⟨.eq rfl, .eq rfl, .eq rfl, .eq rfl, .eq rfl, trivial⟩⟩, ⟨rfl, ⟨.eq rfl, trivial⟩⟩, ⟨rfl, ⟨.eq rfl, trivial⟩⟩, ⟨rfl, ⟨.eq rfl, .eq rfl, .eq rfl, .eq rfl, .eq rfl, trivial⟩⟩, trivial⟩, ⟨⟨rfl, .eq rfl⟩, trivial⟩⟩⟩
theorem deed_Deeds_To_L0_2_runs (to : Int) (n : Int) (n2 : Int) (n3 : Int) (r : List E_deed_Gift) (m : List (Int × Int)) (m2 : List ((Int × Int) × Int)) (r2 : List E_deed_Gift) (s_ : Int) (r_ : (Int × Int × Int × Bool × T_id_halves) ⊕ (Unit)) (h : runL (deed_Deeds_To_L0_2_step to n n2 n3 r m m2 r2) s_ = some r_) : LRuns Tryz.prog (lEnv Tryz.prog cfg 17 3).nt 3 (.loop (loopAt Tryz.prog 17 0)) (deed_Deeds_To_L0_2_st to n n2 n3 r m m2 r2 s_) (deed_Deeds_To_L0_2_ex to n n2 n3 r m m2 r2 r_).1 (deed_Deeds_To_L0_2_ex to n n2 n3 r m m2 r2 r_).2 :=
 loop_run h (deed_Deeds_To_L0_2_ok to n n2 n3 r m m2 r2) (by intro r_; rcases r_ with ⟨r1, r3, r4, r5, r6⟩ | _ <;> simp [deed_Deeds_To_L0_2_ex])
noncomputable def deed_Deeds_To_2 (to : Int) (n : Int) (n2 : Int) (r : List E_deed_Gift) (m : List (Int × Int)) (m2 : List ((Int × Int) × Int)) : Option (Int × Int × Int × Bool × T_id_halves × Bool) :=
 (deed_Deeds_Pending_2 n n2 r m m2).bind fun _ =>
 (runL (deed_Deeds_To_L0_2_step to (((List.map E_deed_Gift.pv r)).length : Int) n n2 r m m2 r) 0).bind fun z_ => match z_ with
 | .inl (n3, n4, n5, b, t) =>
  some (n3, n4, n5, b, t, true)
 | .inr _ =>
  some (0, 0, 0, false, T_id_halves.nil, false)
theorem deed_Deeds_To_2_runs (to : Int) (n : Int) (n2 : Int) (r : List E_deed_Gift) (m : List (Int × Int)) (m2 : List ((Int × Int) × Int)) (r_ : Int × Int × Int × Bool × T_id_halves × Bool) (h : deed_Deeds_To_2 to n n2 r m m2 = some r_) : Runs Tryz.prog 17 [(.one (.ref 0 0)), (.one (.pv (.int .i64 to)))] [[(.pv (.int .i64 n)), (.pv (.int .u64 n2)), (.pv (.recs 5 (List.map E_deed_Gift.pv r) false)), (.mp 1), (.mp 2)], [(.maph (.int .i64) false (List.map M_int_int.pv m) [])], [(.maph (.st [.i64, .u64]) false (List.map M_deed_Mark_int.pv m2) [])]] [] (deed_Deeds_To_2_out to n n2 r m m2 r_) := by
 unfold deed_Deeds_To_2 at h
 obtain ⟨_, h1, h⟩ := bind_of h
 obtain ⟨z_, h2, h⟩ := bind_of h
 rcases z_ with ⟨n3, n4, n5, b, t⟩ | _
 ·have h := some_of h
  subst h
  have t_ := tR (deed_Deeds_Pending_2_runs n n2 r m m2 _ h1) <| tL (LRuns.coe (s0 := ⟨[(1, (.av (.one (.pv (.int .i64 to))))), (4, (.av (.one (.ref 3 0)))), (9, (.av (.one (.own 0 0 ((List.map E_deed_Gift.pv r)).length false)))), (10, (.av (.one (.pv (.int .i64 (((List.map E_deed_Gift.pv r)).length : Int)))))), (11, (.av (.one (.pv (.int .i64 0)))))], [(0, [(.pv (.int .i64 n)), (.pv (.int .u64 n2)), (.pv (.recs 5 (List.map E_deed_Gift.pv r) false)), (.mp 1), (.mp 2)]), (1, [(.maph (.int .i64) false (List.map M_int_int.pv m) [])]), (2, [(.maph (.st [.i64, .u64]) false (List.map M_deed_Mark_int.pv m2) [])]), (3, [(.pv (.int .u64 0)), (.pv (.int .i64 0)), (.pv (.int .i64 0)), (.pv (.bool false)), (.pv .nilp)])], [(0, (.live (.recs 5 (List.map E_deed_Gift.pv r))))]⟩) (deed_Deeds_To_L0_2_runs to (((List.map E_deed_Gift.pv r)).length : Int) n n2 r m m2 r _ _ h2) ⟨⟨⟨_, rfl, .eq rfl⟩, ⟨_, rfl, .eq rfl⟩, ⟨_, rfl, .eq rfl⟩, ⟨_, rfl, .eq rfl⟩, ⟨_, rfl, .eq rfl⟩, trivial⟩, ⟨⟨rfl, ⟨.eq rfl, .eq rfl, .eq rfl, .eq rfl, .eq rfl, trivial⟩⟩, ⟨rfl, ⟨.eq rfl, trivial⟩⟩, ⟨rfl, ⟨.eq rfl, trivial⟩⟩, ⟨rfl, ⟨.eq rfl, .eq rfl, .eq rfl, .eq rfl, .eq rfl, trivial⟩⟩, trivial⟩, ⟨⟨rfl, .eq rfl⟩, trivial⟩⟩) <| tN
  exact runs_of (C := cfg) (objs := [[(.pv (.int .i64 n)), (.pv (.int .u64 n2)), (.pv (.recs 5 (List.map E_deed_Gift.pv r) false)), (.mp 1), (.mp 2)], [(.maph (.int .i64) false (List.map M_int_int.pv m) [])], [(.maph (.st [.i64, .u64]) false (List.map M_deed_Mark_int.pv m2) [])]]) (sc := t_.ev) (.k0 t_.pf (by kernel_rfl))
 ·have h := some_of h
  subst h
  have t_ := tR (deed_Deeds_Pending_2_runs n n2 r m m2 _ h1) <| tL (LRuns.coe (s0 := ⟨[(1, (.av (.one (.pv (.int .i64 to))))), (4, (.av (.one (.ref 3 0)))), (9, (.av (.one (.own 0 0 ((List.map E_deed_Gift.pv r)).length false)))), (10, (.av (.one (.pv (.int .i64 (((List.map E_deed_Gift.pv r)).length : Int)))))), (11, (.av (.one (.pv (.int .i64 0)))))], [(0, [(.pv (.int .i64 n)), (.pv (.int .u64 n2)), (.pv (.recs 5 (List.map E_deed_Gift.pv r) false)), (.mp 1), (.mp 2)]), (1, [(.maph (.int .i64) false (List.map M_int_int.pv m) [])]), (2, [(.maph (.st [.i64, .u64]) false (List.map M_deed_Mark_int.pv m2) [])]), (3, [(.pv (.int .u64 0)), (.pv (.int .i64 0)), (.pv (.int .i64 0)), (.pv (.bool false)), (.pv .nilp)])], [(0, (.live (.recs 5 (List.map E_deed_Gift.pv r))))]⟩) (deed_Deeds_To_L0_2_runs to (((List.map E_deed_Gift.pv r)).length : Int) n n2 r m m2 r _ _ h2) ⟨⟨⟨_, rfl, .eq rfl⟩, ⟨_, rfl, .eq rfl⟩, ⟨_, rfl, .eq rfl⟩, ⟨_, rfl, .eq rfl⟩, ⟨_, rfl, .eq rfl⟩, trivial⟩, ⟨⟨rfl, ⟨.eq rfl, .eq rfl, .eq rfl, .eq rfl, .eq rfl, trivial⟩⟩, ⟨rfl, ⟨.eq rfl, trivial⟩⟩, ⟨rfl, ⟨.eq rfl, trivial⟩⟩, ⟨rfl, ⟨.eq rfl, .eq rfl, .eq rfl, .eq rfl, .eq rfl, trivial⟩⟩, trivial⟩, ⟨⟨rfl, .eq rfl⟩, trivial⟩⟩) <| tN
  have e_ : Runs Tryz.prog 17 [(.one (.ref 0 0)), (.one (.pv (.int .i64 to)))] [[(.pv (.int .i64 n)), (.pv (.int .u64 n2)), (.pv (.recs 5 (List.map E_deed_Gift.pv r) false)), (.mp 1), (.mp 2)], [(.maph (.int .i64) false (List.map M_int_int.pv m) [])], [(.maph (.st [.i64, .u64]) false (List.map M_deed_Mark_int.pv m2) [])]] [] ([(.agg [(.pv (.int .u64 0)), (.pv (.int .i64 0)), (.pv (.int .i64 0)), (.pv (.bool false)), (.pv .nilp)]), (.one (.pv (.bool false)))], [[(.pv (.int .i64 n)), (.pv (.int .u64 n2)), (.pv (.recs 5 (List.map E_deed_Gift.pv r) false)), (.mp 1), (.mp 2)], [(.maph (.int .i64) false (List.map M_int_int.pv m) [])], [(.maph (.st [.i64, .u64]) false (List.map M_deed_Mark_int.pv m2) [])]], []) := runs_of (C := cfg) (objs := [[(.pv (.int .i64 n)), (.pv (.int .u64 n2)), (.pv (.recs 5 (List.map E_deed_Gift.pv r) false)), (.mp 1), (.mp 2)], [(.maph (.int .i64) false (List.map M_int_int.pv m) [])], [(.maph (.st [.i64, .u64]) false (List.map M_deed_Mark_int.pv m2) [])]]) (sc := t_.ev) (.k0 t_.pf (by kernel_rfl))
  exact e_.out ⟨⟨.eq rfl, .eq rfl, .eq rfl, .eq rfl, .eq rfl, trivial⟩, .eq rfl, trivial⟩ ⟨⟨.eq rfl, .eq rfl, .eq rfl, .eq rfl, .eq rfl, trivial⟩, ⟨.eq rfl, trivial⟩, ⟨.eq rfl, trivial⟩, trivial⟩ trivial rfl
end Go.Proofs.YtjjcmgdgifcmgaaGreat
