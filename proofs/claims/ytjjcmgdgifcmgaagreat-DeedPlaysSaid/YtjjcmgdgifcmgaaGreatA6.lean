/- What functions compute, and that they do. -/
import Derived.Test.YtjjcmgdgifcmgaaGreatA5
set_option linter.unusedVariables false
set_option linter.unusedSimpArgs false
set_option maxRecDepth 100000
namespace Go.Proofs.YtjjcmgdgifcmgaaGreat
open Go.Ev
def kl15_like_L2_st (n : Int) (n2 : Int) (r : List E_deed_Gift) (m : List (Int × Int)) (m2 : List ((Int × Int) × Int)) (n3 : Int) (n4 : Int) (r2 : List E_kr15_Gift) (l : List Int) (r3 : List E_kr15_Mark) : Int → St
 | n5 => ⟨[(0, (.av (.one (.ref 0 0)))), (1, (.av (.one (.ref 3 0)))), (9, (.av (.one (.pv (.int .i64 n5)))))], [(0, [(.pv (.int .i64 n)), (.pv (.int .u64 n2)), (.pv (.recs 5 (List.map E_deed_Gift.pv r) false)), (.mp 1), (.mp 2)]), (1, [(.maph (.int .i64) false (List.map M_int_int.pv m) [])]), (2, [(.maph (.st [.i64, .u64]) false (List.map M_deed_Mark_int.pv m2) [])]), (3, [(.pv (.int .i64 n3)), (.pv (.int .u64 n4)), (.pv (.recs 4 (List.map E_kr15_Gift.pv r2) false)), (.pv (.ints .i64 l false)), (.pv (.recs 2 (List.map E_kr15_Mark.pv r3) false))])], []⟩
def kl15_like_L2_ex (n : Int) (n2 : Int) (r : List E_deed_Gift) (m : List (Int × Int)) (m2 : List ((Int × Int) × Int)) (n3 : Int) (n4 : Int) (r2 : List E_kr15_Gift) (l : List Int) (r3 : List E_kr15_Mark) : (Unit) ⊕ (Unit) → Ex × St
 | .inl _ => (.ret, ⟨[(4, (.av (.one (.pv (.bool false)))))], [(0, [(.pv (.int .i64 n)), (.pv (.int .u64 n2)), (.pv (.recs 5 (List.map E_deed_Gift.pv r) false)), (.mp 1), (.mp 2)]), (1, [(.maph (.int .i64) false (List.map M_int_int.pv m) [])]), (2, [(.maph (.st [.i64, .u64]) false (List.map M_deed_Mark_int.pv m2) [])]), (3, [(.pv (.int .i64 n3)), (.pv (.int .u64 n4)), (.pv (.recs 4 (List.map E_kr15_Gift.pv r2) false)), (.pv (.ints .i64 l false)), (.pv (.recs 2 (List.map E_kr15_Mark.pv r3) false))])], []⟩)
 | .inr _ => ((.exit 4), ⟨[], [(0, [(.pv (.int .i64 n)), (.pv (.int .u64 n2)), (.pv (.recs 5 (List.map E_deed_Gift.pv r) false)), (.mp 1), (.mp 2)]), (1, [(.maph (.int .i64) false (List.map M_int_int.pv m) [])]), (2, [(.maph (.st [.i64, .u64]) false (List.map M_deed_Mark_int.pv m2) [])]), (3, [(.pv (.int .i64 n3)), (.pv (.int .u64 n4)), (.pv (.recs 4 (List.map E_kr15_Gift.pv r2) false)), (.pv (.ints .i64 l false)), (.pv (.recs 2 (List.map E_kr15_Mark.pv r3) false))])], []⟩)
noncomputable def kl15_like_L2_step (N : Nat) (n : Int) (n2 : Int) (r : List E_deed_Gift) (m : List (Int × Int)) (m2 : List ((Int × Int) × Int)) (n3 : Int) (n4 : Int) (r2 : List E_kr15_Gift) (l : List Int) (r3 : List E_kr15_Mark) : Int → Option ((Int) ⊕ ((Unit) ⊕ (Unit)))
 | n5 =>
 bif (decide ((n5 : Int) < 13)) then
  (deed_Deeds_To_2 n5 n n2 r m m2).bind fun (n6, n7, n8, b, t, b2) =>
  (kr15_To_3 n5 n3 n4 r2 l r3).bind fun n9 =>
  (deed_Deeds_Gave n5 n n2 r m m2).bind fun b3 =>
  (kr15_Gave_4 n5 n3 n4 r2 l r3).bind fun b4 =>
  bif (b3 == b4) then
   bif (b2 == (decide ((0 : Int) ≤ n9))) then
    bif b2 then
     bif decide ((0 : Int) ≤ n9) && decide ((n9 : Int) < (((List.map E_kr15_Gift.pv r2)).length : Int)) then
     (r2[(n9).toNat]?).bind fun e_ => match e_ with
     | .mk n10 n11 n12 t2 =>
     (kl15_same N n6 n7 n8 b t n10 n11 n12 t2).bind fun b5 =>
     bif b5 then
      some (.inl (iadd .i64 n5 1))
     else
      some (.inr (.inl ()))
     else none
    else
     bif (decide ((n6 : Int) = 0)) then
      some (.inl (iadd .i64 n5 1))
     else
      some (.inr (.inl ()))
   else
    some (.inr (.inl ()))
  else
   some (.inr (.inl ()))
 else
  some (.inr (.inr ()))
theorem kl15_like_L2_ok (N : Nat) (n : Int) (n2 : Int) (r : List E_deed_Gift) (m : List (Int × Int)) (m2 : List ((Int × Int) × Int)) (n3 : Int) (n4 : Int) (r2 : List E_kr15_Gift) (l : List Int) (r3 : List E_kr15_Mark) (n5 : Int) (z_ : (Int) ⊕ ((Unit) ⊕ (Unit))) (h : kl15_like_L2_step N n n2 r m m2 n3 n4 r2 l r3 n5 = some z_) : RoundOk Tryz.prog cfg 10 4 (loopAt Tryz.prog 10 2) (kl15_like_L2_st n n2 r m m2 n3 n4 r2 l r3) (kl15_like_L2_ex n n2 r m m2 n3 n4 r2 l r3) n5 z_ := by
 rcases cond_of h with ⟨h1, h⟩ | ⟨h1, h⟩
 ·obtain ⟨⟨n6, n7, n8, b, t, b2⟩, h2, h⟩ := bind_of h
  obtain ⟨n9, h3, h⟩ := bind_of h
  obtain ⟨b3, h4, h⟩ := bind_of h
  obtain ⟨b4, h5, h⟩ := bind_of h
  have q_5 := (kr15_Gave_4_runs n5 n3 n4 r2 l r3 _ h5)
  rcases cond_of h with ⟨h6, h⟩ | ⟨h6, h⟩
  ·rcases cond_of h with ⟨h7, h⟩ | ⟨h7, h⟩
   ·rcases cond_of h with ⟨h8, h⟩ | ⟨h8, h⟩
    ·obtain ⟨h9, h⟩ := need_of h
     obtain ⟨⟨n10, n11, n12, t2⟩, h10, h⟩ := bind_of h
     obtain ⟨b5, h11, h⟩ := bind_of h
     have q_11 := (kl15_same_runs N n6 n7 n8 b t n10 n11 n12 t2 _ h11)
     have p11_ := fun {sc_ : List Ev} {Q_ : Prop} (t_ : Tell sc_ Q_) => tT h1 <| tR (deed_Deeds_To_2_runs n5 n n2 r m m2 _ h2) <| tR (kr15_To_3_runs n5 n3 n4 r2 l r3 _ h3) <| tR (deed_Deeds_Gave_runs n5 n n2 r m m2 _ h4) <| tR q_5 <| tF (not_of2 h6) <| tF (not_of2 h7) <| tT h8 <| tO h9 <| tO h9 <| tE (.el [(.int .u64 n10), (.int .i64 n11), (.int .i64 n12), (T_kr01_ID.pv t2)]) <| tO (el_of (f := E_kr15_Gift.pv) h10) <| tE (.el [(.int .u64 n10), (.int .i64 n11), (.int .i64 n12), (T_kr01_ID.pv t2)]) <| tO (el_of (f := E_kr15_Gift.pv) h10) <| tR q_11 <| t_
     rcases cond_of h with ⟨h12, h⟩ | ⟨h12, h⟩
     ·have h := some_of h
      subst h
      have t_ := p11_ <| tF (not_of2 h12) <| tF (not_of2 h8) <| tF (rfl : false = false) <| tN
      exact ⟨t_.ev, kl15_like_L2_st n n2 r m m2 n3 n4 r2 l r3 (iadd .i64 n5 1), .k1 t_.pf (by kernel_rfl) (by kernel_rfl), .same (by kernel_rfl)⟩
     ·have h := some_of h
      subst h
      have t_ := p11_ <| tT (not_of h12) <| tT (rfl : true = true) <| tN
      exact ⟨t_.ev, (kl15_like_L2_ex n n2 r m m2 n3 n4 r2 l r3 (.inl ())).2, .k1 t_.pf (by kernel_rfl) (by kernel_rfl), .same (by kernel_rfl)⟩
    ·rcases cond_of h with ⟨h9, h⟩ | ⟨h9, h⟩
     ·have h := some_of h
      subst h
      have t_ := tT h1 <| tR (deed_Deeds_To_2_runs n5 n n2 r m m2 _ h2) <| tR (kr15_To_3_runs n5 n3 n4 r2 l r3 _ h3) <| tR (deed_Deeds_Gave_runs n5 n n2 r m m2 _ h4) <| tR q_5 <| tF (not_of2 h6) <| tF (not_of2 h7) <| tF h8 <| tF (rfl : false = false) <| tT (not_of h8) <| tF (not_of2 h9) <| tN
      exact ⟨t_.ev, kl15_like_L2_st n n2 r m m2 n3 n4 r2 l r3 (iadd .i64 n5 1), .k1 t_.pf (by kernel_rfl) (by kernel_rfl), .same (by kernel_rfl)⟩
     ·have h := some_of h
      subst h
      have t_ := tT h1 <| tR (deed_Deeds_To_2_runs n5 n n2 r m m2 _ h2) <| tR (kr15_To_3_runs n5 n3 n4 r2 l r3 _ h3) <| tR (deed_Deeds_Gave_runs n5 n n2 r m m2 _ h4) <| tR q_5 <| tF (not_of2 h6) <| tF (not_of2 h7) <| tF h8 <| tF (rfl : false = false) <| tT (not_of h8) <| tT (not_of h9) <| tN
      exact ⟨t_.ev, (kl15_like_L2_ex n n2 r m m2 n3 n4 r2 l r3 (.inl ())).2, .k1 t_.pf (by kernel_rfl) (by kernel_rfl), .same (by kernel_rfl)⟩
   ·have h := some_of h
    subst h
    have t_ := tT h1 <| tR (deed_Deeds_To_2_runs n5 n n2 r m m2 _ h2) <| tR (kr15_To_3_runs n5 n3 n4 r2 l r3 _ h3) <| tR (deed_Deeds_Gave_runs n5 n n2 r m m2 _ h4) <| tR q_5 <| tF (not_of2 h6) <| tT (not_of h7) <| tT (rfl : true = true) <| tT (rfl : true = true) <| tN
    exact ⟨t_.ev, (kl15_like_L2_ex n n2 r m m2 n3 n4 r2 l r3 (.inl ())).2, .k1 t_.pf (by kernel_rfl) (by kernel_rfl), .same (by kernel_rfl)⟩
  ·have h := some_of h
   subst h
   have t_ := tT h1 <| tR (deed_Deeds_To_2_runs n5 n n2 r m m2 _ h2) <| tR (kr15_To_3_runs n5 n3 n4 r2 l r3 _ h3) <| tR (deed_Deeds_Gave_runs n5 n n2 r m m2 _ h4) <| tR q_5 <| tT (not_of h6) <| tT (rfl : true = true) <| tT (rfl : true = true) <| tT (rfl : true = true) <| tN
   exact ⟨t_.ev, (kl15_like_L2_ex n n2 r m m2 n3 n4 r2 l r3 (.inl ())).2, .k1 t_.pf (by kernel_rfl) (by kernel_rfl), .same (by kernel_rfl)⟩
 ·have h := some_of h
  subst h
  have t_ := tF h1 <| tN
  exact ⟨t_.ev, ⟨[(108, (.av (.one (.pv (.bool false))))), (0, (.av (.one (.ref 0 0)))), (1, (.av (.one (.ref 3 0)))), (9, (.av (.one (.pv (.int .i64 n5))))), (108, (.av (.one (.pv (.bool (decide ((n5 : Int) < 13)))))))], [(0, [(.pv (.int .i64 n)), (.pv (.int .u64 n2)), (.pv (.recs 5 (List.map E_deed_Gift.pv r) false)), (.mp 1), (.mp 2)]), (1, [(.maph (.int .i64) false (List.map M_int_int.pv m) [])]), (2, [(.maph (.st [.i64, .u64]) false (List.map M_deed_Mark_int.pv m2) [])]), (3, [(.pv (.int .i64 n3)), (.pv (.int .u64 n4)), (.pv (.recs 4 (List.map E_kr15_Gift.pv r2) false)), (.pv (.ints .i64 l false)), (.pv (.recs 2 (List.map E_kr15_Mark.pv r3) false))])], []⟩, .k0 t_.pf (by kernel_rfl), ⟨trivial, ⟨⟨rfl, ⟨.eq rfl, .eq rfl, .eq rfl, .eq rfl, .eq rfl, trivial⟩⟩, ⟨rfl, ⟨.eq rfl, trivial⟩⟩, ⟨rfl, ⟨.eq rfl, trivial⟩⟩, ⟨rfl, ⟨.eq rfl, .eq rfl, .eq rfl, .eq rfl, .eq rfl, trivial⟩⟩, trivial⟩, trivial⟩⟩
theorem kl15_like_L2_runs (N : Nat) (n : Int) (n2 : Int) (r : List E_deed_Gift) (m : List (Int × Int)) (m2 : List ((Int × Int) × Int)) (n3 : Int) (n4 : Int) (r2 : List E_kr15_Gift) (l : List Int) (r3 : List E_kr15_Mark) (s_ : Int) (r_ : (Unit) ⊕ (Unit)) (h : runL (kl15_like_L2_step N n n2 r m m2 n3 n4 r2 l r3) s_ = some r_) : LRuns Tryz.prog (lEnv Tryz.prog cfg 10 4).nt 4 (.loop (loopAt Tryz.prog 10 2)) (kl15_like_L2_st n n2 r m m2 n3 n4 r2 l r3 s_) (kl15_like_L2_ex n n2 r m m2 n3 n4 r2 l r3 r_).1 (kl15_like_L2_ex n n2 r m m2 n3 n4 r2 l r3 r_).2 :=
 loop_run h (kl15_like_L2_ok N n n2 r m m2 n3 n4 r2 l r3) (by intro r_; rcases r_ with _ | _ <;> simp [kl15_like_L2_ex])
noncomputable def kl15_like (N : Nat) (n : Int) (n2 : Int) (r : List E_deed_Gift) (m : List (Int × Int)) (m2 : List ((Int × Int) × Int)) (n3 : Int) (n4 : Int) (r2 : List E_kr15_Gift) (l : List Int) (r3 : List E_kr15_Mark) : Option (Bool) :=
 (deed_Deeds_Pending_2 n n2 r m m2).bind fun _ =>
 (deed_Deeds_Marks n n2 r m m2).bind fun r4 =>
 (deed_Deeds_Self_2 n n2 r m m2).bind fun _ =>
 bif (decide ((n : Int) = n3)) then
  (deed_Deeds_Last_2 n n2 r m m2).bind fun _ =>
  bif (decide ((n2 : Int) = n4)) then
   bif (decide (((((List.map E_deed_Gift.pv r)).length : Int) : Int) = (((List.map E_kr15_Gift.pv r2)).length : Int))) then
    bif (decide (((((List.map E_deed_Mark.pv r4)).length : Int) : Int) = (((List.map E_kr15_Mark.pv r3)).length : Int))) then
     (deed_Deeds_Bytes N n n2 r m m2).bind fun l_ =>
     (kr15_Bytes N n3 n4 r2 l r3).bind fun l_2 =>
     (kr06_Same l_ l_2).bind fun b =>
     bif b then
      (runL (kl15_like_L0_step N (((List.map E_deed_Gift.pv r)).length : Int) n n2 r m m2 n3 n4 r2 l r3 r r4) 0).bind fun z_ => match z_ with
      | .inl _ =>
       some false
      | .inr _ =>
       (runL (kl15_like_L1_step (((List.map E_deed_Mark.pv r4)).length : Int) n n2 r m m2 n3 n4 r2 l r3 r4) 0).bind fun z_ => match z_ with
       | .inl _ =>
        some false
       | .inr _ =>
        (runL (kl15_like_L2_step N n n2 r m m2 n3 n4 r2 l r3) (-1)).bind fun z_ => match z_ with
        | .inl _ =>
         some false
        | .inr _ =>
         some true
     else
      some false
    else
     some false
   else
    some false
  else
   some false
 else
  some false
theorem kl15_like_runs (N : Nat) (n : Int) (n2 : Int) (r : List E_deed_Gift) (m : List (Int × Int)) (m2 : List ((Int × Int) × Int)) (n3 : Int) (n4 : Int) (r2 : List E_kr15_Gift) (l : List Int) (r3 : List E_kr15_Mark) (r_ : Bool) (h : kl15_like N n n2 r m m2 n3 n4 r2 l r3 = some r_) : Runs Tryz.prog 10 [(.one (.ref 0 0)), (.one (.ref 3 0))] [[(.pv (.int .i64 n)), (.pv (.int .u64 n2)), (.pv (.recs 5 (List.map E_deed_Gift.pv r) false)), (.mp 1), (.mp 2)], [(.maph (.int .i64) false (List.map M_int_int.pv m) [])], [(.maph (.st [.i64, .u64]) false (List.map M_deed_Mark_int.pv m2) [])], [(.pv (.int .i64 n3)), (.pv (.int .u64 n4)), (.pv (.recs 4 (List.map E_kr15_Gift.pv r2) false)), (.pv (.ints .i64 l false)), (.pv (.recs 2 (List.map E_kr15_Mark.pv r3) false))]] [] (kl15_like_out n n2 r m m2 n3 n4 r2 l r3 r_) := by
 unfold kl15_like at h
 obtain ⟨_, h1, h⟩ := bind_of h
 obtain ⟨r4, h2, h⟩ := bind_of h
 obtain ⟨_, h3, h⟩ := bind_of h
 rcases cond_of h with ⟨h4, h⟩ | ⟨h4, h⟩
 ·obtain ⟨_, h5, h⟩ := bind_of h
  have p5_ := fun {sc_ : List Ev} {Q_ : Prop} (t_ : Tell sc_ Q_) => tR (deed_Deeds_Pending_2_runs n n2 r m m2 _ h1) <| tR (deed_Deeds_Marks_runs n n2 r m m2 _ h2) <| tR (deed_Deeds_Self_2_runs n n2 r m m2 _ h3) <| tR (deed_Deeds_Self_2_runs n n2 r m m2 _ h3) <| tF (not_of2 h4) <| tR (deed_Deeds_Last_2_runs n n2 r m m2 _ h5) <| tR (deed_Deeds_Last_2_runs n n2 r m m2 _ h5) <| t_
  rcases cond_of h with ⟨h6, h⟩ | ⟨h6, h⟩
  ·rcases cond_of h with ⟨h7, h⟩ | ⟨h7, h⟩
   ·rcases cond_of h with ⟨h8, h⟩ | ⟨h8, h⟩
    ·obtain ⟨l_, h9, h⟩ := bind_of h
     obtain ⟨l_2, h10, h⟩ := bind_of h
     obtain ⟨b, h11, h⟩ := bind_of h
     have q_11 := (Runs.coe (as' := [(.one (.pv (.ints .u8 (List.take (l_).length l_) false))), (.one (.pv (.ints .u8 (List.take (l_2).length l_2) false)))]) (objs' := []) (rows' := []) (kr06_Same_runs l_ l_2 _ h11) ⟨.pv (.ints (by first | rfl | (simp only [List.take_length]; done) | (simp; done) | (simp only [List.map_take, List.map_drop, List.map_append, List.take_length, List.nil_append]; done) | (simp only [List.length_map, List.take_length, List.length_append, List.drop_zero, List.map_append, List.map_take, List.map_drop, List.map_replicate, List.map_cons, List.map_nil, List.append_nil, List.nil_append]; done))), .pv (.ints (by first | rfl | (simp only [List.take_length]; done) | (simp; done) | (simp only [List.map_take, List.map_drop, List.map_append, List.take_length, List.nil_append]; done) | (simp only [List.length_map, List.take_length, List.length_append, List.drop_zero, List.map_append, List.map_take, List.map_drop, List.map_replicate, List.map_cons, List.map_nil, List.append_nil, List.nil_append]; done))), trivial⟩ trivial trivial)
     rcases cond_of h with ⟨h12, h⟩ | ⟨h12, h⟩
     ·obtain ⟨z_, h13, h⟩ := bind_of h
      rcases z_ with _ | _
      ·have h := some_of h
       subst h
       have t_ := p5_ <| tF (not_of2 h6) <| tF (not_of2 h7) <| tF (not_of2 h8) <| tR (deed_Deeds_Bytes_runs N n n2 r m m2 _ h9) <| tR (kr15_Bytes_runs N n3 n4 r2 l r3 _ h10) <| tR q_11 <| tF (not_of2 h12) <| tL (kl15_like_L0_runs N (((List.map E_deed_Gift.pv r)).length : Int) n n2 r m m2 n3 n4 r2 l r3 r r4 _ _ h13) <| tN
       exact runs_of (C := cfg) (objs := [[(.pv (.int .i64 n)), (.pv (.int .u64 n2)), (.pv (.recs 5 (List.map E_deed_Gift.pv r) false)), (.mp 1), (.mp 2)], [(.maph (.int .i64) false (List.map M_int_int.pv m) [])], [(.maph (.st [.i64, .u64]) false (List.map M_deed_Mark_int.pv m2) [])], [(.pv (.int .i64 n3)), (.pv (.int .u64 n4)), (.pv (.recs 4 (List.map E_kr15_Gift.pv r2) false)), (.pv (.ints .i64 l false)), (.pv (.recs 2 (List.map E_kr15_Mark.pv r3) false))]]) (sc := t_.ev) (.k1 t_.pf (by kernel_rfl) (by kernel_rfl))
      ·have q_13 := (kl15_like_L0_runs N (((List.map E_deed_Gift.pv r)).length : Int) n n2 r m m2 n3 n4 r2 l r3 r r4 _ _ h13)
       obtain ⟨z_, h14, h⟩ := bind_of h
       rcases z_ with _ | _
       ·have h := some_of h
        subst h
        have t_ := p5_ <| tF (not_of2 h6) <| tF (not_of2 h7) <| tF (not_of2 h8) <| tR (deed_Deeds_Bytes_runs N n n2 r m m2 _ h9) <| tR (kr15_Bytes_runs N n3 n4 r2 l r3 _ h10) <| tR q_11 <| tF (not_of2 h12) <| tL q_13 <| tL (kl15_like_L1_runs (((List.map E_deed_Mark.pv r4)).length : Int) n n2 r m m2 n3 n4 r2 l r3 r4 _ _ h14) <| tN
        exact runs_of (C := cfg) (objs := [[(.pv (.int .i64 n)), (.pv (.int .u64 n2)), (.pv (.recs 5 (List.map E_deed_Gift.pv r) false)), (.mp 1), (.mp 2)], [(.maph (.int .i64) false (List.map M_int_int.pv m) [])], [(.maph (.st [.i64, .u64]) false (List.map M_deed_Mark_int.pv m2) [])], [(.pv (.int .i64 n3)), (.pv (.int .u64 n4)), (.pv (.recs 4 (List.map E_kr15_Gift.pv r2) false)), (.pv (.ints .i64 l false)), (.pv (.recs 2 (List.map E_kr15_Mark.pv r3) false))]]) (sc := t_.ev) (.k1 t_.pf (by kernel_rfl) (by kernel_rfl))
       ·have q_14 := (kl15_like_L1_runs (((List.map E_deed_Mark.pv r4)).length : Int) n n2 r m m2 n3 n4 r2 l r3 r4 _ _ h14)
        obtain ⟨z_, h15, h⟩ := bind_of h
        rcases z_ with _ | _
        ·have h := some_of h
         subst h
         have t_ := p5_ <| tF (not_of2 h6) <| tF (not_of2 h7) <| tF (not_of2 h8) <| tR (deed_Deeds_Bytes_runs N n n2 r m m2 _ h9) <| tR (kr15_Bytes_runs N n3 n4 r2 l r3 _ h10) <| tR q_11 <| tF (not_of2 h12) <| tL q_13 <| tL q_14 <| tL (kl15_like_L2_runs N n n2 r m m2 n3 n4 r2 l r3 _ _ h15) <| tN
         exact runs_of (C := cfg) (objs := [[(.pv (.int .i64 n)), (.pv (.int .u64 n2)), (.pv (.recs 5 (List.map E_deed_Gift.pv r) false)), (.mp 1), (.mp 2)], [(.maph (.int .i64) false (List.map M_int_int.pv m) [])], [(.maph (.st [.i64, .u64]) false (List.map M_deed_Mark_int.pv m2) [])], [(.pv (.int .i64 n3)), (.pv (.int .u64 n4)), (.pv (.recs 4 (List.map E_kr15_Gift.pv r2) false)), (.pv (.ints .i64 l false)), (.pv (.recs 2 (List.map E_kr15_Mark.pv r3) false))]]) (sc := t_.ev) (.k1 t_.pf (by kernel_rfl) (by kernel_rfl))
        ·have h := some_of h
         subst h
         have t_ := p5_ <| tF (not_of2 h6) <| tF (not_of2 h7) <| tF (not_of2 h8) <| tR (deed_Deeds_Bytes_runs N n n2 r m m2 _ h9) <| tR (kr15_Bytes_runs N n3 n4 r2 l r3 _ h10) <| tR q_11 <| tF (not_of2 h12) <| tL q_13 <| tL q_14 <| tL (kl15_like_L2_runs N n n2 r m m2 n3 n4 r2 l r3 _ _ h15) <| tN
         exact runs_of (C := cfg) (objs := [[(.pv (.int .i64 n)), (.pv (.int .u64 n2)), (.pv (.recs 5 (List.map E_deed_Gift.pv r) false)), (.mp 1), (.mp 2)], [(.maph (.int .i64) false (List.map M_int_int.pv m) [])], [(.maph (.st [.i64, .u64]) false (List.map M_deed_Mark_int.pv m2) [])], [(.pv (.int .i64 n3)), (.pv (.int .u64 n4)), (.pv (.recs 4 (List.map E_kr15_Gift.pv r2) false)), (.pv (.ints .i64 l false)), (.pv (.recs 2 (List.map E_kr15_Mark.pv r3) false))]]) (sc := t_.ev) (.k1 t_.pf (by kernel_rfl) (by kernel_rfl))
     ·have h := some_of h
      subst h
      have t_ := p5_ <| tF (not_of2 h6) <| tF (not_of2 h7) <| tF (not_of2 h8) <| tR (deed_Deeds_Bytes_runs N n n2 r m m2 _ h9) <| tR (kr15_Bytes_runs N n3 n4 r2 l r3 _ h10) <| tR q_11 <| tT (not_of h12) <| tN
      exact runs_of (C := cfg) (objs := [[(.pv (.int .i64 n)), (.pv (.int .u64 n2)), (.pv (.recs 5 (List.map E_deed_Gift.pv r) false)), (.mp 1), (.mp 2)], [(.maph (.int .i64) false (List.map M_int_int.pv m) [])], [(.maph (.st [.i64, .u64]) false (List.map M_deed_Mark_int.pv m2) [])], [(.pv (.int .i64 n3)), (.pv (.int .u64 n4)), (.pv (.recs 4 (List.map E_kr15_Gift.pv r2) false)), (.pv (.ints .i64 l false)), (.pv (.recs 2 (List.map E_kr15_Mark.pv r3) false))]]) (sc := t_.ev) (.k1 t_.pf (by kernel_rfl) (by kernel_rfl))
    ·have h := some_of h
     subst h
     have t_ := p5_ <| tF (not_of2 h6) <| tF (not_of2 h7) <| tT (not_of h8) <| tT (rfl : true = true) <| tN
     exact runs_of (C := cfg) (objs := [[(.pv (.int .i64 n)), (.pv (.int .u64 n2)), (.pv (.recs 5 (List.map E_deed_Gift.pv r) false)), (.mp 1), (.mp 2)], [(.maph (.int .i64) false (List.map M_int_int.pv m) [])], [(.maph (.st [.i64, .u64]) false (List.map M_deed_Mark_int.pv m2) [])], [(.pv (.int .i64 n3)), (.pv (.int .u64 n4)), (.pv (.recs 4 (List.map E_kr15_Gift.pv r2) false)), (.pv (.ints .i64 l false)), (.pv (.recs 2 (List.map E_kr15_Mark.pv r3) false))]]) (sc := t_.ev) (.k1 t_.pf (by kernel_rfl) (by kernel_rfl))
   ·have h := some_of h
    subst h
    have t_ := p5_ <| tF (not_of2 h6) <| tT (not_of h7) <| tT (rfl : true = true) <| tT (rfl : true = true) <| tN
    exact runs_of (C := cfg) (objs := [[(.pv (.int .i64 n)), (.pv (.int .u64 n2)), (.pv (.recs 5 (List.map E_deed_Gift.pv r) false)), (.mp 1), (.mp 2)], [(.maph (.int .i64) false (List.map M_int_int.pv m) [])], [(.maph (.st [.i64, .u64]) false (List.map M_deed_Mark_int.pv m2) [])], [(.pv (.int .i64 n3)), (.pv (.int .u64 n4)), (.pv (.recs 4 (List.map E_kr15_Gift.pv r2) false)), (.pv (.ints .i64 l false)), (.pv (.recs 2 (List.map E_kr15_Mark.pv r3) false))]]) (sc := t_.ev) (.k1 t_.pf (by kernel_rfl) (by kernel_rfl))
  ·have h := some_of h
   subst h
   have t_ := p5_ <| tT (not_of h6) <| tT (rfl : true = true) <| tT (rfl : true = true) <| tT (rfl : true = true) <| tN
   exact runs_of (C := cfg) (objs := [[(.pv (.int .i64 n)), (.pv (.int .u64 n2)), (.pv (.recs 5 (List.map E_deed_Gift.pv r) false)), (.mp 1), (.mp 2)], [(.maph (.int .i64) false (List.map M_int_int.pv m) [])], [(.maph (.st [.i64, .u64]) false (List.map M_deed_Mark_int.pv m2) [])], [(.pv (.int .i64 n3)), (.pv (.int .u64 n4)), (.pv (.recs 4 (List.map E_kr15_Gift.pv r2) false)), (.pv (.ints .i64 l false)), (.pv (.recs 2 (List.map E_kr15_Mark.pv r3) false))]]) (sc := t_.ev) (.k1 t_.pf (by kernel_rfl) (by kernel_rfl))
 ·have h := some_of h
  subst h
  have t_ := tR (deed_Deeds_Pending_2_runs n n2 r m m2 _ h1) <| tR (deed_Deeds_Marks_runs n n2 r m m2 _ h2) <| tR (deed_Deeds_Self_2_runs n n2 r m m2 _ h3) <| tR (deed_Deeds_Self_2_runs n n2 r m m2 _ h3) <| tT (not_of h4) <| tT (rfl : true = true) <| tT (rfl : true = true) <| tT (rfl : true = true) <| tT (rfl : true = true) <| tN
  exact runs_of (C := cfg) (objs := [[(.pv (.int .i64 n)), (.pv (.int .u64 n2)), (.pv (.recs 5 (List.map E_deed_Gift.pv r) false)), (.mp 1), (.mp 2)], [(.maph (.int .i64) false (List.map M_int_int.pv m) [])], [(.maph (.st [.i64, .u64]) false (List.map M_deed_Mark_int.pv m2) [])], [(.pv (.int .i64 n3)), (.pv (.int .u64 n4)), (.pv (.recs 4 (List.map E_kr15_Gift.pv r2) false)), (.pv (.ints .i64 l false)), (.pv (.recs 2 (List.map E_kr15_Mark.pv r3) false))]]) (sc := t_.ev) (.k1 t_.pf (by kernel_rfl) (by kernel_rfl))
noncomputable def kl15_DeedPlays (N : Nat) (self : Int) (acts : List E_kl15_Act) : Option (Bool) :=
 (kl15_awake).bind fun b =>
 bif b then
  (deed_New (IntKind.i64.wrap (irem .u8 self 12))).bind fun _ =>
  (runL (kl15_DeedPlays_L0_4_step N acts (((List.map E_kl15_Act.pv acts)).length : Int) (IntKind.i64.wrap (irem .u8 self 12)) (IntKind.i64.wrap (irem .u8 self 12))) (0, 0, [], [], [], 0, [], [], [])).bind fun z_ => match z_ with
  | .inl (n, r, m_, m_2, n2, r2, l_, r3, n3, n4, n5, n6, l_2) =>
   (kl15_like N (IntKind.i64.wrap (irem .u8 self 12)) n r m_ m_2 (IntKind.i64.wrap (irem .u8 self 12)) n2 r2 l_ r3).bind fun b2 =>
   some b2
  | .inr (.inl _) =>
   some false
  | .inr (.inr (n, r, m_, m_2, n2, r2, l_, r3)) =>
   (kl15_like N (IntKind.i64.wrap (irem .u8 self 12)) n r m_ m_2 (IntKind.i64.wrap (irem .u8 self 12)) n2 r2 l_ r3).bind fun b2 =>
   some b2
 else
  some false
theorem kl15_DeedPlays_runs (N : Nat) (self : Int) (acts : List E_kl15_Act) (r_ : Bool) (h : kl15_DeedPlays N self acts = some r_) : Runs Tryz.prog 3 [(.one (.pv (.int .u8 self))), (.one (.pv (.recs 5 (List.map E_kl15_Act.pv acts) false)))] [] [] (kl15_DeedPlays_out self acts r_) := by
 unfold kl15_DeedPlays at h
 obtain ⟨b, h1, h⟩ := bind_of h
 rcases cond_of h with ⟨h2, h⟩ | ⟨h2, h⟩
 ·obtain ⟨_, h3, h⟩ := bind_of h
  have q_3 := (deed_New_runs (IntKind.i64.wrap (irem .u8 self 12)) _ h3)
  obtain ⟨z_, h4, h⟩ := bind_of h
  rcases z_ with ⟨n, r, m_, m_2, n2, r2, l_, r3, n3, n4, n5, n6, l_2⟩ | (_ | ⟨n, r, m_, m_2, n2, r2, l_, r3⟩)
  ·obtain ⟨b2, h5, h⟩ := bind_of h
   have h := some_of h
   subst h
   have t_ := tR (kl15_awake_runs _ h1) <| tF (not_of2 h2) <| tO (rfl : true = true) <| tR q_3 <| tL (LRuns.coe (s0 := ⟨[(6, (.av (.one (.ref 0 0)))), (7, (.av (.one (.ref 3 0)))), (20, (.av (.one (.pv (.recs 5 (List.map E_kl15_Act.pv acts) false))))), (21, (.av (.one (.pv (.int .i64 (((List.map E_kl15_Act.pv acts)).length : Int)))))), (22, (.av (.one (.pv (.int .i64 0)))))], [(0, [(.pv (.int .i64 (IntKind.i64.wrap (irem .u8 self 12)))), (.pv (.int .u64 0)), (.pv (.recs 5 [] false)), (.mp 1), (.mp 2)]), (1, [(.maph (.int .i64) false (List.map M_int_int.pv []) [])]), (2, [(.maph (.st [.i64, .u64]) false (List.map M_deed_Mark_int.pv []) [])]), (3, [(.pv (.int .i64 (IntKind.i64.wrap (irem .u8 self 12)))), (.pv (.int .u64 0)), (.pv (.recs 4 [] false)), (.pv (.ints .i64 [] false)), (.pv (.recs 2 [] false))])], []⟩) (kl15_DeedPlays_L0_4_runs N acts (((List.map E_kl15_Act.pv acts)).length : Int) (IntKind.i64.wrap (irem .u8 self 12)) (IntKind.i64.wrap (irem .u8 self 12)) _ _ h4) ⟨⟨⟨_, rfl, .eq rfl⟩, ⟨_, rfl, .eq rfl⟩, ⟨_, rfl, .eq rfl⟩, ⟨_, rfl, .eq rfl⟩, ⟨_, rfl, .eq rfl⟩, trivial⟩, ⟨⟨rfl, ⟨.eq rfl, .eq rfl, .pv (.recsT (.nil)), .eq rfl, .eq rfl, trivial⟩⟩, ⟨rfl, ⟨.eq rfl, trivial⟩⟩, ⟨rfl, ⟨.eq rfl, trivial⟩⟩, ⟨rfl, ⟨.eq rfl, .eq rfl, .pv (.recsT (.nil)), .eq rfl, .pv (.recsT (.nil)), trivial⟩⟩, trivial⟩, trivial⟩) <| tR (kl15_like_runs N (IntKind.i64.wrap (irem .u8 self 12)) n r m_ m_2 (IntKind.i64.wrap (irem .u8 self 12)) n2 r2 l_ r3 _ h5) <| tN
   exact runs_of (C := cfg) (objs := []) (sc := t_.ev) (.k0 t_.pf (by kernel_rfl))
  ·have h := some_of h
   subst h
   have t_ := tR (kl15_awake_runs _ h1) <| tF (not_of2 h2) <| tO (rfl : true = true) <| tR q_3 <| tL (LRuns.coe (s0 := ⟨[(6, (.av (.one (.ref 0 0)))), (7, (.av (.one (.ref 3 0)))), (20, (.av (.one (.pv (.recs 5 (List.map E_kl15_Act.pv acts) false))))), (21, (.av (.one (.pv (.int .i64 (((List.map E_kl15_Act.pv acts)).length : Int)))))), (22, (.av (.one (.pv (.int .i64 0)))))], [(0, [(.pv (.int .i64 (IntKind.i64.wrap (irem .u8 self 12)))), (.pv (.int .u64 0)), (.pv (.recs 5 [] false)), (.mp 1), (.mp 2)]), (1, [(.maph (.int .i64) false (List.map M_int_int.pv []) [])]), (2, [(.maph (.st [.i64, .u64]) false (List.map M_deed_Mark_int.pv []) [])]), (3, [(.pv (.int .i64 (IntKind.i64.wrap (irem .u8 self 12)))), (.pv (.int .u64 0)), (.pv (.recs 4 [] false)), (.pv (.ints .i64 [] false)), (.pv (.recs 2 [] false))])], []⟩) (kl15_DeedPlays_L0_4_runs N acts (((List.map E_kl15_Act.pv acts)).length : Int) (IntKind.i64.wrap (irem .u8 self 12)) (IntKind.i64.wrap (irem .u8 self 12)) _ _ h4) ⟨⟨⟨_, rfl, .eq rfl⟩, ⟨_, rfl, .eq rfl⟩, ⟨_, rfl, .eq rfl⟩, ⟨_, rfl, .eq rfl⟩, ⟨_, rfl, .eq rfl⟩, trivial⟩, ⟨⟨rfl, ⟨.eq rfl, .eq rfl, .pv (.recsT (.nil)), .eq rfl, .eq rfl, trivial⟩⟩, ⟨rfl, ⟨.eq rfl, trivial⟩⟩, ⟨rfl, ⟨.eq rfl, trivial⟩⟩, ⟨rfl, ⟨.eq rfl, .eq rfl, .pv (.recsT (.nil)), .eq rfl, .pv (.recsT (.nil)), trivial⟩⟩, trivial⟩, trivial⟩) <| tN
   exact runs_of (C := cfg) (objs := []) (sc := t_.ev) (.k0 t_.pf (by kernel_rfl))
  ·obtain ⟨b2, h5, h⟩ := bind_of h
   have h := some_of h
   subst h
   have t_ := tR (kl15_awake_runs _ h1) <| tF (not_of2 h2) <| tO (rfl : true = true) <| tR q_3 <| tL (LRuns.coe (s0 := ⟨[(6, (.av (.one (.ref 0 0)))), (7, (.av (.one (.ref 3 0)))), (20, (.av (.one (.pv (.recs 5 (List.map E_kl15_Act.pv acts) false))))), (21, (.av (.one (.pv (.int .i64 (((List.map E_kl15_Act.pv acts)).length : Int)))))), (22, (.av (.one (.pv (.int .i64 0)))))], [(0, [(.pv (.int .i64 (IntKind.i64.wrap (irem .u8 self 12)))), (.pv (.int .u64 0)), (.pv (.recs 5 [] false)), (.mp 1), (.mp 2)]), (1, [(.maph (.int .i64) false (List.map M_int_int.pv []) [])]), (2, [(.maph (.st [.i64, .u64]) false (List.map M_deed_Mark_int.pv []) [])]), (3, [(.pv (.int .i64 (IntKind.i64.wrap (irem .u8 self 12)))), (.pv (.int .u64 0)), (.pv (.recs 4 [] false)), (.pv (.ints .i64 [] false)), (.pv (.recs 2 [] false))])], []⟩) (kl15_DeedPlays_L0_4_runs N acts (((List.map E_kl15_Act.pv acts)).length : Int) (IntKind.i64.wrap (irem .u8 self 12)) (IntKind.i64.wrap (irem .u8 self 12)) _ _ h4) ⟨⟨⟨_, rfl, .eq rfl⟩, ⟨_, rfl, .eq rfl⟩, ⟨_, rfl, .eq rfl⟩, ⟨_, rfl, .eq rfl⟩, ⟨_, rfl, .eq rfl⟩, trivial⟩, ⟨⟨rfl, ⟨.eq rfl, .eq rfl, .pv (.recsT (.nil)), .eq rfl, .eq rfl, trivial⟩⟩, ⟨rfl, ⟨.eq rfl, trivial⟩⟩, ⟨rfl, ⟨.eq rfl, trivial⟩⟩, ⟨rfl, ⟨.eq rfl, .eq rfl, .pv (.recsT (.nil)), .eq rfl, .pv (.recsT (.nil)), trivial⟩⟩, trivial⟩, trivial⟩) <| tR (kl15_like_runs N (IntKind.i64.wrap (irem .u8 self 12)) n r m_ m_2 (IntKind.i64.wrap (irem .u8 self 12)) n2 r2 l_ r3 _ h5) <| tN
   exact runs_of (C := cfg) (objs := []) (sc := t_.ev) (.k0 t_.pf (by kernel_rfl))
 ·have h := some_of h
  subst h
  have t_ := tR (kl15_awake_runs _ h1) <| tT (not_of h2) <| tN
  exact runs_of (C := cfg) (objs := []) (sc := t_.ev) (.k0 t_.pf (by kernel_rfl))
def kl15_DeedNil_2_out (self : Int) (acts : List E_kl15_Act) (more : List E_kl15_Act) (share : List Int) : Bool → Res
 | r1 => ([(.one (.pv (.bool r1)))], [], [])
def kl15_DeedNil_C40_ex (self : Int) (more : List E_kl15_Act) (share : List Int) (r : List E_kl15_Act) (n : Int) (n2 : Int) (b : Bool) (n3 : Int) (r2 : List E_deed_Gift) (m : List (Int × Int)) (m2 : List ((Int × Int) × Int)) (n4 : Int) (r3 : List E_kr15_Gift) (l : List Int) (r4 : List E_kr15_Mark) (n5 : Int) (n6 : Int) (n7 : Int) (n8 : Int) (l2 : List Int) : Int × List E_deed_Gift × List (Int × Int) × List ((Int × Int) × Int) × Int × List E_kr15_Gift × List Int × List E_kr15_Mark → Ex × St
 | (r1, r5, r6, r7, r8, r9, r10, r11) => (.normal, ⟨[(0, (.av (.one (.pv (.int .i64 self))))), (2, (.av (.one (.pv (.recs 5 (List.map E_kl15_Act.pv more) false))))), (3, (.av (.one (.pv (.ints .u8 share false))))), (9, (.av (.one (.ref 0 0)))), (10, (.av (.one (.ref 3 0)))), (32, (.av (.one (.pv (.recs 5 (List.map E_kl15_Act.pv r) false))))), (33, (.av (.one (.pv (.int .i64 n))))), (34, (.av (.one (.pv (.int .i64 n2)))))], [(0, [(.pv (.int .i64 3)), (.pv (.int .u64 r1)), (.pv (.recs 5 (List.map E_deed_Gift.pv r5) false)), (.mp 1), (.mp 2)]), (1, [(.maph (.int .i64) false (List.map M_int_int.pv r6) [])]), (2, [(.maph (.st [.i64, .u64]) false (List.map M_deed_Mark_int.pv r7) [])]), (3, [(.pv (.int .i64 3)), (.pv (.int .u64 r8)), (.pv (.recs 4 (List.map E_kr15_Gift.pv r9) false)), (.pv (.ints .i64 r10 false)), (.pv (.recs 2 (List.map E_kr15_Mark.pv r11) false))])], []⟩)
noncomputable def kl15_DeedNil_C40 (N : Nat) (self : Int) (more : List E_kl15_Act) (share : List Int) (r : List E_kl15_Act) (n : Int) (n2 : Int) (b : Bool) (n3 : Int) (r2 : List E_deed_Gift) (m : List (Int × Int)) (m2 : List ((Int × Int) × Int)) (n4 : Int) (r3 : List E_kr15_Gift) (l : List Int) (r4 : List E_kr15_Mark) (n5 : Int) (n6 : Int) (n7 : Int) (n8 : Int) (l2 : List Int) : Option (Int × List E_deed_Gift × List (Int × Int) × List ((Int × Int) × Int) × Int × List E_kr15_Gift × List Int × List E_kr15_Mark) :=
 bif b then
  (kl15_do_4 N n5 n6 n7 n8 l2 3 n3 r2 m m2 3 n4 r3 l r4).bind fun (b2, n9, r5, m_, m_2, n10, r6, l_, r7) =>
  some (n9, r5, m_, m_2, n10, r6, l_, r7)
 else
  some (n3, r2, m, m2, n4, r3, l, r4)
theorem kl15_DeedNil_C40_runs (N : Nat) (self : Int) (more : List E_kl15_Act) (share : List Int) (r : List E_kl15_Act) (n : Int) (n2 : Int) (b : Bool) (n3 : Int) (r2 : List E_deed_Gift) (m : List (Int × Int)) (m2 : List ((Int × Int) × Int)) (n4 : Int) (r3 : List E_kr15_Gift) (l : List Int) (r4 : List E_kr15_Mark) (n5 : Int) (n6 : Int) (n7 : Int) (n8 : Int) (l2 : List Int) (r_ : Int × List E_deed_Gift × List (Int × Int) × List ((Int × Int) × Int) × Int × List E_kr15_Gift × List Int × List E_kr15_Mark) (h : kl15_DeedNil_C40 N self more share r n n2 b n3 r2 m m2 n4 r3 l r4 n5 n6 n7 n8 l2 = some r_) : LRuns Tryz.prog (lEnv Tryz.prog cfg 4 0).nt 0 (.cond (.tmp 40) (condAt Tryz.prog 4 40).1 (condAt Tryz.prog 4 40).2) ⟨[(0, (.av (.one (.pv (.int .i64 self))))), (2, (.av (.one (.pv (.recs 5 (List.map E_kl15_Act.pv more) false))))), (3, (.av (.one (.pv (.ints .u8 share false))))), (9, (.av (.one (.ref 0 0)))), (10, (.av (.one (.ref 3 0)))), (12, (.av (.one (.ref 4 0)))), (32, (.av (.one (.pv (.recs 5 (List.map E_kl15_Act.pv r) false))))), (33, (.av (.one (.pv (.int .i64 n))))), (34, (.av (.one (.pv (.int .i64 n2))))), (40, (.av (.one (.pv (.bool b)))))], [(0, [(.pv (.int .i64 3)), (.pv (.int .u64 n3)), (.pv (.recs 5 (List.map E_deed_Gift.pv r2) false)), (.mp 1), (.mp 2)]), (1, [(.maph (.int .i64) false (List.map M_int_int.pv m) [])]), (2, [(.maph (.st [.i64, .u64]) false (List.map M_deed_Mark_int.pv m2) [])]), (3, [(.pv (.int .i64 3)), (.pv (.int .u64 n4)), (.pv (.recs 4 (List.map E_kr15_Gift.pv r3) false)), (.pv (.ints .i64 l false)), (.pv (.recs 2 (List.map E_kr15_Mark.pv r4) false))]), (4, [(.pv (.int .u8 n5)), (.pv (.int .i64 n6)), (.pv (.int .i64 n7)), (.pv (.int .u64 n8)), (.pv (.ints .u8 l2 false))])], []⟩ (kl15_DeedNil_C40_ex self more share r n n2 b n3 r2 m m2 n4 r3 l r4 n5 n6 n7 n8 l2 r_).1 (kl15_DeedNil_C40_ex self more share r n n2 b n3 r2 m m2 n4 r3 l r4 n5 n6 n7 n8 l2 r_).2 := by
 unfold kl15_DeedNil_C40 at h
 rcases cond_of h with ⟨h1, h⟩ | ⟨h1, h⟩
 ·obtain ⟨⟨b2, n9, r5, m_, m_2, n10, r6, l_, r7⟩, h2, h⟩ := bind_of h
  have h := some_of h
  subst h
  have t_ := tT h1 <| tR (kl15_do_4_runs N n5 n6 n7 n8 l2 3 n3 r2 m m2 3 n4 r3 l r4 _ h2) <| tN
  exact piece_ok (C := cfg) (sc := t_.ev) (.k0 t_.pf (by kernel_rfl))
 ·have h := some_of h
  subst h
  have t_ := tF h1 <| tN
  exact piece_ok (C := cfg) (sc := t_.ev) (.k0 t_.pf (by kernel_rfl))
def kl15_DeedNil_L0_4_st (self : Int) (more : List E_kl15_Act) (share : List Int) (r : List E_kl15_Act) (n : Int) : Int × Int × List E_deed_Gift × List (Int × Int) × List ((Int × Int) × Int) × Int × List E_kr15_Gift × List Int × List E_kr15_Mark → St
 | (n2, n3, r2, m, m2, n4, r3, l, r4) => ⟨[(0, (.av (.one (.pv (.int .i64 self))))), (2, (.av (.one (.pv (.recs 5 (List.map E_kl15_Act.pv more) false))))), (3, (.av (.one (.pv (.ints .u8 share false))))), (9, (.av (.one (.ref 0 0)))), (10, (.av (.one (.ref 3 0)))), (32, (.av (.one (.pv (.recs 5 (List.map E_kl15_Act.pv r) false))))), (33, (.av (.one (.pv (.int .i64 n))))), (34, (.av (.one (.pv (.int .i64 n2)))))], [(0, [(.pv (.int .i64 3)), (.pv (.int .u64 n3)), (.pv (.recs 5 (List.map E_deed_Gift.pv r2) false)), (.mp 1), (.mp 2)]), (1, [(.maph (.int .i64) false (List.map M_int_int.pv m) [])]), (2, [(.maph (.st [.i64, .u64]) false (List.map M_deed_Mark_int.pv m2) [])]), (3, [(.pv (.int .i64 3)), (.pv (.int .u64 n4)), (.pv (.recs 4 (List.map E_kr15_Gift.pv r3) false)), (.pv (.ints .i64 l false)), (.pv (.recs 2 (List.map E_kr15_Mark.pv r4) false))])], []⟩
def kl15_DeedNil_L0_4_ex (self : Int) (more : List E_kl15_Act) (share : List Int) (r : List E_kl15_Act) (n : Int) : Int × List E_deed_Gift × List (Int × Int) × List ((Int × Int) × Int) × Int × List E_kr15_Gift × List Int × List E_kr15_Mark → Ex × St
 | (r1, r2, r3, r4, r5, r6, r7, r8) => ((.exit 0), ⟨[(0, (.av (.one (.pv (.int .i64 self))))), (2, (.av (.one (.pv (.recs 5 (List.map E_kl15_Act.pv more) false))))), (3, (.av (.one (.pv (.ints .u8 share false))))), (9, (.av (.one (.ref 0 0)))), (10, (.av (.one (.ref 3 0))))], [(0, [(.pv (.int .i64 3)), (.pv (.int .u64 r1)), (.pv (.recs 5 (List.map E_deed_Gift.pv r2) false)), (.mp 1), (.mp 2)]), (1, [(.maph (.int .i64) false (List.map M_int_int.pv r3) [])]), (2, [(.maph (.st [.i64, .u64]) false (List.map M_deed_Mark_int.pv r4) [])]), (3, [(.pv (.int .i64 3)), (.pv (.int .u64 r5)), (.pv (.recs 4 (List.map E_kr15_Gift.pv r6) false)), (.pv (.ints .i64 r7 false)), (.pv (.recs 2 (List.map E_kr15_Mark.pv r8) false))])], []⟩)
noncomputable def kl15_DeedNil_L0_4_step (N : Nat) (self : Int) (more : List E_kl15_Act) (share : List Int) (r : List E_kl15_Act) (n : Int) : Int × Int × List E_deed_Gift × List (Int × Int) × List ((Int × Int) × Int) × Int × List E_kr15_Gift × List Int × List E_kr15_Mark → Option ((Int × Int × List E_deed_Gift × List (Int × Int) × List ((Int × Int) × Int) × Int × List E_kr15_Gift × List Int × List E_kr15_Mark) ⊕ (Int × List E_deed_Gift × List (Int × Int) × List ((Int × Int) × Int) × Int × List E_kr15_Gift × List Int × List E_kr15_Mark))
 | (n2, n3, r2, m, m2, n4, r3, l, r4) =>
 bif (decide ((n2 : Int) < n)) then
  bif decide ((0 : Int) ≤ n2) && decide ((n2 : Int) < (((List.map E_kl15_Act.pv r)).length : Int)) then
  (r[(n2).toNat]?).bind fun e_ => match e_ with
  | .mk n5 n6 n7 n8 l_ =>
  (kl15_DeedNil_C40 N self more share r n n2 (decide ((n2 : Int) < 15)) n3 r2 m m2 n4 r3 l r4 n5 n6 n7 n8 l_).bind fun (n9, r5, m_, m_2, n10, r6, l_2, r7) =>
  some (.inl ((iadd .i64 n2 1), n9, r5, m_, m_2, n10, r6, l_2, r7))
  else none
 else
  some (.inr (n3, r2, m, m2, n4, r3, l, r4))
theorem kl15_DeedNil_L0_4_ok (N : Nat) (self : Int) (more : List E_kl15_Act) (share : List Int) (r : List E_kl15_Act) (n : Int) (s_ : Int × Int × List E_deed_Gift × List (Int × Int) × List ((Int × Int) × Int) × Int × List E_kr15_Gift × List Int × List E_kr15_Mark) (z_ : (Int × Int × List E_deed_Gift × List (Int × Int) × List ((Int × Int) × Int) × Int × List E_kr15_Gift × List Int × List E_kr15_Mark) ⊕ (Int × List E_deed_Gift × List (Int × Int) × List ((Int × Int) × Int) × Int × List E_kr15_Gift × List Int × List E_kr15_Mark)) (h : kl15_DeedNil_L0_4_step N self more share r n s_ = some z_) : RoundOk Tryz.prog cfg 4 0 (loopAt Tryz.prog 4 0) (kl15_DeedNil_L0_4_st self more share r n) (kl15_DeedNil_L0_4_ex self more share r n) s_ z_ := by
 rcases s_ with ⟨n2, n3, r2, m, m2, n4, r3, l, r4⟩
 rcases cond_of h with ⟨h1, h⟩ | ⟨h1, h⟩
 ·obtain ⟨h2, h⟩ := need_of h
  obtain ⟨⟨n5, n6, n7, n8, l_⟩, h3, h⟩ := bind_of h
  obtain ⟨⟨n9, r5, m_, m_2, n10, r6, l_2, r7⟩, h4, h⟩ := bind_of h
  have h := some_of h
  subst h
  have t_ := tT h1 <| tO h2 <| tE (.el [(.int .u8 n5), (.int .i64 n6), (.int .i64 n7), (.int .u64 n8), (.ints .u8 l_ false)]) <| tO (el_of (f := E_kl15_Act.pv) h3) <| tL (kl15_DeedNil_C40_runs N self more share r n n2 (decide ((n2 : Int) < 15)) n3 r2 m m2 n4 r3 l r4 n5 n6 n7 n8 l_ _ h4) <| tN
  exact ⟨t_.ev, kl15_DeedNil_L0_4_st self more share r n ((iadd .i64 n2 1), n9, r5, m_, m_2, n10, r6, l_2, r7), .k0 t_.pf (by kernel_rfl), .same (by kernel_rfl)⟩
 ·have h := some_of h
  subst h
  have t_ := tF h1 <| tN
  exact ⟨t_.ev, ⟨[(35, (.av (.one (.pv (.bool false))))), (0, (.av (.one (.pv (.int .i64 self))))), (2, (.av (.one (.pv (.recs 5 (List.map E_kl15_Act.pv more) false))))), (3, (.av (.one (.pv (.ints .u8 share false))))), (9, (.av (.one (.ref 0 0)))), (10, (.av (.one (.ref 3 0)))), (32, (.av (.one (.pv (.recs 5 (List.map E_kl15_Act.pv r) false))))), (33, (.av (.one (.pv (.int .i64 n))))), (34, (.av (.one (.pv (.int .i64 n2))))), (35, (.av (.one (.pv (.bool (decide ((n2 : Int) < n)))))))], [(0, [(.pv (.int .i64 3)), (.pv (.int .u64 n3)), (.pv (.recs 5 (List.map E_deed_Gift.pv r2) false)), (.mp 1), (.mp 2)]), (1, [(.maph (.int .i64) false (List.map M_int_int.pv m) [])]), (2, [(.maph (.st [.i64, .u64]) false (List.map M_deed_Mark_int.pv m2) [])]), (3, [(.pv (.int .i64 3)), (.pv (.int .u64 n4)), (.pv (.recs 4 (List.map E_kr15_Gift.pv r3) false)), (.pv (.ints .i64 l false)), (.pv (.recs 2 (List.map E_kr15_Mark.pv r4) false))])], []⟩, .k0 t_.pf (by kernel_rfl), ⟨⟨⟨_, rfl, .eq rfl⟩, ⟨_, rfl, .eq rfl⟩, ⟨_, rfl, .eq rfl⟩, ⟨_, rfl, .eq rfl⟩, ⟨_, rfl, .eq rfl⟩, trivial⟩, ⟨⟨rfl, ⟨.eq rfl, .eq rfl, .eq rfl, .eq rfl, .eq rfl, trivial⟩⟩, ⟨rfl, ⟨.eq rfl, trivial⟩⟩, ⟨rfl, ⟨.eq rfl, trivial⟩⟩, ⟨rfl, ⟨.eq rfl, .eq rfl, .eq rfl, .eq rfl, .eq rfl, trivial⟩⟩, trivial⟩, trivial⟩⟩
theorem kl15_DeedNil_L0_4_runs (N : Nat) (self : Int) (more : List E_kl15_Act) (share : List Int) (r : List E_kl15_Act) (n : Int) (s_ : Int × Int × List E_deed_Gift × List (Int × Int) × List ((Int × Int) × Int) × Int × List E_kr15_Gift × List Int × List E_kr15_Mark) (r_ : Int × List E_deed_Gift × List (Int × Int) × List ((Int × Int) × Int) × Int × List E_kr15_Gift × List Int × List E_kr15_Mark) (h : runL (kl15_DeedNil_L0_4_step N self more share r n) s_ = some r_) : LRuns Tryz.prog (lEnv Tryz.prog cfg 4 0).nt 0 (.loop (loopAt Tryz.prog 4 0)) (kl15_DeedNil_L0_4_st self more share r n s_) (kl15_DeedNil_L0_4_ex self more share r n r_).1 (kl15_DeedNil_L0_4_ex self more share r n r_).2 :=
 loop_run h (kl15_DeedNil_L0_4_ok N self more share r n) (by intro r_; rcases r_ with ⟨r1, r2, r3, r4, r5, r6, r7, r8⟩ <;> simp [kl15_DeedNil_L0_4_ex])
def deed_Deeds_Copy_out (n : Int) (n2 : Int) (r : List E_deed_Gift) (m : List (Int × Int)) (m2 : List ((Int × Int) × Int)) : Unit → Res
 | _ => ([(.one (.ref 3 0))], [[(.pv (.int .i64 n)), (.pv (.int .u64 n2)), (.pv (.recs 5 (List.map E_deed_Gift.pv r) false)), (.mp 1), (.mp 2)], [(.maph (.int .i64) false (List.map M_int_int.pv m) [])], [(.maph (.st [.i64, .u64]) false (List.map M_deed_Mark_int.pv m2) [])], [(.pv (.int .i64 n)), (.pv (.int .u64 n2)), (.own 0 0 ((List.map E_deed_Gift.pv r)).length false), (.mp 4), (.mp 5)], [(.maph (.int .i64) false (List.map M_int_int.pv m) [])], [(.maph (.st [.i64, .u64]) false (List.map M_deed_Mark_int.pv m2) [])]], [(.recs 5 (List.map E_deed_Gift.pv r))])
noncomputable def deed_Deeds_Copy (n : Int) (n2 : Int) (r : List E_deed_Gift) (m : List (Int × Int)) (m2 : List ((Int × Int) × Int)) : Option (Unit) :=
 (deed_Deeds_Pending_2 n n2 r m m2).bind fun _ =>
 (maps_Clone_gave m).bind fun _ =>
 (maps_Clone_took m2).bind fun _ =>
 some ()
theorem deed_Deeds_Copy_runs (n : Int) (n2 : Int) (r : List E_deed_Gift) (m : List (Int × Int)) (m2 : List ((Int × Int) × Int)) (r_ : Unit) (h : deed_Deeds_Copy n n2 r m m2 = some r_) : Runs Tryz.prog 11 [(.one (.ref 0 0))] [[(.pv (.int .i64 n)), (.pv (.int .u64 n2)), (.pv (.recs 5 (List.map E_deed_Gift.pv r) false)), (.mp 1), (.mp 2)], [(.maph (.int .i64) false (List.map M_int_int.pv m) [])], [(.maph (.st [.i64, .u64]) false (List.map M_deed_Mark_int.pv m2) [])]] [] (deed_Deeds_Copy_out n n2 r m m2 r_) := by
 unfold deed_Deeds_Copy at h
 obtain ⟨_, h1, h⟩ := bind_of h
 obtain ⟨_, h2, h⟩ := bind_of h
 obtain ⟨_, h3, h⟩ := bind_of h
 have h := some_of h
 subst h
 have t_ := tF (rfl : false = false) <| tR (deed_Deeds_Pending_2_runs n n2 r m m2 _ h1) <| tR (deed_Deeds_Pending_2_runs n n2 r m m2 _ h1) <| tR (deed_Deeds_Pending_2_runs n n2 r m m2 _ h1) <| tR (deed_Deeds_Pending_2_runs n n2 r m m2 _ h1) <| tR (deed_Deeds_Pending_2_runs n n2 r m m2 _ h1) <| tR (deed_Deeds_Pending_2_runs n n2 r m m2 _ h1) <| tR (maps_Clone_gave_runs m _ h2) <| tR (deed_Deeds_Pending_2_runs n n2 r m m2 _ h1) <| tR (deed_Deeds_Pending_2_runs n n2 r m m2 _ h1) <| tR (deed_Deeds_Pending_2_runs n n2 r m m2 _ h1) <| tR (deed_Deeds_Pending_2_runs n n2 r m m2 _ h1) <| tR (deed_Deeds_Pending_2_runs n n2 r m m2 _ h1) <| tR (deed_Deeds_Pending_2_runs n n2 r m m2 _ h1) <| tR (deed_Deeds_Pending_2_runs n n2 r m m2 _ h1) <| tR (maps_Clone_gave_runs m _ h2) <| tR (maps_Clone_gave_runs m _ h2) <| tR (maps_Clone_gave_runs m _ h2) <| tR (deed_Deeds_Pending_2_runs n n2 r m m2 _ h1) <| tR (deed_Deeds_Pending_2_runs n n2 r m m2 _ h1) <| tR (maps_Clone_gave_runs m _ h2) <| tR (maps_Clone_took_runs m2 _ h3) <| tR (maps_Clone_gave_runs m _ h2) <| tR (maps_Clone_gave_runs m _ h2) <| tR (deed_Deeds_Pending_2_runs n n2 r m m2 _ h1) <| tR (maps_Clone_took_runs m2 _ h3) <| tR (maps_Clone_took_runs m2 _ h3) <| tR (maps_Clone_gave_runs m _ h2) <| tR (maps_Clone_took_runs m2 _ h3) <| tN
 exact runs_of (C := cfg) (objs := [[(.pv (.int .i64 n)), (.pv (.int .u64 n2)), (.pv (.recs 5 (List.map E_deed_Gift.pv r) false)), (.mp 1), (.mp 2)], [(.maph (.int .i64) false (List.map M_int_int.pv m) [])], [(.maph (.st [.i64, .u64]) false (List.map M_deed_Mark_int.pv m2) [])]]) (sc := t_.ev) (.k1 t_.pf (by kernel_rfl) (by kernel_rfl))
def kr15_Copy_out (n : Int) (n2 : Int) (r : List E_kr15_Gift) (l : List Int) (r2 : List E_kr15_Mark) : Unit → Res
 | _ => ([(.one (.ref 1 0))], [[(.pv (.int .i64 n)), (.pv (.int .u64 n2)), (.pv (.recs 4 (List.map E_kr15_Gift.pv r) false)), (.pv (.ints .i64 l false)), (.pv (.recs 2 (List.map E_kr15_Mark.pv r2) false))], [(.pv (.int .i64 n)), (.pv (.int .u64 n2)), (.pv (.recs 4 (List.map E_kr15_Gift.pv r) false)), (.pv (.ints .i64 l false)), (.pv (.recs 2 (List.map E_kr15_Mark.pv r2) false))]], [])
noncomputable def kr15_Copy (n : Int) (n2 : Int) (r : List E_kr15_Gift) (l : List Int) (r2 : List E_kr15_Mark) : Option (Unit) :=
 some ()
theorem kr15_Copy_runs (n : Int) (n2 : Int) (r : List E_kr15_Gift) (l : List Int) (r2 : List E_kr15_Mark) (r_ : Unit) (h : kr15_Copy n n2 r l r2 = some r_) : Runs Tryz.prog 12 [(.one (.ref 0 0))] [[(.pv (.int .i64 n)), (.pv (.int .u64 n2)), (.pv (.recs 4 (List.map E_kr15_Gift.pv r) false)), (.pv (.ints .i64 l false)), (.pv (.recs 2 (List.map E_kr15_Mark.pv r2) false))]] [] (kr15_Copy_out n n2 r l r2 r_) := by
 unfold kr15_Copy at h
 have h := some_of h
 subst h
 have t_ := tN
 exact runs_of (C := cfg) (objs := [[(.pv (.int .i64 n)), (.pv (.int .u64 n2)), (.pv (.recs 4 (List.map E_kr15_Gift.pv r) false)), (.pv (.ints .i64 l false)), (.pv (.recs 2 (List.map E_kr15_Mark.pv r2) false))]]) (sc := t_.ev) (.k0 t_.pf (by kernel_rfl))
def kl15_do_5_out (a : Int) (a2 : Int) (a3 : Int) (a4 : Int) (a5 : List Int) (n : Int) (n2 : Int) (m : List (Int × Int)) (m2 : List ((Int × Int) × Int)) (n3 : Int) (n4 : Int) (r : List E_kr15_Gift) (l : List Int) (r2 : List E_kr15_Mark) (r3 : List E_deed_Gift) : Bool × Int × List E_deed_Gift × List (Int × Int) × List ((Int × Int) × Int) × Int × List E_kr15_Gift × List Int × List E_kr15_Mark → Res
 | (r1, r4, r5, r6, r7, r8, r9, r10, r11) => ([(.one (.pv (.bool r1)))], [[(.pv (.int .i64 n)), (.pv (.int .u64 r4)), (.pv (.recs 5 (List.map E_deed_Gift.pv r5) false)), (.mp 1), (.mp 2)], [(.maph (.int .i64) false (List.map M_int_int.pv r6) [])], [(.maph (.st [.i64, .u64]) false (List.map M_deed_Mark_int.pv r7) [])], [(.pv (.int .i64 n3)), (.pv (.int .u64 r8)), (.pv (.recs 4 (List.map E_kr15_Gift.pv r9) false)), (.pv (.ints .i64 r10 false)), (.pv (.recs 2 (List.map E_kr15_Mark.pv r11) false))]], [])
def deed_Deeds_Done_3_out (no : Int) (n : Int) (n2 : Int) (m : List (Int × Int)) (m2 : List ((Int × Int) × Int)) (r : List E_deed_Gift) : Int × List E_deed_Gift → Res
 | (r1, r2) => ([(.one (.pv (.int .i64 r1)))], [[(.pv (.int .i64 n)), (.pv (.int .u64 n2)), (.pv (.recs 5 (List.map E_deed_Gift.pv r2) false)), (.mp 1), (.mp 2)], [(.maph (.int .i64) false (List.map M_int_int.pv m) [])], [(.maph (.st [.i64, .u64]) false (List.map M_deed_Mark_int.pv m2) [])]], [])
def deed_Deeds_Pending_3_out (n : Int) (n2 : Int) (m : List (Int × Int)) (m2 : List ((Int × Int) × Int)) (r : List E_deed_Gift) : List E_deed_Gift × List E_deed_Gift → Res
 | (r1, r2) => ([(.one (.own 0 0 ((List.map E_deed_Gift.pv r2)).length false))], [[(.pv (.int .i64 n)), (.pv (.int .u64 n2)), (.pv (.recs 5 (List.map E_deed_Gift.pv r1) false)), (.mp 1), (.mp 2)], [(.maph (.int .i64) false (List.map M_int_int.pv m) [])], [(.maph (.st [.i64, .u64]) false (List.map M_deed_Mark_int.pv m2) [])]], [(.recs 5 (List.map E_deed_Gift.pv r2))])
noncomputable def deed_Deeds_Pending_3 (n : Int) (n2 : Int) (m : List (Int × Int)) (m2 : List ((Int × Int) × Int)) (r : List E_deed_Gift) : Option (List E_deed_Gift × List E_deed_Gift) :=
 (slices_Clone_deed_Gift (List.take ((List.map E_deed_Gift.pv r)).length r)).bind fun _ =>
 some ((List.take ((List.map E_deed_Gift.pv r)).length r), (List.take ((List.map E_deed_Gift.pv r)).length r))
theorem deed_Deeds_Pending_3_runs (n : Int) (n2 : Int) (m : List (Int × Int)) (m2 : List ((Int × Int) × Int)) (r : List E_deed_Gift) (r_ : List E_deed_Gift × List E_deed_Gift) (h : deed_Deeds_Pending_3 n n2 m m2 r = some r_) : Runs Tryz.prog 25 [(.one (.ref 0 0))] [[(.pv (.int .i64 n)), (.pv (.int .u64 n2)), (.own 0 0 ((List.map E_deed_Gift.pv r)).length false), (.mp 1), (.mp 2)], [(.maph (.int .i64) false (List.map M_int_int.pv m) [])], [(.maph (.st [.i64, .u64]) false (List.map M_deed_Mark_int.pv m2) [])]] [(.recs 5 (List.map E_deed_Gift.pv r))] (deed_Deeds_Pending_3_out n n2 m m2 r r_) := by
 unfold deed_Deeds_Pending_3 at h
 obtain ⟨_, h1, h⟩ := bind_of h
 have h := some_of h
 subst h
 have t_ := tF (rfl : false = false) <| tR (Runs.coe (as' := [(.one (.pv (.recs 5 (List.take ((List.map E_deed_Gift.pv r)).length (List.map E_deed_Gift.pv r)) false)))]) (objs' := []) (rows' := []) (slices_Clone_deed_Gift_runs (List.take ((List.map E_deed_Gift.pv r)).length r) _ h1) ⟨.pv (.recsT (.eq (by first | rfl | (simp only [List.take_length]; done) | (simp; done) | (simp only [List.map_take, List.map_drop, List.map_append, List.take_length, List.nil_append]; done) | (simp only [List.length_map, List.take_length, List.length_append, List.drop_zero, List.map_append, List.map_take, List.map_drop, List.map_replicate, List.map_cons, List.map_nil, List.append_nil, List.nil_append]; done)))), trivial⟩ trivial trivial) <| tN
 have e_ : Runs Tryz.prog 25 [(.one (.ref 0 0))] [[(.pv (.int .i64 n)), (.pv (.int .u64 n2)), (.own 0 0 ((List.map E_deed_Gift.pv r)).length false), (.mp 1), (.mp 2)], [(.maph (.int .i64) false (List.map M_int_int.pv m) [])], [(.maph (.st [.i64, .u64]) false (List.map M_deed_Mark_int.pv m2) [])]] [(.recs 5 (List.map E_deed_Gift.pv r))] ([(.one (.own 0 0 ((List.map E_deed_Gift.pv (List.take ((List.map E_deed_Gift.pv r)).length r))).length false))], [[(.pv (.int .i64 n)), (.pv (.int .u64 n2)), (.pv (.recs 5 (List.take ((List.map E_deed_Gift.pv r)).length (List.map E_deed_Gift.pv r)) false)), (.mp 1), (.mp 2)], [(.maph (.int .i64) false (List.map M_int_int.pv m) [])], [(.maph (.st [.i64, .u64]) false (List.map M_deed_Mark_int.pv m2) [])]], [(.recs 5 (List.map E_deed_Gift.pv (List.take ((List.map E_deed_Gift.pv r)).length r)))]) := runs_of (C := cfg) (objs := [[(.pv (.int .i64 n)), (.pv (.int .u64 n2)), (.own 0 0 ((List.map E_deed_Gift.pv r)).length false), (.mp 1), (.mp 2)], [(.maph (.int .i64) false (List.map M_int_int.pv m) [])], [(.maph (.st [.i64, .u64]) false (List.map M_deed_Mark_int.pv m2) [])]]) (sc := t_.ev) (.k0 t_.pf (by kernel_rfl))
 exact e_.out ⟨.eq rfl, trivial⟩ ⟨⟨.eq rfl, .eq rfl, .pv (.recsT (.eq (by first | rfl | (simp only [List.take_length]; done) | (simp; done) | (simp only [List.map_take, List.map_drop, List.map_append, List.take_length, List.nil_append]; done) | (simp only [List.length_map, List.take_length, List.length_append, List.drop_zero, List.map_append, List.map_take, List.map_drop, List.map_replicate, List.map_cons, List.map_nil, List.append_nil, List.nil_append]; done)))), .eq rfl, .eq rfl, trivial⟩, ⟨.eq rfl, trivial⟩, ⟨.eq rfl, trivial⟩, trivial⟩ ⟨.eq rfl, trivial⟩ rfl
noncomputable def deed_Deeds_Done_3 (no : Int) (n : Int) (n2 : Int) (m : List (Int × Int)) (m2 : List ((Int × Int) × Int)) (r : List E_deed_Gift) : Option (Int × List E_deed_Gift) :=
 (deed_Deeds_Pending_3 n n2 m m2 r).bind fun (r2, r3) =>
 (slices_IndexFunc_deed_Gift (List.take ((List.map E_deed_Gift.pv r3)).length r3) no).bind fun n3 =>
 bif (decide ((n3 : Int) < 0)) then
  some (2, r2)
 else
  (deed_Deeds_Pending_2 n n2 r2 m m2).bind fun _ =>
  (slices_Delete_deed_Gift n3 (iadd .i64 n3 1) r2).bind fun (k, r4) =>
  some (0, (List.take k r4))
theorem deed_Deeds_Done_3_runs (no : Int) (n : Int) (n2 : Int) (m : List (Int × Int)) (m2 : List ((Int × Int) × Int)) (r : List E_deed_Gift) (r_ : Int × List E_deed_Gift) (h : deed_Deeds_Done_3 no n n2 m m2 r = some r_) : Runs Tryz.prog 18 [(.one (.ref 0 0)), (.one (.pv (.int .u64 no)))] [[(.pv (.int .i64 n)), (.pv (.int .u64 n2)), (.own 0 0 ((List.map E_deed_Gift.pv r)).length false), (.mp 1), (.mp 2)], [(.maph (.int .i64) false (List.map M_int_int.pv m) [])], [(.maph (.st [.i64, .u64]) false (List.map M_deed_Mark_int.pv m2) [])]] [(.recs 5 (List.map E_deed_Gift.pv r))] (deed_Deeds_Done_3_out no n n2 m m2 r r_) := by
 unfold deed_Deeds_Done_3 at h
 obtain ⟨⟨r2, r3⟩, h1, h⟩ := bind_of h
 obtain ⟨n3, h2, h⟩ := bind_of h
 have q_2 := (Runs.coe (as' := [(.one (.bor (.recs 5 (List.take ((List.map E_deed_Gift.pv r3)).length (List.map E_deed_Gift.pv r3)) false))), (.one (.fn 44 [(.ref 0 0)]))]) (objs' := [[(.pv (.int .u64 no))]]) (rows' := []) (slices_IndexFunc_deed_Gift_runs (List.take ((List.map E_deed_Gift.pv r3)).length r3) no _ h2) ⟨.bor (.recsT (.eq (by first | rfl | (simp only [List.take_length]; done) | (simp; done) | (simp only [List.map_take, List.map_drop, List.map_append, List.take_length, List.nil_append]; done) | (simp only [List.length_map, List.take_length, List.length_append, List.drop_zero, List.map_append, List.map_take, List.map_drop, List.map_replicate, List.map_cons, List.map_nil, List.append_nil, List.nil_append]; done)))), .eq rfl, trivial⟩ ⟨⟨.eq rfl, trivial⟩, trivial⟩ trivial)
 rcases cond_of h with ⟨h3, h⟩ | ⟨h3, h⟩
 ·have h := some_of h
  subst h
  have t_ := tR (deed_Deeds_Pending_3_runs n n2 m m2 r _ h1) <| tR q_2 <| tT h3 <| tN
  exact runs_of (C := cfg) (objs := [[(.pv (.int .i64 n)), (.pv (.int .u64 n2)), (.own 0 0 ((List.map E_deed_Gift.pv r)).length false), (.mp 1), (.mp 2)], [(.maph (.int .i64) false (List.map M_int_int.pv m) [])], [(.maph (.st [.i64, .u64]) false (List.map M_deed_Mark_int.pv m2) [])]]) (sc := t_.ev) (.k0 t_.pf (by kernel_rfl))
 ·obtain ⟨_, h4, h⟩ := bind_of h
  obtain ⟨⟨k, r4⟩, h5, h⟩ := bind_of h
  have h := some_of h
  subst h
  have t_ := tR (deed_Deeds_Pending_3_runs n n2 m m2 r _ h1) <| tR q_2 <| tF h3 <| tR (deed_Deeds_Pending_2_runs n n2 r2 m m2 _ h4) <| tR (slices_Delete_deed_Gift_runs n3 (iadd .i64 n3 1) r2 _ h5) <| tN
  have e_ : Runs Tryz.prog 18 [(.one (.ref 0 0)), (.one (.pv (.int .u64 no)))] [[(.pv (.int .i64 n)), (.pv (.int .u64 n2)), (.own 0 0 ((List.map E_deed_Gift.pv r)).length false), (.mp 1), (.mp 2)], [(.maph (.int .i64) false (List.map M_int_int.pv m) [])], [(.maph (.st [.i64, .u64]) false (List.map M_deed_Mark_int.pv m2) [])]] [(.recs 5 (List.map E_deed_Gift.pv r))] ([(.one (.pv (.int .i64 0)))], [[(.pv (.int .i64 n)), (.pv (.int .u64 n2)), (.own 0 0 k false), (.mp 1), (.mp 2)], [(.maph (.int .i64) false (List.map M_int_int.pv m) [])], [(.maph (.st [.i64, .u64]) false (List.map M_deed_Mark_int.pv m2) [])]], [(.recs 5 (List.map E_deed_Gift.pv r4))]) := runs_of (C := cfg) (objs := [[(.pv (.int .i64 n)), (.pv (.int .u64 n2)), (.own 0 0 ((List.map E_deed_Gift.pv r)).length false), (.mp 1), (.mp 2)], [(.maph (.int .i64) false (List.map M_int_int.pv m) [])], [(.maph (.st [.i64, .u64]) false (List.map M_deed_Mark_int.pv m2) [])]]) (sc := t_.ev) (.k0 t_.pf (by kernel_rfl))
  have e_ := e_.shut (res' := ([(.one (.pv (.int .i64 0)))], [[(.pv (.int .i64 n)), (.pv (.int .u64 n2)), (.pv (.recs 5 (List.take k (List.map E_deed_Gift.pv r4)) false)), (.mp 1), (.mp 2)], [(.maph (.int .i64) false (List.map M_int_int.pv m) [])], [(.maph (.st [.i64, .u64]) false (List.map M_deed_Mark_int.pv m2) [])]], [])) [0] (by kernel_rfl)
  exact e_.out ⟨.eq rfl, trivial⟩ ⟨⟨.eq rfl, .eq rfl, .pv (.recsT (.eq (by first | rfl | (simp only [List.take_length]; done) | (simp; done) | (simp only [List.map_take, List.map_drop, List.map_append, List.take_length, List.nil_append]; done) | (simp only [List.length_map, List.take_length, List.length_append, List.drop_zero, List.map_append, List.map_take, List.map_drop, List.map_replicate, List.map_cons, List.map_nil, List.append_nil, List.nil_append]; done)))), .eq rfl, .eq rfl, trivial⟩, ⟨.eq rfl, trivial⟩, ⟨.eq rfl, trivial⟩, trivial⟩ trivial rfl
def deed_Deeds_Take_3_out (g : Int) (g2 : Int) (g3 : Int) (g4 : Bool) (g5 : T_id_halves) (n : Int) (n2 : Int) (m : List (Int × Int)) (m2 : List ((Int × Int) × Int)) (r : List E_deed_Gift) : Int × List ((Int × Int) × Int) → Res
 | (r1, r2) => ([(.one (.pv (.int .i64 r1)))], [[(.pv (.int .i64 n)), (.pv (.int .u64 n2)), (.own 0 0 ((List.map E_deed_Gift.pv r)).length false), (.mp 1), (.mp 2)], [(.maph (.int .i64) false (List.map M_int_int.pv m) [])], [(.maph (.st [.i64, .u64]) false (List.map M_deed_Mark_int.pv r2) [])]], [(.recs 5 (List.map E_deed_Gift.pv r))])
def deed_Deeds_Took_3_out (m : Int) (m2 : Int) (n : Int) (n2 : Int) (m3 : List (Int × Int)) (m4 : List ((Int × Int) × Int)) (r : List E_deed_Gift) : Bool → Res
 | r1 => ([(.one (.pv (.bool r1)))], [[(.pv (.int .i64 n)), (.pv (.int .u64 n2)), (.own 0 0 ((List.map E_deed_Gift.pv r)).length false), (.mp 1), (.mp 2)], [(.maph (.int .i64) false (List.map M_int_int.pv m3) [])], [(.maph (.st [.i64, .u64]) false (List.map M_deed_Mark_int.pv m4) [])]], [(.recs 5 (List.map E_deed_Gift.pv r))])
noncomputable def deed_Deeds_Took_3 (m : Int) (m2 : Int) (n : Int) (n2 : Int) (m3 : List (Int × Int)) (m4 : List ((Int × Int) × Int)) (r : List E_deed_Gift) : Option (Bool) :=
 match (mget (m, m2) m4) with
 | .some n3 =>
  some (decide ((0 : Int) < n3))
 | .none =>
  some false
theorem deed_Deeds_Took_3_runs (m : Int) (m2 : Int) (n : Int) (n2 : Int) (m3 : List (Int × Int)) (m4 : List ((Int × Int) × Int)) (r : List E_deed_Gift) (r_ : Bool) (h : deed_Deeds_Took_3 m m2 n n2 m3 m4 r = some r_) : Runs Tryz.prog 21 [(.one (.ref 0 0)), (.agg [(.pv (.int .i64 m)), (.pv (.int .u64 m2))])] [[(.pv (.int .i64 n)), (.pv (.int .u64 n2)), (.own 0 0 ((List.map E_deed_Gift.pv r)).length false), (.mp 1), (.mp 2)], [(.maph (.int .i64) false (List.map M_int_int.pv m3) [])], [(.maph (.st [.i64, .u64]) false (List.map M_deed_Mark_int.pv m4) [])]] [(.recs 5 (List.map E_deed_Gift.pv r))] (deed_Deeds_Took_3_out m m2 n n2 m3 m4 r r_) := by
 unfold deed_Deeds_Took_3 at h
 cases h1 : (mget (m, m2) m4) with
 | some n3 =>
  simp only [h1] at h
  have h := some_of h
  subst h
  have t_ := tT (rfl : true = true) <| tT (show kget [(.int .i64 m), (.int .u64 m2)] (List.map M_deed_Mark_int.pv m4) = some [(.int .i64 n3)] from by first | (simp only [M_deed_Mark_int.set, M_int_int.set, M_deed_Mark_int.get, M_int_int.get, h1, Option.map_some, Option.map_none]; done) | (simp only [M_deed_Mark_int.set, M_int_int.set, M_deed_Mark_int.get, M_int_int.get, h1, Option.map_some, Option.map_none]; rfl) | (rw [← List.map_nil]; simp only [M_deed_Mark_int.set, M_int_int.set, M_deed_Mark_int.get, M_int_int.get, h1, Option.map_some, Option.map_none]; rfl)) <| tE (.el [(.int .i64 n3)]) <| tN
  exact runs_of (C := cfg) (objs := [[(.pv (.int .i64 n)), (.pv (.int .u64 n2)), (.own 0 0 ((List.map E_deed_Gift.pv r)).length false), (.mp 1), (.mp 2)], [(.maph (.int .i64) false (List.map M_int_int.pv m3) [])], [(.maph (.st [.i64, .u64]) false (List.map M_deed_Mark_int.pv m4) [])]]) (sc := t_.ev) (.k1 t_.pf (by kernel_rfl) (by kernel_rfl))
 | none =>
  simp only [h1] at h
  have h := some_of h
  subst h
  have t_ := tT (rfl : true = true) <| tF (show kget [(.int .i64 m), (.int .u64 m2)] (List.map M_deed_Mark_int.pv m4) = none from by first | (simp only [M_deed_Mark_int.set, M_int_int.set, M_deed_Mark_int.get, M_int_int.get, h1, Option.map_some, Option.map_none]; done) | (simp only [M_deed_Mark_int.set, M_int_int.set, M_deed_Mark_int.get, M_int_int.get, h1, Option.map_some, Option.map_none]; rfl) | (rw [← List.map_nil]; simp only [M_deed_Mark_int.set, M_int_int.set, M_deed_Mark_int.get, M_int_int.get, h1, Option.map_some, Option.map_none]; rfl)) <| tN
  exact runs_of (C := cfg) (objs := [[(.pv (.int .i64 n)), (.pv (.int .u64 n2)), (.own 0 0 ((List.map E_deed_Gift.pv r)).length false), (.mp 1), (.mp 2)], [(.maph (.int .i64) false (List.map M_int_int.pv m3) [])], [(.maph (.st [.i64, .u64]) false (List.map M_deed_Mark_int.pv m4) [])]]) (sc := t_.ev) (.k1 t_.pf (by kernel_rfl) (by kernel_rfl))
noncomputable def deed_Deeds_Take_3 (g : Int) (g2 : Int) (g3 : Int) (g4 : Bool) (g5 : T_id_halves) (n : Int) (n2 : Int) (m : List (Int × Int)) (m2 : List ((Int × Int) × Int)) (r : List E_deed_Gift) : Option (Int × List ((Int × Int) × Int)) :=
 (deed_Gift_Right g g2 g3 g4 g5).bind fun b =>
 bif b then
  bif (decide ((g3 : Int) = n)) then
   (deed_Deeds_Took_3 g2 g n n2 m m2 r).bind fun b2 =>
   bif b2 then
    some (14, m2)
   else
    match (mget (g2, g) m2) with
    | .some n3 =>
     some (0, (mset (g2, g) (iadd .i64 n3 1) (mset (g2, g) n3 m2)))
    | .none =>
     some (0, (mset (g2, g) 1 (mset (g2, g) 0 m2)))
  else
   some (1, m2)
 else
  some (1, m2)
theorem deed_Deeds_Take_3_runs (g : Int) (g2 : Int) (g3 : Int) (g4 : Bool) (g5 : T_id_halves) (n : Int) (n2 : Int) (m : List (Int × Int)) (m2 : List ((Int × Int) × Int)) (r : List E_deed_Gift) (r_ : Int × List ((Int × Int) × Int)) (h : deed_Deeds_Take_3 g g2 g3 g4 g5 n n2 m m2 r = some r_) : Runs Tryz.prog 19 [(.one (.ref 0 0)), (.agg [(.pv (.int .u64 g)), (.pv (.int .i64 g2)), (.pv (.int .i64 g3)), (.pv (.bool g4)), (.pv (T_id_halves.pv g5))])] [[(.pv (.int .i64 n)), (.pv (.int .u64 n2)), (.own 0 0 ((List.map E_deed_Gift.pv r)).length false), (.mp 1), (.mp 2)], [(.maph (.int .i64) false (List.map M_int_int.pv m) [])], [(.maph (.st [.i64, .u64]) false (List.map M_deed_Mark_int.pv m2) [])]] [(.recs 5 (List.map E_deed_Gift.pv r))] (deed_Deeds_Take_3_out g g2 g3 g4 g5 n n2 m m2 r r_) := by
 unfold deed_Deeds_Take_3 at h
 obtain ⟨b, h1, h⟩ := bind_of h
 rcases cond_of h with ⟨h2, h⟩ | ⟨h2, h⟩
 ·rcases cond_of h with ⟨h3, h⟩ | ⟨h3, h⟩
  ·obtain ⟨b2, h4, h⟩ := bind_of h
   rcases cond_of h with ⟨h5, h⟩ | ⟨h5, h⟩
   ·have h := some_of h
    subst h
    have t_ := tF (rfl : false = false) <| tR (deed_Gift_Right_runs g g2 g3 g4 g5 _ h1) <| tF (not_of2 h2) <| tF (not_of2 h3) <| tR (deed_Deeds_Took_3_runs g2 g n n2 m m2 r _ h4) <| tT h5 <| tN
    exact runs_of (C := cfg) (objs := [[(.pv (.int .i64 n)), (.pv (.int .u64 n2)), (.own 0 0 ((List.map E_deed_Gift.pv r)).length false), (.mp 1), (.mp 2)], [(.maph (.int .i64) false (List.map M_int_int.pv m) [])], [(.maph (.st [.i64, .u64]) false (List.map M_deed_Mark_int.pv m2) [])]]) (sc := t_.ev) (.k1 t_.pf (by kernel_rfl) (by kernel_rfl))
   ·cases h6 : (mget (g2, g) m2) with
    | some n3 =>
     simp only [h6] at h
     have h := some_of h
     subst h
     have t_ := tF (rfl : false = false) <| tR (deed_Gift_Right_runs g g2 g3 g4 g5 _ h1) <| tF (not_of2 h2) <| tF (not_of2 h3) <| tR (deed_Deeds_Took_3_runs g2 g n n2 m m2 r _ h4) <| tF h5 <| tT (show kget [(.int .i64 g2), (.int .u64 g)] (List.map M_deed_Mark_int.pv m2) = some [(.int .i64 n3)] from by first | (simp only [M_deed_Mark_int.set, M_int_int.set, M_deed_Mark_int.get, M_int_int.get, h6, Option.map_some, Option.map_none]; done) | (simp only [M_deed_Mark_int.set, M_int_int.set, M_deed_Mark_int.get, M_int_int.get, h6, Option.map_some, Option.map_none]; rfl) | (rw [← List.map_nil]; simp only [M_deed_Mark_int.set, M_int_int.set, M_deed_Mark_int.get, M_int_int.get, h6, Option.map_some, Option.map_none]; rfl)) <| tE (.el [(.int .i64 n3)]) <| tT (show kget [(.int .i64 g2), (.int .u64 g)] (List.map M_deed_Mark_int.pv m2) = some [(.int .i64 n3)] from by first | (simp only [M_deed_Mark_int.set, M_int_int.set, M_deed_Mark_int.get, M_int_int.get, h6, Option.map_some, Option.map_none]; done) | (simp only [M_deed_Mark_int.set, M_int_int.set, M_deed_Mark_int.get, M_int_int.get, h6, Option.map_some, Option.map_none]; rfl) | (rw [← List.map_nil]; simp only [M_deed_Mark_int.set, M_int_int.set, M_deed_Mark_int.get, M_int_int.get, h6, Option.map_some, Option.map_none]; rfl)) <| tE (.el [(.int .i64 n3)]) <| tT (show kget [(.int .i64 g2), (.int .u64 g)] (List.map M_deed_Mark_int.pv m2) = some [(.int .i64 n3)] from by first | (simp only [M_deed_Mark_int.set, M_int_int.set, M_deed_Mark_int.get, M_int_int.get, h6, Option.map_some, Option.map_none]; done) | (simp only [M_deed_Mark_int.set, M_int_int.set, M_deed_Mark_int.get, M_int_int.get, h6, Option.map_some, Option.map_none]; rfl) | (rw [← List.map_nil]; simp only [M_deed_Mark_int.set, M_int_int.set, M_deed_Mark_int.get, M_int_int.get, h6, Option.map_some, Option.map_none]; rfl)) <| tE (.el [(.int .i64 n3)]) <| tT (show kget [(.int .i64 g2), (.int .u64 g)] (kset [(.int .i64 g2), (.int .u64 g)] [(.int .i64 n3)] (List.map M_deed_Mark_int.pv m2)) = some [(.int .i64 n3)] from by exact kget_kset (by simp [keq]) _ _) <| tE (.el [(.int .i64 n3)]) <| tN
     have e_ : Runs Tryz.prog 19 [(.one (.ref 0 0)), (.agg [(.pv (.int .u64 g)), (.pv (.int .i64 g2)), (.pv (.int .i64 g3)), (.pv (.bool g4)), (.pv (T_id_halves.pv g5))])] [[(.pv (.int .i64 n)), (.pv (.int .u64 n2)), (.own 0 0 ((List.map E_deed_Gift.pv r)).length false), (.mp 1), (.mp 2)], [(.maph (.int .i64) false (List.map M_int_int.pv m) [])], [(.maph (.st [.i64, .u64]) false (List.map M_deed_Mark_int.pv m2) [])]] [(.recs 5 (List.map E_deed_Gift.pv r))] ([(.one (.pv (.int .i64 0)))], [[(.pv (.int .i64 n)), (.pv (.int .u64 n2)), (.own 0 0 ((List.map E_deed_Gift.pv r)).length false), (.mp 1), (.mp 2)], [(.maph (.int .i64) false (List.map M_int_int.pv m) [])], [(.maph (.st [.i64, .u64]) false (kset [(.int .i64 g2), (.int .u64 g)] [(.int .i64 (iadd .i64 n3 1))] (kset [(.int .i64 g2), (.int .u64 g)] [(.int .i64 n3)] (List.map M_deed_Mark_int.pv m2))) [])]], [(.recs 5 (List.map E_deed_Gift.pv r))]) := runs_of (C := cfg) (objs := [[(.pv (.int .i64 n)), (.pv (.int .u64 n2)), (.own 0 0 ((List.map E_deed_Gift.pv r)).length false), (.mp 1), (.mp 2)], [(.maph (.int .i64) false (List.map M_int_int.pv m) [])], [(.maph (.st [.i64, .u64]) false (List.map M_deed_Mark_int.pv m2) [])]]) (sc := t_.ev) (.k1 t_.pf (by kernel_rfl) (by kernel_rfl))
     exact e_.out ⟨.eq rfl, trivial⟩ ⟨⟨.eq rfl, .eq rfl, .eq rfl, .eq rfl, .eq rfl, trivial⟩, ⟨.eq rfl, trivial⟩, ⟨.maph (WkEs.to (WkEs.set (.cons (.eq rfl) (.nil)) (WkEs.set (.cons (.eq rfl) (.nil)) (WkEs.refl _))) (by first | rfl | (simp only [M_deed_Mark_int.set, M_int_int.set]; done) | (simp only [M_deed_Mark_int.set, M_int_int.set, kset, kdel]; rfl))), trivial⟩, trivial⟩ ⟨.eq rfl, trivial⟩ rfl
    | none =>
     simp only [h6] at h
     have h := some_of h
     subst h
     have t_ := tF (rfl : false = false) <| tR (deed_Gift_Right_runs g g2 g3 g4 g5 _ h1) <| tF (not_of2 h2) <| tF (not_of2 h3) <| tR (deed_Deeds_Took_3_runs g2 g n n2 m m2 r _ h4) <| tF h5 <| tF (show kget [(.int .i64 g2), (.int .u64 g)] (List.map M_deed_Mark_int.pv m2) = none from by first | (simp only [M_deed_Mark_int.set, M_int_int.set, M_deed_Mark_int.get, M_int_int.get, h6, Option.map_some, Option.map_none]; done) | (simp only [M_deed_Mark_int.set, M_int_int.set, M_deed_Mark_int.get, M_int_int.get, h6, Option.map_some, Option.map_none]; rfl) | (rw [← List.map_nil]; simp only [M_deed_Mark_int.set, M_int_int.set, M_deed_Mark_int.get, M_int_int.get, h6, Option.map_some, Option.map_none]; rfl)) <| tF (show kget [(.int .i64 g2), (.int .u64 g)] (List.map M_deed_Mark_int.pv m2) = none from by first | (simp only [M_deed_Mark_int.set, M_int_int.set, M_deed_Mark_int.get, M_int_int.get, h6, Option.map_some, Option.map_none]; done) | (simp only [M_deed_Mark_int.set, M_int_int.set, M_deed_Mark_int.get, M_int_int.get, h6, Option.map_some, Option.map_none]; rfl) | (rw [← List.map_nil]; simp only [M_deed_Mark_int.set, M_int_int.set, M_deed_Mark_int.get, M_int_int.get, h6, Option.map_some, Option.map_none]; rfl)) <| tF (show kget [(.int .i64 g2), (.int .u64 g)] (List.map M_deed_Mark_int.pv m2) = none from by first | (simp only [M_deed_Mark_int.set, M_int_int.set, M_deed_Mark_int.get, M_int_int.get, h6, Option.map_some, Option.map_none]; done) | (simp only [M_deed_Mark_int.set, M_int_int.set, M_deed_Mark_int.get, M_int_int.get, h6, Option.map_some, Option.map_none]; rfl) | (rw [← List.map_nil]; simp only [M_deed_Mark_int.set, M_int_int.set, M_deed_Mark_int.get, M_int_int.get, h6, Option.map_some, Option.map_none]; rfl)) <| tT (show kget [(.int .i64 g2), (.int .u64 g)] (kset [(.int .i64 g2), (.int .u64 g)] [(.int .i64 0)] (List.map M_deed_Mark_int.pv m2)) = some [(.int .i64 0)] from by exact kget_kset (by simp [keq]) _ _) <| tE (.el [(.int .i64 0)]) <| tN
     have e_ : Runs Tryz.prog 19 [(.one (.ref 0 0)), (.agg [(.pv (.int .u64 g)), (.pv (.int .i64 g2)), (.pv (.int .i64 g3)), (.pv (.bool g4)), (.pv (T_id_halves.pv g5))])] [[(.pv (.int .i64 n)), (.pv (.int .u64 n2)), (.own 0 0 ((List.map E_deed_Gift.pv r)).length false), (.mp 1), (.mp 2)], [(.maph (.int .i64) false (List.map M_int_int.pv m) [])], [(.maph (.st [.i64, .u64]) false (List.map M_deed_Mark_int.pv m2) [])]] [(.recs 5 (List.map E_deed_Gift.pv r))] ([(.one (.pv (.int .i64 0)))], [[(.pv (.int .i64 n)), (.pv (.int .u64 n2)), (.own 0 0 ((List.map E_deed_Gift.pv r)).length false), (.mp 1), (.mp 2)], [(.maph (.int .i64) false (List.map M_int_int.pv m) [])], [(.maph (.st [.i64, .u64]) false (kset [(.int .i64 g2), (.int .u64 g)] [(.int .i64 1)] (kset [(.int .i64 g2), (.int .u64 g)] [(.int .i64 0)] (List.map M_deed_Mark_int.pv m2))) [])]], [(.recs 5 (List.map E_deed_Gift.pv r))]) := runs_of (C := cfg) (objs := [[(.pv (.int .i64 n)), (.pv (.int .u64 n2)), (.own 0 0 ((List.map E_deed_Gift.pv r)).length false), (.mp 1), (.mp 2)], [(.maph (.int .i64) false (List.map M_int_int.pv m) [])], [(.maph (.st [.i64, .u64]) false (List.map M_deed_Mark_int.pv m2) [])]]) (sc := t_.ev) (.k1 t_.pf (by kernel_rfl) (by kernel_rfl))
     exact e_.out ⟨.eq rfl, trivial⟩ ⟨⟨.eq rfl, .eq rfl, .eq rfl, .eq rfl, .eq rfl, trivial⟩, ⟨.eq rfl, trivial⟩, ⟨.maph (WkEs.to (WkEs.set (.cons (.eq rfl) (.nil)) (WkEs.set (.cons (.eq rfl) (.nil)) (WkEs.refl _))) (by first | rfl | (simp only [M_deed_Mark_int.set, M_int_int.set]; done) | (simp only [M_deed_Mark_int.set, M_int_int.set, kset, kdel]; rfl))), trivial⟩, trivial⟩ ⟨.eq rfl, trivial⟩ rfl
  ·have h := some_of h
   subst h
   have t_ := tF (rfl : false = false) <| tR (deed_Gift_Right_runs g g2 g3 g4 g5 _ h1) <| tF (not_of2 h2) <| tT (not_of h3) <| tN
   exact runs_of (C := cfg) (objs := [[(.pv (.int .i64 n)), (.pv (.int .u64 n2)), (.own 0 0 ((List.map E_deed_Gift.pv r)).length false), (.mp 1), (.mp 2)], [(.maph (.int .i64) false (List.map M_int_int.pv m) [])], [(.maph (.st [.i64, .u64]) false (List.map M_deed_Mark_int.pv m2) [])]]) (sc := t_.ev) (.k1 t_.pf (by kernel_rfl) (by kernel_rfl))
 ·have h := some_of h
  subst h
  have t_ := tF (rfl : false = false) <| tR (deed_Gift_Right_runs g g2 g3 g4 g5 _ h1) <| tT (not_of h2) <| tT (rfl : true = true) <| tN
  exact runs_of (C := cfg) (objs := [[(.pv (.int .i64 n)), (.pv (.int .u64 n2)), (.own 0 0 ((List.map E_deed_Gift.pv r)).length false), (.mp 1), (.mp 2)], [(.maph (.int .i64) false (List.map M_int_int.pv m) [])], [(.maph (.st [.i64, .u64]) false (List.map M_deed_Mark_int.pv m2) [])]]) (sc := t_.ev) (.k1 t_.pf (by kernel_rfl) (by kernel_rfl))
def deed_Deeds_Give_3_out (to : Int) (share : Bool) (share2 : T_id_halves) (n : Int) (n2 : Int) (m : List (Int × Int)) (m2 : List ((Int × Int) × Int)) (r : List E_deed_Gift) : Int × Int × Int × Bool × T_id_halves × Int × Int × List E_deed_Gift × List (Int × Int) → Res
 | (r1, r2, r3, r4, r5, r6, r7, r8, r9) => ([(.agg [(.pv (.int .u64 r1)), (.pv (.int .i64 r2)), (.pv (.int .i64 r3)), (.pv (.bool r4)), (.pv (T_id_halves.pv r5))]), (.one (.pv (.int .i64 r6)))], [[(.pv (.int .i64 n)), (.pv (.int .u64 r7)), (.pv (.recs 5 (List.map E_deed_Gift.pv r8) false)), (.mp 1), (.mp 2)], [(.maph (.int .i64) false (List.map M_int_int.pv r9) [])], [(.maph (.st [.i64, .u64]) false (List.map M_deed_Mark_int.pv m2) [])]], [])
def deed_Deeds_Last_3_out (n : Int) (n2 : Int) (m : List (Int × Int)) (m2 : List ((Int × Int) × Int)) (r : List E_deed_Gift) : Unit → Res
 | _ => ([(.one (.pv (.int .u64 n2)))], [[(.pv (.int .i64 n)), (.pv (.int .u64 n2)), (.own 0 0 ((List.map E_deed_Gift.pv r)).length false), (.mp 1), (.mp 2)], [(.maph (.int .i64) false (List.map M_int_int.pv m) [])], [(.maph (.st [.i64, .u64]) false (List.map M_deed_Mark_int.pv m2) [])]], [(.recs 5 (List.map E_deed_Gift.pv r))])
noncomputable def deed_Deeds_Last_3 (n : Int) (n2 : Int) (m : List (Int × Int)) (m2 : List ((Int × Int) × Int)) (r : List E_deed_Gift) : Option (Unit) :=
 some ()
theorem deed_Deeds_Last_3_runs (n : Int) (n2 : Int) (m : List (Int × Int)) (m2 : List ((Int × Int) × Int)) (r : List E_deed_Gift) (r_ : Unit) (h : deed_Deeds_Last_3 n n2 m m2 r = some r_) : Runs Tryz.prog 23 [(.one (.ref 0 0))] [[(.pv (.int .i64 n)), (.pv (.int .u64 n2)), (.own 0 0 ((List.map E_deed_Gift.pv r)).length false), (.mp 1), (.mp 2)], [(.maph (.int .i64) false (List.map M_int_int.pv m) [])], [(.maph (.st [.i64, .u64]) false (List.map M_deed_Mark_int.pv m2) [])]] [(.recs 5 (List.map E_deed_Gift.pv r))] (deed_Deeds_Last_3_out n n2 m m2 r r_) := by
 unfold deed_Deeds_Last_3 at h
 have h := some_of h
 subst h
 have t_ := tF (rfl : false = false) <| tN
 exact runs_of (C := cfg) (objs := [[(.pv (.int .i64 n)), (.pv (.int .u64 n2)), (.own 0 0 ((List.map E_deed_Gift.pv r)).length false), (.mp 1), (.mp 2)], [(.maph (.int .i64) false (List.map M_int_int.pv m) [])], [(.maph (.st [.i64, .u64]) false (List.map M_deed_Mark_int.pv m2) [])]]) (sc := t_.ev) (.k0 t_.pf (by kernel_rfl))
def deed_Deeds_Self_3_out (n : Int) (n2 : Int) (m : List (Int × Int)) (m2 : List ((Int × Int) × Int)) (r : List E_deed_Gift) : Unit → Res
 | _ => ([(.one (.pv (.int .i64 n)))], [[(.pv (.int .i64 n)), (.pv (.int .u64 n2)), (.own 0 0 ((List.map E_deed_Gift.pv r)).length false), (.mp 1), (.mp 2)], [(.maph (.int .i64) false (List.map M_int_int.pv m) [])], [(.maph (.st [.i64, .u64]) false (List.map M_deed_Mark_int.pv m2) [])]], [(.recs 5 (List.map E_deed_Gift.pv r))])
noncomputable def deed_Deeds_Self_3 (n : Int) (n2 : Int) (m : List (Int × Int)) (m2 : List ((Int × Int) × Int)) (r : List E_deed_Gift) : Option (Unit) :=
 some ()
theorem deed_Deeds_Self_3_runs (n : Int) (n2 : Int) (m : List (Int × Int)) (m2 : List ((Int × Int) × Int)) (r : List E_deed_Gift) (r_ : Unit) (h : deed_Deeds_Self_3 n n2 m m2 r = some r_) : Runs Tryz.prog 22 [(.one (.ref 0 0))] [[(.pv (.int .i64 n)), (.pv (.int .u64 n2)), (.own 0 0 ((List.map E_deed_Gift.pv r)).length false), (.mp 1), (.mp 2)], [(.maph (.int .i64) false (List.map M_int_int.pv m) [])], [(.maph (.st [.i64, .u64]) false (List.map M_deed_Mark_int.pv m2) [])]] [(.recs 5 (List.map E_deed_Gift.pv r))] (deed_Deeds_Self_3_out n n2 m m2 r r_) := by
 unfold deed_Deeds_Self_3 at h
 have h := some_of h
 subst h
 have t_ := tF (rfl : false = false) <| tN
 exact runs_of (C := cfg) (objs := [[(.pv (.int .i64 n)), (.pv (.int .u64 n2)), (.own 0 0 ((List.map E_deed_Gift.pv r)).length false), (.mp 1), (.mp 2)], [(.maph (.int .i64) false (List.map M_int_int.pv m) [])], [(.maph (.st [.i64, .u64]) false (List.map M_deed_Mark_int.pv m2) [])]]) (sc := t_.ev) (.k0 t_.pf (by kernel_rfl))
def deed_Deeds_To_3_out (to : Int) (n : Int) (n2 : Int) (m : List (Int × Int)) (m2 : List ((Int × Int) × Int)) (r : List E_deed_Gift) : Int × Int × Int × Bool × T_id_halves × Bool × List E_deed_Gift → Res
 | (r1, r2, r3, r4, r5, r6, r7) => ([(.agg [(.pv (.int .u64 r1)), (.pv (.int .i64 r2)), (.pv (.int .i64 r3)), (.pv (.bool r4)), (.pv (T_id_halves.pv r5))]), (.one (.pv (.bool r6)))], [[(.pv (.int .i64 n)), (.pv (.int .u64 n2)), (.pv (.recs 5 (List.map E_deed_Gift.pv r7) false)), (.mp 1), (.mp 2)], [(.maph (.int .i64) false (List.map M_int_int.pv m) [])], [(.maph (.st [.i64, .u64]) false (List.map M_deed_Mark_int.pv m2) [])]], [])
noncomputable def deed_Deeds_To_3 (to : Int) (n : Int) (n2 : Int) (m : List (Int × Int)) (m2 : List ((Int × Int) × Int)) (r : List E_deed_Gift) : Option (Int × Int × Int × Bool × T_id_halves × Bool × List E_deed_Gift) :=
 (deed_Deeds_Pending_3 n n2 m m2 r).bind fun (r2, r3) =>
 (runL (deed_Deeds_To_L0_2_step to (((List.map E_deed_Gift.pv r3)).length : Int) n n2 r2 m m2 r3) 0).bind fun z_ => match z_ with
 | .inl (n3, n4, n5, b, t) =>
  some (n3, n4, n5, b, t, true, r2)
 | .inr _ =>
  some (0, 0, 0, false, T_id_halves.nil, false, r2)
theorem deed_Deeds_To_3_runs (to : Int) (n : Int) (n2 : Int) (m : List (Int × Int)) (m2 : List ((Int × Int) × Int)) (r : List E_deed_Gift) (r_ : Int × Int × Int × Bool × T_id_halves × Bool × List E_deed_Gift) (h : deed_Deeds_To_3 to n n2 m m2 r = some r_) : Runs Tryz.prog 17 [(.one (.ref 0 0)), (.one (.pv (.int .i64 to)))] [[(.pv (.int .i64 n)), (.pv (.int .u64 n2)), (.own 0 0 ((List.map E_deed_Gift.pv r)).length false), (.mp 1), (.mp 2)], [(.maph (.int .i64) false (List.map M_int_int.pv m) [])], [(.maph (.st [.i64, .u64]) false (List.map M_deed_Mark_int.pv m2) [])]] [(.recs 5 (List.map E_deed_Gift.pv r))] (deed_Deeds_To_3_out to n n2 m m2 r r_) := by
 unfold deed_Deeds_To_3 at h
 obtain ⟨⟨r2, r3⟩, h1, h⟩ := bind_of h
 obtain ⟨z_, h2, h⟩ := bind_of h
 rcases z_ with ⟨n3, n4, n5, b, t⟩ | _
 ·have h := some_of h
  subst h
  have t_ := tR (deed_Deeds_Pending_3_runs n n2 m m2 r _ h1) <| tL (LRuns.coe (s0 := ⟨[(1, (.av (.one (.pv (.int .i64 to))))), (4, (.av (.one (.ref 3 0)))), (9, (.av (.one (.own 0 0 ((List.map E_deed_Gift.pv r3)).length false)))), (10, (.av (.one (.pv (.int .i64 (((List.map E_deed_Gift.pv r3)).length : Int)))))), (11, (.av (.one (.pv (.int .i64 0)))))], [(0, [(.pv (.int .i64 n)), (.pv (.int .u64 n2)), (.pv (.recs 5 (List.map E_deed_Gift.pv r2) false)), (.mp 1), (.mp 2)]), (1, [(.maph (.int .i64) false (List.map M_int_int.pv m) [])]), (2, [(.maph (.st [.i64, .u64]) false (List.map M_deed_Mark_int.pv m2) [])]), (3, [(.pv (.int .u64 0)), (.pv (.int .i64 0)), (.pv (.int .i64 0)), (.pv (.bool false)), (.pv .nilp)])], [(0, (.live (.recs 5 (List.map E_deed_Gift.pv r3))))]⟩) (deed_Deeds_To_L0_2_runs to (((List.map E_deed_Gift.pv r3)).length : Int) n n2 r2 m m2 r3 _ _ h2) ⟨⟨⟨_, rfl, .eq rfl⟩, ⟨_, rfl, .eq rfl⟩, ⟨_, rfl, .eq rfl⟩, ⟨_, rfl, .eq rfl⟩, ⟨_, rfl, .eq rfl⟩, trivial⟩, ⟨⟨rfl, ⟨.eq rfl, .eq rfl, .eq rfl, .eq rfl, .eq rfl, trivial⟩⟩, ⟨rfl, ⟨.eq rfl, trivial⟩⟩, ⟨rfl, ⟨.eq rfl, trivial⟩⟩, ⟨rfl, ⟨.eq rfl, .eq rfl, .eq rfl, .eq rfl, .eq rfl, trivial⟩⟩, trivial⟩, ⟨⟨rfl, .eq rfl⟩, trivial⟩⟩) <| tN
  exact runs_of (C := cfg) (objs := [[(.pv (.int .i64 n)), (.pv (.int .u64 n2)), (.own 0 0 ((List.map E_deed_Gift.pv r)).length false), (.mp 1), (.mp 2)], [(.maph (.int .i64) false (List.map M_int_int.pv m) [])], [(.maph (.st [.i64, .u64]) false (List.map M_deed_Mark_int.pv m2) [])]]) (sc := t_.ev) (.k0 t_.pf (by kernel_rfl))
 ·have h := some_of h
  subst h
  have t_ := tR (deed_Deeds_Pending_3_runs n n2 m m2 r _ h1) <| tL (LRuns.coe (s0 := ⟨[(1, (.av (.one (.pv (.int .i64 to))))), (4, (.av (.one (.ref 3 0)))), (9, (.av (.one (.own 0 0 ((List.map E_deed_Gift.pv r3)).length false)))), (10, (.av (.one (.pv (.int .i64 (((List.map E_deed_Gift.pv r3)).length : Int)))))), (11, (.av (.one (.pv (.int .i64 0)))))], [(0, [(.pv (.int .i64 n)), (.pv (.int .u64 n2)), (.pv (.recs 5 (List.map E_deed_Gift.pv r2) false)), (.mp 1), (.mp 2)]), (1, [(.maph (.int .i64) false (List.map M_int_int.pv m) [])]), (2, [(.maph (.st [.i64, .u64]) false (List.map M_deed_Mark_int.pv m2) [])]), (3, [(.pv (.int .u64 0)), (.pv (.int .i64 0)), (.pv (.int .i64 0)), (.pv (.bool false)), (.pv .nilp)])], [(0, (.live (.recs 5 (List.map E_deed_Gift.pv r3))))]⟩) (deed_Deeds_To_L0_2_runs to (((List.map E_deed_Gift.pv r3)).length : Int) n n2 r2 m m2 r3 _ _ h2) ⟨⟨⟨_, rfl, .eq rfl⟩, ⟨_, rfl, .eq rfl⟩, ⟨_, rfl, .eq rfl⟩, ⟨_, rfl, .eq rfl⟩, ⟨_, rfl, .eq rfl⟩, trivial⟩, ⟨⟨rfl, ⟨.eq rfl, .eq rfl, .eq rfl, .eq rfl, .eq rfl, trivial⟩⟩, ⟨rfl, ⟨.eq rfl, trivial⟩⟩, ⟨rfl, ⟨.eq rfl, trivial⟩⟩, ⟨rfl, ⟨.eq rfl, .eq rfl, .eq rfl, .eq rfl, .eq rfl, trivial⟩⟩, trivial⟩, ⟨⟨rfl, .eq rfl⟩, trivial⟩⟩) <| tN
  have e_ : Runs Tryz.prog 17 [(.one (.ref 0 0)), (.one (.pv (.int .i64 to)))] [[(.pv (.int .i64 n)), (.pv (.int .u64 n2)), (.own 0 0 ((List.map E_deed_Gift.pv r)).length false), (.mp 1), (.mp 2)], [(.maph (.int .i64) false (List.map M_int_int.pv m) [])], [(.maph (.st [.i64, .u64]) false (List.map M_deed_Mark_int.pv m2) [])]] [(.recs 5 (List.map E_deed_Gift.pv r))] ([(.agg [(.pv (.int .u64 0)), (.pv (.int .i64 0)), (.pv (.int .i64 0)), (.pv (.bool false)), (.pv .nilp)]), (.one (.pv (.bool false)))], [[(.pv (.int .i64 n)), (.pv (.int .u64 n2)), (.pv (.recs 5 (List.map E_deed_Gift.pv r2) false)), (.mp 1), (.mp 2)], [(.maph (.int .i64) false (List.map M_int_int.pv m) [])], [(.maph (.st [.i64, .u64]) false (List.map M_deed_Mark_int.pv m2) [])]], []) := runs_of (C := cfg) (objs := [[(.pv (.int .i64 n)), (.pv (.int .u64 n2)), (.own 0 0 ((List.map E_deed_Gift.pv r)).length false), (.mp 1), (.mp 2)], [(.maph (.int .i64) false (List.map M_int_int.pv m) [])], [(.maph (.st [.i64, .u64]) false (List.map M_deed_Mark_int.pv m2) [])]]) (sc := t_.ev) (.k0 t_.pf (by kernel_rfl))
  exact e_.out ⟨⟨.eq rfl, .eq rfl, .eq rfl, .eq rfl, .eq rfl, trivial⟩, .eq rfl, trivial⟩ ⟨⟨.eq rfl, .eq rfl, .eq rfl, .eq rfl, .eq rfl, trivial⟩, ⟨.eq rfl, trivial⟩, ⟨.eq rfl, trivial⟩, trivial⟩ trivial rfl
noncomputable def deed_Deeds_Give_3 (to : Int) (share : Bool) (share2 : T_id_halves) (n : Int) (n2 : Int) (m : List (Int × Int)) (m2 : List ((Int × Int) × Int)) (r : List E_deed_Gift) : Option (Int × Int × Int × Bool × T_id_halves × Int × Int × List E_deed_Gift × List (Int × Int)) :=
 (deed_Deeds_Last_3 n n2 m m2 r).bind fun _ =>
 (deed_Deeds_Self_3 n n2 m m2 r).bind fun _ =>
 (deed_Deeds_To_3 to n n2 m m2 r).bind fun (n3, n4, n5, b, t, b2, r2) =>
 (deed_Gift_Right (iadd .u64 n2 1) n to share share2).bind fun b3 =>
 bif b3 then
  bif b2 then
   some (0, 0, 0, false, T_id_halves.nil, 14, n2, r2, m)
  else
   (deed_Deeds_Pending_2 n (iadd .u64 n2 1) r2 m m2).bind fun _ =>
   bif fits (((List.map E_deed_Gift.pv r2) ++ ([[(.int .u64 (iadd .u64 n2 1)), (.int .i64 n), (.int .i64 to), (.bool share), (T_id_halves.pv share2)]] : List (List PV)))).length then
   match (mget to m) with
   | .some n6 =>
    some ((iadd .u64 n2 1), n, to, share, share2, 0, (iadd .u64 n2 1), (List.take (((List.map E_deed_Gift.pv r2) ++ ([[(.int .u64 (iadd .u64 n2 1)), (.int .i64 n), (.int .i64 to), (.bool share), (T_id_halves.pv share2)]] : List (List PV)))).length (r2 ++ [(E_deed_Gift.mk (iadd .u64 n2 1) n to share share2)])), (mset to (iadd .i64 n6 1) m))
   | .none =>
    some ((iadd .u64 n2 1), n, to, share, share2, 0, (iadd .u64 n2 1), (List.take (((List.map E_deed_Gift.pv r2) ++ ([[(.int .u64 (iadd .u64 n2 1)), (.int .i64 n), (.int .i64 to), (.bool share), (T_id_halves.pv share2)]] : List (List PV)))).length (r2 ++ [(E_deed_Gift.mk (iadd .u64 n2 1) n to share share2)])), (mset to 1 m))
   else none
 else
  some (0, 0, 0, false, T_id_halves.nil, 1, n2, r2, m)
theorem deed_Deeds_Give_3_runs (to : Int) (share : Bool) (share2 : T_id_halves) (n : Int) (n2 : Int) (m : List (Int × Int)) (m2 : List ((Int × Int) × Int)) (r : List E_deed_Gift) (r_ : Int × Int × Int × Bool × T_id_halves × Int × Int × List E_deed_Gift × List (Int × Int)) (h : deed_Deeds_Give_3 to share share2 n n2 m m2 r = some r_) : Runs Tryz.prog 14 [(.one (.ref 0 0)), (.one (.pv (.int .i64 to))), (.agg [(.pv (.bool share)), (.pv (T_id_halves.pv share2))])] [[(.pv (.int .i64 n)), (.pv (.int .u64 n2)), (.own 0 0 ((List.map E_deed_Gift.pv r)).length false), (.mp 1), (.mp 2)], [(.maph (.int .i64) false (List.map M_int_int.pv m) [])], [(.maph (.st [.i64, .u64]) false (List.map M_deed_Mark_int.pv m2) [])]] [(.recs 5 (List.map E_deed_Gift.pv r))] (deed_Deeds_Give_3_out to share share2 n n2 m m2 r r_) := by
 unfold deed_Deeds_Give_3 at h
 obtain ⟨_, h1, h⟩ := bind_of h
 obtain ⟨_, h2, h⟩ := bind_of h
 obtain ⟨⟨n3, n4, n5, b, t, b2, r2⟩, h3, h⟩ := bind_of h
 obtain ⟨b3, h4, h⟩ := bind_of h
 have q_4 := (deed_Gift_Right_runs (iadd .u64 n2 1) n to share share2 _ h4)
 have p4_ := fun {sc_ : List Ev} {Q_ : Prop} (t_ : Tell sc_ Q_) => tR (deed_Deeds_Last_3_runs n n2 m m2 r _ h1) <| tR (deed_Deeds_Last_3_runs n n2 m m2 r _ h1) <| tR (deed_Deeds_Last_3_runs n n2 m m2 r _ h1) <| tR (deed_Deeds_Self_3_runs n n2 m m2 r _ h2) <| tR (deed_Deeds_Last_3_runs n n2 m m2 r _ h1) <| tR (deed_Deeds_Self_3_runs n n2 m m2 r _ h2) <| tR (deed_Deeds_Self_3_runs n n2 m m2 r _ h2) <| tR (deed_Deeds_Self_3_runs n n2 m m2 r _ h2) <| tR (deed_Deeds_To_3_runs to n n2 m m2 r _ h3) <| tF (rfl : false = false) <| tR q_4 <| t_
 rcases cond_of h with ⟨h5, h⟩ | ⟨h5, h⟩
 ·rcases cond_of h with ⟨h6, h⟩ | ⟨h6, h⟩
  ·have h := some_of h
   subst h
   have t_ := p4_ <| tF (not_of2 h5) <| tT h6 <| tN
   have e_ : Runs Tryz.prog 14 [(.one (.ref 0 0)), (.one (.pv (.int .i64 to))), (.agg [(.pv (.bool share)), (.pv (T_id_halves.pv share2))])] [[(.pv (.int .i64 n)), (.pv (.int .u64 n2)), (.own 0 0 ((List.map E_deed_Gift.pv r)).length false), (.mp 1), (.mp 2)], [(.maph (.int .i64) false (List.map M_int_int.pv m) [])], [(.maph (.st [.i64, .u64]) false (List.map M_deed_Mark_int.pv m2) [])]] [(.recs 5 (List.map E_deed_Gift.pv r))] ([(.agg [(.pv (.int .u64 0)), (.pv (.int .i64 0)), (.pv (.int .i64 0)), (.pv (.bool false)), (.pv .nilp)]), (.one (.pv (.int .i64 14)))], [[(.pv (.int .i64 n)), (.pv (.int .u64 n2)), (.pv (.recs 5 (List.map E_deed_Gift.pv r2) false)), (.mp 1), (.mp 2)], [(.maph (.int .i64) false (List.map M_int_int.pv m) [])], [(.maph (.st [.i64, .u64]) false (List.map M_deed_Mark_int.pv m2) [])]], []) := runs_of (C := cfg) (objs := [[(.pv (.int .i64 n)), (.pv (.int .u64 n2)), (.own 0 0 ((List.map E_deed_Gift.pv r)).length false), (.mp 1), (.mp 2)], [(.maph (.int .i64) false (List.map M_int_int.pv m) [])], [(.maph (.st [.i64, .u64]) false (List.map M_deed_Mark_int.pv m2) [])]]) (sc := t_.ev) (.k1 t_.pf (by kernel_rfl) (by kernel_rfl))
   exact e_.out ⟨⟨.eq rfl, .eq rfl, .eq rfl, .eq rfl, .eq rfl, trivial⟩, .eq rfl, trivial⟩ ⟨⟨.eq rfl, .eq rfl, .eq rfl, .eq rfl, .eq rfl, trivial⟩, ⟨.eq rfl, trivial⟩, ⟨.eq rfl, trivial⟩, trivial⟩ trivial rfl
  ·obtain ⟨_, h7, h⟩ := bind_of h
   have q_7 := (deed_Deeds_Pending_2_runs n (iadd .u64 n2 1) r2 m m2 _ h7)
   obtain ⟨h8, h⟩ := need_of h
   cases h9 : (mget to m) with
   | some n6 =>
    simp only [h9] at h
    have h := some_of h
    subst h
    have t_ := p4_ <| tF (not_of2 h5) <| tF h6 <| tR q_7 <| tR q_7 <| tR q_7 <| tO (show (Nat.beq ((List.map E_deed_Gift.pv r2)).length ((List.map E_deed_Gift.pv r2)).length) = true from Nat.beq_refl _) <| tO h8 <| tT (show kget [(.int .i64 to)] (List.map M_int_int.pv m) = some [(.int .i64 n6)] from by first | (simp only [M_deed_Mark_int.set, M_int_int.set, M_deed_Mark_int.get, M_int_int.get, h9, Option.map_some, Option.map_none]; done) | (simp only [M_deed_Mark_int.set, M_int_int.set, M_deed_Mark_int.get, M_int_int.get, h9, Option.map_some, Option.map_none]; rfl) | (rw [← List.map_nil]; simp only [M_deed_Mark_int.set, M_int_int.set, M_deed_Mark_int.get, M_int_int.get, h9, Option.map_some, Option.map_none]; rfl)) <| tE (.el [(.int .i64 n6)]) <| tN
    have e_ : Runs Tryz.prog 14 [(.one (.ref 0 0)), (.one (.pv (.int .i64 to))), (.agg [(.pv (.bool share)), (.pv (T_id_halves.pv share2))])] [[(.pv (.int .i64 n)), (.pv (.int .u64 n2)), (.own 0 0 ((List.map E_deed_Gift.pv r)).length false), (.mp 1), (.mp 2)], [(.maph (.int .i64) false (List.map M_int_int.pv m) [])], [(.maph (.st [.i64, .u64]) false (List.map M_deed_Mark_int.pv m2) [])]] [(.recs 5 (List.map E_deed_Gift.pv r))] ([(.agg [(.pv (.int .u64 (iadd .u64 n2 1))), (.pv (.int .i64 n)), (.pv (.int .i64 to)), (.pv (.bool share)), (.pv (T_id_halves.pv share2))]), (.one (.pv (.int .i64 0)))], [[(.pv (.int .i64 n)), (.pv (.int .u64 (iadd .u64 n2 1))), (.own 0 0 (((List.map E_deed_Gift.pv r2) ++ ([[(.int .u64 (iadd .u64 n2 1)), (.int .i64 n), (.int .i64 to), (.bool share), (T_id_halves.pv share2)]] : List (List PV)))).length false), (.mp 1), (.mp 2)], [(.maph (.int .i64) false (kset [(.int .i64 to)] [(.int .i64 (iadd .i64 n6 1))] (List.map M_int_int.pv m)) [])], [(.maph (.st [.i64, .u64]) false (List.map M_deed_Mark_int.pv m2) [])]], [(.recs 5 ((List.map E_deed_Gift.pv r2) ++ ([[(.int .u64 (iadd .u64 n2 1)), (.int .i64 n), (.int .i64 to), (.bool share), (T_id_halves.pv share2)]] : List (List PV))))]) := runs_of (C := cfg) (objs := [[(.pv (.int .i64 n)), (.pv (.int .u64 n2)), (.own 0 0 ((List.map E_deed_Gift.pv r)).length false), (.mp 1), (.mp 2)], [(.maph (.int .i64) false (List.map M_int_int.pv m) [])], [(.maph (.st [.i64, .u64]) false (List.map M_deed_Mark_int.pv m2) [])]]) (sc := t_.ev) (.k1 t_.pf (by kernel_rfl) (by kernel_rfl))
    have e_ := e_.shut (res' := ([(.agg [(.pv (.int .u64 (iadd .u64 n2 1))), (.pv (.int .i64 n)), (.pv (.int .i64 to)), (.pv (.bool share)), (.pv (T_id_halves.pv share2))]), (.one (.pv (.int .i64 0)))], [[(.pv (.int .i64 n)), (.pv (.int .u64 (iadd .u64 n2 1))), (.pv (.recs 5 (List.take (((List.map E_deed_Gift.pv r2) ++ ([[(.int .u64 (iadd .u64 n2 1)), (.int .i64 n), (.int .i64 to), (.bool share), (T_id_halves.pv share2)]] : List (List PV)))).length ((List.map E_deed_Gift.pv r2) ++ ([[(.int .u64 (iadd .u64 n2 1)), (.int .i64 n), (.int .i64 to), (.bool share), (T_id_halves.pv share2)]] : List (List PV)))) false)), (.mp 1), (.mp 2)], [(.maph (.int .i64) false (kset [(.int .i64 to)] [(.int .i64 (iadd .i64 n6 1))] (List.map M_int_int.pv m)) [])], [(.maph (.st [.i64, .u64]) false (List.map M_deed_Mark_int.pv m2) [])]], [])) [0] (by kernel_rfl)
    exact e_.out ⟨⟨.eq rfl, .eq rfl, .eq rfl, .eq rfl, .eq rfl, trivial⟩, .eq rfl, trivial⟩ ⟨⟨.eq rfl, .eq rfl, .pv (.recsT (.takeN (by first | rfl | (simp only [List.take_length]; done) | (simp; done)) (.app (.eq rfl) (.cons (.cons (.eq rfl) (.cons (.eq rfl) (.cons (.eq rfl) (.cons (.eq rfl) (.cons (.eq rfl) (.nil)))))) (.nil))))), .eq rfl, .eq rfl, trivial⟩, ⟨.maph (WkEs.to (WkEs.set (.cons (.eq rfl) (.nil)) (WkEs.refl _)) (by first | rfl | (simp only [M_deed_Mark_int.set, M_int_int.set]; done) | (simp only [M_deed_Mark_int.set, M_int_int.set, kset, kdel]; rfl))), trivial⟩, ⟨.eq rfl, trivial⟩, trivial⟩ trivial rfl
   | none =>
    simp only [h9] at h
    have h := some_of h
    subst h
    have t_ := p4_ <| tF (not_of2 h5) <| tF h6 <| tR q_7 <| tR q_7 <| tR q_7 <| tO (show (Nat.beq ((List.map E_deed_Gift.pv r2)).length ((List.map E_deed_Gift.pv r2)).length) = true from Nat.beq_refl _) <| tO h8 <| tF (show kget [(.int .i64 to)] (List.map M_int_int.pv m) = none from by first | (simp only [M_deed_Mark_int.set, M_int_int.set, M_deed_Mark_int.get, M_int_int.get, h9, Option.map_some, Option.map_none]; done) | (simp only [M_deed_Mark_int.set, M_int_int.set, M_deed_Mark_int.get, M_int_int.get, h9, Option.map_some, Option.map_none]; rfl) | (rw [← List.map_nil]; simp only [M_deed_Mark_int.set, M_int_int.set, M_deed_Mark_int.get, M_int_int.get, h9, Option.map_some, Option.map_none]; rfl)) <| tN
    have e_ : Runs Tryz.prog 14 [(.one (.ref 0 0)), (.one (.pv (.int .i64 to))), (.agg [(.pv (.bool share)), (.pv (T_id_halves.pv share2))])] [[(.pv (.int .i64 n)), (.pv (.int .u64 n2)), (.own 0 0 ((List.map E_deed_Gift.pv r)).length false), (.mp 1), (.mp 2)], [(.maph (.int .i64) false (List.map M_int_int.pv m) [])], [(.maph (.st [.i64, .u64]) false (List.map M_deed_Mark_int.pv m2) [])]] [(.recs 5 (List.map E_deed_Gift.pv r))] ([(.agg [(.pv (.int .u64 (iadd .u64 n2 1))), (.pv (.int .i64 n)), (.pv (.int .i64 to)), (.pv (.bool share)), (.pv (T_id_halves.pv share2))]), (.one (.pv (.int .i64 0)))], [[(.pv (.int .i64 n)), (.pv (.int .u64 (iadd .u64 n2 1))), (.own 0 0 (((List.map E_deed_Gift.pv r2) ++ ([[(.int .u64 (iadd .u64 n2 1)), (.int .i64 n), (.int .i64 to), (.bool share), (T_id_halves.pv share2)]] : List (List PV)))).length false), (.mp 1), (.mp 2)], [(.maph (.int .i64) false (kset [(.int .i64 to)] [(.int .i64 1)] (List.map M_int_int.pv m)) [])], [(.maph (.st [.i64, .u64]) false (List.map M_deed_Mark_int.pv m2) [])]], [(.recs 5 ((List.map E_deed_Gift.pv r2) ++ ([[(.int .u64 (iadd .u64 n2 1)), (.int .i64 n), (.int .i64 to), (.bool share), (T_id_halves.pv share2)]] : List (List PV))))]) := runs_of (C := cfg) (objs := [[(.pv (.int .i64 n)), (.pv (.int .u64 n2)), (.own 0 0 ((List.map E_deed_Gift.pv r)).length false), (.mp 1), (.mp 2)], [(.maph (.int .i64) false (List.map M_int_int.pv m) [])], [(.maph (.st [.i64, .u64]) false (List.map M_deed_Mark_int.pv m2) [])]]) (sc := t_.ev) (.k1 t_.pf (by kernel_rfl) (by kernel_rfl))
    have e_ := e_.shut (res' := ([(.agg [(.pv (.int .u64 (iadd .u64 n2 1))), (.pv (.int .i64 n)), (.pv (.int .i64 to)), (.pv (.bool share)), (.pv (T_id_halves.pv share2))]), (.one (.pv (.int .i64 0)))], [[(.pv (.int .i64 n)), (.pv (.int .u64 (iadd .u64 n2 1))), (.pv (.recs 5 (List.take (((List.map E_deed_Gift.pv r2) ++ ([[(.int .u64 (iadd .u64 n2 1)), (.int .i64 n), (.int .i64 to), (.bool share), (T_id_halves.pv share2)]] : List (List PV)))).length ((List.map E_deed_Gift.pv r2) ++ ([[(.int .u64 (iadd .u64 n2 1)), (.int .i64 n), (.int .i64 to), (.bool share), (T_id_halves.pv share2)]] : List (List PV)))) false)), (.mp 1), (.mp 2)], [(.maph (.int .i64) false (kset [(.int .i64 to)] [(.int .i64 1)] (List.map M_int_int.pv m)) [])], [(.maph (.st [.i64, .u64]) false (List.map M_deed_Mark_int.pv m2) [])]], [])) [0] (by kernel_rfl)
    exact e_.out ⟨⟨.eq rfl, .eq rfl, .eq rfl, .eq rfl, .eq rfl, trivial⟩, .eq rfl, trivial⟩ ⟨⟨.eq rfl, .eq rfl, .pv (.recsT (.takeN (by first | rfl | (simp only [List.take_length]; done) | (simp; done)) (.app (.eq rfl) (.cons (.cons (.eq rfl) (.cons (.eq rfl) (.cons (.eq rfl) (.cons (.eq rfl) (.cons (.eq rfl) (.nil)))))) (.nil))))), .eq rfl, .eq rfl, trivial⟩, ⟨.maph (WkEs.to (WkEs.set (.cons (.eq rfl) (.nil)) (WkEs.refl _)) (by first | rfl | (simp only [M_deed_Mark_int.set, M_int_int.set]; done) | (simp only [M_deed_Mark_int.set, M_int_int.set, kset, kdel]; rfl))), trivial⟩, ⟨.eq rfl, trivial⟩, trivial⟩ trivial rfl
 ·have h := some_of h
  subst h
  have t_ := p4_ <| tT (not_of h5) <| tN
  have e_ : Runs Tryz.prog 14 [(.one (.ref 0 0)), (.one (.pv (.int .i64 to))), (.agg [(.pv (.bool share)), (.pv (T_id_halves.pv share2))])] [[(.pv (.int .i64 n)), (.pv (.int .u64 n2)), (.own 0 0 ((List.map E_deed_Gift.pv r)).length false), (.mp 1), (.mp 2)], [(.maph (.int .i64) false (List.map M_int_int.pv m) [])], [(.maph (.st [.i64, .u64]) false (List.map M_deed_Mark_int.pv m2) [])]] [(.recs 5 (List.map E_deed_Gift.pv r))] ([(.agg [(.pv (.int .u64 0)), (.pv (.int .i64 0)), (.pv (.int .i64 0)), (.pv (.bool false)), (.pv .nilp)]), (.one (.pv (.int .i64 1)))], [[(.pv (.int .i64 n)), (.pv (.int .u64 n2)), (.pv (.recs 5 (List.map E_deed_Gift.pv r2) false)), (.mp 1), (.mp 2)], [(.maph (.int .i64) false (List.map M_int_int.pv m) [])], [(.maph (.st [.i64, .u64]) false (List.map M_deed_Mark_int.pv m2) [])]], []) := runs_of (C := cfg) (objs := [[(.pv (.int .i64 n)), (.pv (.int .u64 n2)), (.own 0 0 ((List.map E_deed_Gift.pv r)).length false), (.mp 1), (.mp 2)], [(.maph (.int .i64) false (List.map M_int_int.pv m) [])], [(.maph (.st [.i64, .u64]) false (List.map M_deed_Mark_int.pv m2) [])]]) (sc := t_.ev) (.k1 t_.pf (by kernel_rfl) (by kernel_rfl))
  exact e_.out ⟨⟨.eq rfl, .eq rfl, .eq rfl, .eq rfl, .eq rfl, trivial⟩, .eq rfl, trivial⟩ ⟨⟨.eq rfl, .eq rfl, .eq rfl, .eq rfl, .eq rfl, trivial⟩, ⟨.eq rfl, trivial⟩, ⟨.eq rfl, trivial⟩, trivial⟩ trivial rfl
noncomputable def kl15_do_5 (N : Nat) (a : Int) (a2 : Int) (a3 : Int) (a4 : Int) (a5 : List Int) (n : Int) (n2 : Int) (m : List (Int × Int)) (m2 : List ((Int × Int) × Int)) (n3 : Int) (n4 : Int) (r : List E_kr15_Gift) (l : List Int) (r2 : List E_kr15_Mark) (r3 : List E_deed_Gift) : Option (Bool × Int × List E_deed_Gift × List (Int × Int) × List ((Int × Int) × Int) × Int × List E_kr15_Gift × List Int × List E_kr15_Mark) :=
 (kl15_made N a5).bind fun (b, t, t2) =>
 bif (decide (((irem .u8 a 5) : Int) = 2)) then
  (deed_Deeds_Done_3 a4 n n2 m m2 r3).bind fun (n5, r4) =>
  (kr15_Done_3 a4 n3 n4 r l r2).bind fun (n6, r5) =>
  some ((decide ((n5 : Int) = n6)), n2, r4, m, m2, n4, r5, l, r2)
 else
  bif (decide (((irem .u8 a 5) : Int) = 3)) then
   (deed_Deeds_Take_3 a4 a3 a2 b t n n2 m m2 r3).bind fun (n5, m_) =>
   (kr15_Take_3 a4 a3 a2 t2 n3 n4 r l r2).bind fun (n6, r4) =>
   some ((decide ((n5 : Int) = n6)), n2, (List.take ((List.map E_deed_Gift.pv r3)).length r3), m, m_, n4, r, l, r4)
  else
   bif (decide (((irem .u8 a 5) : Int) = 4)) then
    (deed_Deeds_Take_3 a4 a3 a2 b t n n2 m m2 r3).bind fun (n5, m_) =>
    (kr15_Take_3 a4 a3 a2 t2 n3 n4 r l r2).bind fun (n6, r4) =>
    some ((decide ((n5 : Int) = n6)), n2, (List.take ((List.map E_deed_Gift.pv r3)).length r3), m, m_, n4, r, l, r4)
   else
    (deed_Deeds_Give_3 a2 b t n n2 m m2 r3).bind fun (n5, n6, n7, b2, t3, n8, n9, r4, m_) =>
    (kr15_Give_3 a2 t2 n3 n4 r l r2).bind fun (n10, n11, n12, t4, n13, n14, r5, l_) =>
    bif (decide ((n8 : Int) = n13)) then
     (kl15_same N n5 n6 n7 b2 t3 n10 n11 n12 t4).bind fun b3 =>
     some (b3, n9, r4, m_, m2, n14, r5, l_, r2)
    else
     some (false, n9, r4, m_, m2, n14, r5, l_, r2)
theorem kl15_do_5_runs (N : Nat) (a : Int) (a2 : Int) (a3 : Int) (a4 : Int) (a5 : List Int) (n : Int) (n2 : Int) (m : List (Int × Int)) (m2 : List ((Int × Int) × Int)) (n3 : Int) (n4 : Int) (r : List E_kr15_Gift) (l : List Int) (r2 : List E_kr15_Mark) (r3 : List E_deed_Gift) (r_ : Bool × Int × List E_deed_Gift × List (Int × Int) × List ((Int × Int) × Int) × Int × List E_kr15_Gift × List Int × List E_kr15_Mark) (h : kl15_do_5 N a a2 a3 a4 a5 n n2 m m2 n3 n4 r l r2 r3 = some r_) : Runs Tryz.prog 9 [(.one (.ref 0 0)), (.one (.ref 3 0)), (.agg [(.pv (.int .u8 a)), (.pv (.int .i64 a2)), (.pv (.int .i64 a3)), (.pv (.int .u64 a4)), (.pv (.ints .u8 a5 false))])] [[(.pv (.int .i64 n)), (.pv (.int .u64 n2)), (.own 0 0 ((List.map E_deed_Gift.pv r3)).length false), (.mp 1), (.mp 2)], [(.maph (.int .i64) false (List.map M_int_int.pv m) [])], [(.maph (.st [.i64, .u64]) false (List.map M_deed_Mark_int.pv m2) [])], [(.pv (.int .i64 n3)), (.pv (.int .u64 n4)), (.pv (.recs 4 (List.map E_kr15_Gift.pv r) false)), (.pv (.ints .i64 l false)), (.pv (.recs 2 (List.map E_kr15_Mark.pv r2) false))]] [(.recs 5 (List.map E_deed_Gift.pv r3))] (kl15_do_5_out a a2 a3 a4 a5 n n2 m m2 n3 n4 r l r2 r3 r_) := by
 unfold kl15_do_5 at h
 obtain ⟨⟨b, t, t2⟩, h1, h⟩ := bind_of h
 rcases cond_of h with ⟨h2, h⟩ | ⟨h2, h⟩
 ·obtain ⟨⟨n5, r4⟩, h3, h⟩ := bind_of h
  obtain ⟨⟨n6, r5⟩, h4, h⟩ := bind_of h
  have h := some_of h
  subst h
  have t_ := tR (kl15_made_runs N a5 _ h1) <| tO (rfl : true = true) <| tT h2 <| tR (deed_Deeds_Done_3_runs a4 n n2 m m2 r3 _ h3) <| tR (deed_Deeds_Done_3_runs a4 n n2 m m2 r3 _ h3) <| tR (kr15_Done_3_runs a4 n3 n4 r l r2 _ h4) <| tN
  exact runs_of (C := cfg) (objs := [[(.pv (.int .i64 n)), (.pv (.int .u64 n2)), (.own 0 0 ((List.map E_deed_Gift.pv r3)).length false), (.mp 1), (.mp 2)], [(.maph (.int .i64) false (List.map M_int_int.pv m) [])], [(.maph (.st [.i64, .u64]) false (List.map M_deed_Mark_int.pv m2) [])], [(.pv (.int .i64 n3)), (.pv (.int .u64 n4)), (.pv (.recs 4 (List.map E_kr15_Gift.pv r) false)), (.pv (.ints .i64 l false)), (.pv (.recs 2 (List.map E_kr15_Mark.pv r2) false))]]) (sc := t_.ev) (.k1 t_.pf (by kernel_rfl) (by kernel_rfl))
 ·rcases cond_of h with ⟨h3, h⟩ | ⟨h3, h⟩
  ·obtain ⟨⟨n5, m_⟩, h4, h⟩ := bind_of h
   obtain ⟨⟨n6, r4⟩, h5, h⟩ := bind_of h
   have h := some_of h
   subst h
   have t_ := tR (kl15_made_runs N a5 _ h1) <| tO (rfl : true = true) <| tF h2 <| tT h3 <| tT (rfl : true = true) <| tR (deed_Deeds_Take_3_runs a4 a3 a2 b t n n2 m m2 r3 _ h4) <| tR (deed_Deeds_Take_3_runs a4 a3 a2 b t n n2 m m2 r3 _ h4) <| tR (deed_Deeds_Take_3_runs a4 a3 a2 b t n n2 m m2 r3 _ h4) <| tR (deed_Deeds_Take_3_runs a4 a3 a2 b t n n2 m m2 r3 _ h4) <| tR (deed_Deeds_Take_3_runs a4 a3 a2 b t n n2 m m2 r3 _ h4) <| tR (deed_Deeds_Take_3_runs a4 a3 a2 b t n n2 m m2 r3 _ h4) <| tR (deed_Deeds_Take_3_runs a4 a3 a2 b t n n2 m m2 r3 _ h4) <| tR (deed_Deeds_Take_3_runs a4 a3 a2 b t n n2 m m2 r3 _ h4) <| tR (kr15_Take_3_runs a4 a3 a2 t2 n3 n4 r l r2 _ h5) <| tN
   have e_ : Runs Tryz.prog 9 [(.one (.ref 0 0)), (.one (.ref 3 0)), (.agg [(.pv (.int .u8 a)), (.pv (.int .i64 a2)), (.pv (.int .i64 a3)), (.pv (.int .u64 a4)), (.pv (.ints .u8 a5 false))])] [[(.pv (.int .i64 n)), (.pv (.int .u64 n2)), (.own 0 0 ((List.map E_deed_Gift.pv r3)).length false), (.mp 1), (.mp 2)], [(.maph (.int .i64) false (List.map M_int_int.pv m) [])], [(.maph (.st [.i64, .u64]) false (List.map M_deed_Mark_int.pv m2) [])], [(.pv (.int .i64 n3)), (.pv (.int .u64 n4)), (.pv (.recs 4 (List.map E_kr15_Gift.pv r) false)), (.pv (.ints .i64 l false)), (.pv (.recs 2 (List.map E_kr15_Mark.pv r2) false))]] [(.recs 5 (List.map E_deed_Gift.pv r3))] ([(.one (.pv (.bool (decide ((n5 : Int) = n6)))))], [[(.pv (.int .i64 n)), (.pv (.int .u64 n2)), (.own 0 0 ((List.map E_deed_Gift.pv r3)).length false), (.mp 1), (.mp 2)], [(.maph (.int .i64) false (List.map M_int_int.pv m) [])], [(.maph (.st [.i64, .u64]) false (List.map M_deed_Mark_int.pv m_) [])], [(.pv (.int .i64 n3)), (.pv (.int .u64 n4)), (.pv (.recs 4 (List.map E_kr15_Gift.pv r) false)), (.pv (.ints .i64 l false)), (.pv (.recs 2 (List.map E_kr15_Mark.pv r4) false))]], [(.recs 5 (List.map E_deed_Gift.pv r3))]) := runs_of (C := cfg) (objs := [[(.pv (.int .i64 n)), (.pv (.int .u64 n2)), (.own 0 0 ((List.map E_deed_Gift.pv r3)).length false), (.mp 1), (.mp 2)], [(.maph (.int .i64) false (List.map M_int_int.pv m) [])], [(.maph (.st [.i64, .u64]) false (List.map M_deed_Mark_int.pv m2) [])], [(.pv (.int .i64 n3)), (.pv (.int .u64 n4)), (.pv (.recs 4 (List.map E_kr15_Gift.pv r) false)), (.pv (.ints .i64 l false)), (.pv (.recs 2 (List.map E_kr15_Mark.pv r2) false))]]) (sc := t_.ev) (.k1 t_.pf (by kernel_rfl) (by kernel_rfl))
   have e_ := e_.shut (res' := ([(.one (.pv (.bool (decide ((n5 : Int) = n6)))))], [[(.pv (.int .i64 n)), (.pv (.int .u64 n2)), (.pv (.recs 5 (List.take ((List.map E_deed_Gift.pv r3)).length (List.map E_deed_Gift.pv r3)) false)), (.mp 1), (.mp 2)], [(.maph (.int .i64) false (List.map M_int_int.pv m) [])], [(.maph (.st [.i64, .u64]) false (List.map M_deed_Mark_int.pv m_) [])], [(.pv (.int .i64 n3)), (.pv (.int .u64 n4)), (.pv (.recs 4 (List.map E_kr15_Gift.pv r) false)), (.pv (.ints .i64 l false)), (.pv (.recs 2 (List.map E_kr15_Mark.pv r4) false))]], [])) [0] (by kernel_rfl)
   exact e_.out ⟨.eq rfl, trivial⟩ ⟨⟨.eq rfl, .eq rfl, .pv (.recsT (.eq (by first | rfl | (simp only [List.take_length]; done) | (simp; done) | (simp only [List.map_take, List.map_drop, List.map_append, List.take_length, List.nil_append]; done) | (simp only [List.length_map, List.take_length, List.length_append, List.drop_zero, List.map_append, List.map_take, List.map_drop, List.map_replicate, List.map_cons, List.map_nil, List.append_nil, List.nil_append]; done)))), .eq rfl, .eq rfl, trivial⟩, ⟨.eq rfl, trivial⟩, ⟨.eq rfl, trivial⟩, ⟨.eq rfl, .eq rfl, .eq rfl, .eq rfl, .eq rfl, trivial⟩, trivial⟩ trivial rfl
  ·rcases cond_of h with ⟨h4, h⟩ | ⟨h4, h⟩
   ·obtain ⟨⟨n5, m_⟩, h5, h⟩ := bind_of h
    obtain ⟨⟨n6, r4⟩, h6, h⟩ := bind_of h
    have h := some_of h
    subst h
    have t_ := tR (kl15_made_runs N a5 _ h1) <| tO (rfl : true = true) <| tF h2 <| tF h3 <| tT h4 <| tR (deed_Deeds_Take_3_runs a4 a3 a2 b t n n2 m m2 r3 _ h5) <| tR (deed_Deeds_Take_3_runs a4 a3 a2 b t n n2 m m2 r3 _ h5) <| tR (deed_Deeds_Take_3_runs a4 a3 a2 b t n n2 m m2 r3 _ h5) <| tR (deed_Deeds_Take_3_runs a4 a3 a2 b t n n2 m m2 r3 _ h5) <| tR (deed_Deeds_Take_3_runs a4 a3 a2 b t n n2 m m2 r3 _ h5) <| tR (deed_Deeds_Take_3_runs a4 a3 a2 b t n n2 m m2 r3 _ h5) <| tR (deed_Deeds_Take_3_runs a4 a3 a2 b t n n2 m m2 r3 _ h5) <| tR (deed_Deeds_Take_3_runs a4 a3 a2 b t n n2 m m2 r3 _ h5) <| tR (kr15_Take_3_runs a4 a3 a2 t2 n3 n4 r l r2 _ h6) <| tN
    have e_ : Runs Tryz.prog 9 [(.one (.ref 0 0)), (.one (.ref 3 0)), (.agg [(.pv (.int .u8 a)), (.pv (.int .i64 a2)), (.pv (.int .i64 a3)), (.pv (.int .u64 a4)), (.pv (.ints .u8 a5 false))])] [[(.pv (.int .i64 n)), (.pv (.int .u64 n2)), (.own 0 0 ((List.map E_deed_Gift.pv r3)).length false), (.mp 1), (.mp 2)], [(.maph (.int .i64) false (List.map M_int_int.pv m) [])], [(.maph (.st [.i64, .u64]) false (List.map M_deed_Mark_int.pv m2) [])], [(.pv (.int .i64 n3)), (.pv (.int .u64 n4)), (.pv (.recs 4 (List.map E_kr15_Gift.pv r) false)), (.pv (.ints .i64 l false)), (.pv (.recs 2 (List.map E_kr15_Mark.pv r2) false))]] [(.recs 5 (List.map E_deed_Gift.pv r3))] ([(.one (.pv (.bool (decide ((n5 : Int) = n6)))))], [[(.pv (.int .i64 n)), (.pv (.int .u64 n2)), (.own 0 0 ((List.map E_deed_Gift.pv r3)).length false), (.mp 1), (.mp 2)], [(.maph (.int .i64) false (List.map M_int_int.pv m) [])], [(.maph (.st [.i64, .u64]) false (List.map M_deed_Mark_int.pv m_) [])], [(.pv (.int .i64 n3)), (.pv (.int .u64 n4)), (.pv (.recs 4 (List.map E_kr15_Gift.pv r) false)), (.pv (.ints .i64 l false)), (.pv (.recs 2 (List.map E_kr15_Mark.pv r4) false))]], [(.recs 5 (List.map E_deed_Gift.pv r3))]) := runs_of (C := cfg) (objs := [[(.pv (.int .i64 n)), (.pv (.int .u64 n2)), (.own 0 0 ((List.map E_deed_Gift.pv r3)).length false), (.mp 1), (.mp 2)], [(.maph (.int .i64) false (List.map M_int_int.pv m) [])], [(.maph (.st [.i64, .u64]) false (List.map M_deed_Mark_int.pv m2) [])], [(.pv (.int .i64 n3)), (.pv (.int .u64 n4)), (.pv (.recs 4 (List.map E_kr15_Gift.pv r) false)), (.pv (.ints .i64 l false)), (.pv (.recs 2 (List.map E_kr15_Mark.pv r2) false))]]) (sc := t_.ev) (.k1 t_.pf (by kernel_rfl) (by kernel_rfl))
    have e_ := e_.shut (res' := ([(.one (.pv (.bool (decide ((n5 : Int) = n6)))))], [[(.pv (.int .i64 n)), (.pv (.int .u64 n2)), (.pv (.recs 5 (List.take ((List.map E_deed_Gift.pv r3)).length (List.map E_deed_Gift.pv r3)) false)), (.mp 1), (.mp 2)], [(.maph (.int .i64) false (List.map M_int_int.pv m) [])], [(.maph (.st [.i64, .u64]) false (List.map M_deed_Mark_int.pv m_) [])], [(.pv (.int .i64 n3)), (.pv (.int .u64 n4)), (.pv (.recs 4 (List.map E_kr15_Gift.pv r) false)), (.pv (.ints .i64 l false)), (.pv (.recs 2 (List.map E_kr15_Mark.pv r4) false))]], [])) [0] (by kernel_rfl)
    exact e_.out ⟨.eq rfl, trivial⟩ ⟨⟨.eq rfl, .eq rfl, .pv (.recsT (.eq (by first | rfl | (simp only [List.take_length]; done) | (simp; done) | (simp only [List.map_take, List.map_drop, List.map_append, List.take_length, List.nil_append]; done) | (simp only [List.length_map, List.take_length, List.length_append, List.drop_zero, List.map_append, List.map_take, List.map_drop, List.map_replicate, List.map_cons, List.map_nil, List.append_nil, List.nil_append]; done)))), .eq rfl, .eq rfl, trivial⟩, ⟨.eq rfl, trivial⟩, ⟨.eq rfl, trivial⟩, ⟨.eq rfl, .eq rfl, .eq rfl, .eq rfl, .eq rfl, trivial⟩, trivial⟩ trivial rfl
   ·obtain ⟨⟨n5, n6, n7, b2, t3, n8, n9, r4, m_⟩, h5, h⟩ := bind_of h
    have q_5 := (deed_Deeds_Give_3_runs a2 b t n n2 m m2 r3 _ h5)
    obtain ⟨⟨n10, n11, n12, t4, n13, n14, r5, l_⟩, h6, h⟩ := bind_of h
    have q_6 := (kr15_Give_3_runs a2 t2 n3 n4 r l r2 _ h6)
    rcases cond_of h with ⟨h7, h⟩ | ⟨h7, h⟩
    ·obtain ⟨b3, h8, h⟩ := bind_of h
     have h := some_of h
     subst h
     have t_ := tR (kl15_made_runs N a5 _ h1) <| tO (rfl : true = true) <| tF h2 <| tF h3 <| tF h4 <| tR q_5 <| tR q_6 <| tT h7 <| tR (kl15_same_runs N n5 n6 n7 b2 t3 n10 n11 n12 t4 _ h8) <| tN
     exact runs_of (C := cfg) (objs := [[(.pv (.int .i64 n)), (.pv (.int .u64 n2)), (.own 0 0 ((List.map E_deed_Gift.pv r3)).length false), (.mp 1), (.mp 2)], [(.maph (.int .i64) false (List.map M_int_int.pv m) [])], [(.maph (.st [.i64, .u64]) false (List.map M_deed_Mark_int.pv m2) [])], [(.pv (.int .i64 n3)), (.pv (.int .u64 n4)), (.pv (.recs 4 (List.map E_kr15_Gift.pv r) false)), (.pv (.ints .i64 l false)), (.pv (.recs 2 (List.map E_kr15_Mark.pv r2) false))]]) (sc := t_.ev) (.k0 t_.pf (by kernel_rfl))
    ·have h := some_of h
     subst h
     have t_ := tR (kl15_made_runs N a5 _ h1) <| tO (rfl : true = true) <| tF h2 <| tF h3 <| tF h4 <| tR q_5 <| tR q_6 <| tF h7 <| tN
     exact runs_of (C := cfg) (objs := [[(.pv (.int .i64 n)), (.pv (.int .u64 n2)), (.own 0 0 ((List.map E_deed_Gift.pv r3)).length false), (.mp 1), (.mp 2)], [(.maph (.int .i64) false (List.map M_int_int.pv m) [])], [(.maph (.st [.i64, .u64]) false (List.map M_deed_Mark_int.pv m2) [])], [(.pv (.int .i64 n3)), (.pv (.int .u64 n4)), (.pv (.recs 4 (List.map E_kr15_Gift.pv r) false)), (.pv (.ints .i64 l false)), (.pv (.recs 2 (List.map E_kr15_Mark.pv r2) false))]]) (sc := t_.ev) (.k0 t_.pf (by kernel_rfl))
end Go.Proofs.YtjjcmgdgifcmgaaGreat
