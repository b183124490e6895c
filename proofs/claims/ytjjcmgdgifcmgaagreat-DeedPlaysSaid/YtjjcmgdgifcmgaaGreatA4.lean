/- What functions compute, and that they do. -/
import Derived.Test.YtjjcmgdgifcmgaaGreatA3
set_option linter.unusedVariables false
set_option linter.unusedSimpArgs false
set_option maxRecDepth 100000
namespace Go.Proofs.YtjjcmgdgifcmgaaGreat
open Go.Ev
noncomputable def deed_Deeds_Give_2 (to : Int) (share : Bool) (share2 : T_id_halves) (n : Int) (n2 : Int) (r : List E_deed_Gift) (m : List (Int × Int)) (m2 : List ((Int × Int) × Int)) : Option (Int × Int × Int × Bool × T_id_halves × Int × Int × List E_deed_Gift × List (Int × Int)) :=
 (deed_Deeds_Last_2 n n2 r m m2).bind fun _ =>
 (deed_Deeds_Self_2 n n2 r m m2).bind fun _ =>
 (deed_Deeds_To_2 to n n2 r m m2).bind fun (n3, n4, n5, b, t, b2) =>
 (deed_Gift_Right (iadd .u64 n2 1) n to share share2).bind fun b3 =>
 bif b3 then
  bif b2 then
   some (0, 0, 0, false, T_id_halves.nil, 14, n2, r, m)
  else
   (deed_Deeds_Pending_2 n (iadd .u64 n2 1) r m m2).bind fun _ =>
   bif fits (((List.map E_deed_Gift.pv r) ++ ([[(.int .u64 (iadd .u64 n2 1)), (.int .i64 n), (.int .i64 to), (.bool share), (T_id_halves.pv share2)]] : List (List PV)))).length then
   match (mget to m) with
   | .some n6 =>
    some ((iadd .u64 n2 1), n, to, share, share2, 0, (iadd .u64 n2 1), (List.take (((List.map E_deed_Gift.pv r) ++ ([[(.int .u64 (iadd .u64 n2 1)), (.int .i64 n), (.int .i64 to), (.bool share), (T_id_halves.pv share2)]] : List (List PV)))).length (r ++ [(E_deed_Gift.mk (iadd .u64 n2 1) n to share share2)])), (mset to (iadd .i64 n6 1) m))
   | .none =>
    some ((iadd .u64 n2 1), n, to, share, share2, 0, (iadd .u64 n2 1), (List.take (((List.map E_deed_Gift.pv r) ++ ([[(.int .u64 (iadd .u64 n2 1)), (.int .i64 n), (.int .i64 to), (.bool share), (T_id_halves.pv share2)]] : List (List PV)))).length (r ++ [(E_deed_Gift.mk (iadd .u64 n2 1) n to share share2)])), (mset to 1 m))
   else none
 else
  some (0, 0, 0, false, T_id_halves.nil, 1, n2, r, m)
theorem deed_Deeds_Give_2_runs (to : Int) (share : Bool) (share2 : T_id_halves) (n : Int) (n2 : Int) (r : List E_deed_Gift) (m : List (Int × Int)) (m2 : List ((Int × Int) × Int)) (r_ : Int × Int × Int × Bool × T_id_halves × Int × Int × List E_deed_Gift × List (Int × Int)) (h : deed_Deeds_Give_2 to share share2 n n2 r m m2 = some r_) : Runs Tryz.prog 14 [(.one (.ref 0 0)), (.one (.pv (.int .i64 to))), (.agg [(.pv (.bool share)), (.pv (T_id_halves.pv share2))])] [[(.pv (.int .i64 n)), (.pv (.int .u64 n2)), (.pv (.recs 5 (List.map E_deed_Gift.pv r) false)), (.mp 1), (.mp 2)], [(.maph (.int .i64) false (List.map M_int_int.pv m) [])], [(.maph (.st [.i64, .u64]) false (List.map M_deed_Mark_int.pv m2) [])]] [] (deed_Deeds_Give_2_out to share share2 n n2 r m m2 r_) := by
 unfold deed_Deeds_Give_2 at h
 obtain ⟨_, h1, h⟩ := bind_of h
 obtain ⟨_, h2, h⟩ := bind_of h
 obtain ⟨⟨n3, n4, n5, b, t, b2⟩, h3, h⟩ := bind_of h
 obtain ⟨b3, h4, h⟩ := bind_of h
 have q_4 := (deed_Gift_Right_runs (iadd .u64 n2 1) n to share share2 _ h4)
 have p4_ := fun {sc_ : List Ev} {Q_ : Prop} (t_ : Tell sc_ Q_) => tR (deed_Deeds_Last_2_runs n n2 r m m2 _ h1) <| tR (deed_Deeds_Last_2_runs n n2 r m m2 _ h1) <| tR (deed_Deeds_Last_2_runs n n2 r m m2 _ h1) <| tR (deed_Deeds_Self_2_runs n n2 r m m2 _ h2) <| tR (deed_Deeds_Last_2_runs n n2 r m m2 _ h1) <| tR (deed_Deeds_Self_2_runs n n2 r m m2 _ h2) <| tR (deed_Deeds_Self_2_runs n n2 r m m2 _ h2) <| tR (deed_Deeds_Self_2_runs n n2 r m m2 _ h2) <| tR (deed_Deeds_To_2_runs to n n2 r m m2 _ h3) <| tF (rfl : false = false) <| tR q_4 <| t_
 rcases cond_of h with ⟨h5, h⟩ | ⟨h5, h⟩
 ·rcases cond_of h with ⟨h6, h⟩ | ⟨h6, h⟩
  ·have h := some_of h
   subst h
   have t_ := p4_ <| tF (not_of2 h5) <| tT h6 <| tN
   have e_ : Runs Tryz.prog 14 [(.one (.ref 0 0)), (.one (.pv (.int .i64 to))), (.agg [(.pv (.bool share)), (.pv (T_id_halves.pv share2))])] [[(.pv (.int .i64 n)), (.pv (.int .u64 n2)), (.pv (.recs 5 (List.map E_deed_Gift.pv r) false)), (.mp 1), (.mp 2)], [(.maph (.int .i64) false (List.map M_int_int.pv m) [])], [(.maph (.st [.i64, .u64]) false (List.map M_deed_Mark_int.pv m2) [])]] [] ([(.agg [(.pv (.int .u64 0)), (.pv (.int .i64 0)), (.pv (.int .i64 0)), (.pv (.bool false)), (.pv .nilp)]), (.one (.pv (.int .i64 14)))], [[(.pv (.int .i64 n)), (.pv (.int .u64 n2)), (.pv (.recs 5 (List.map E_deed_Gift.pv r) false)), (.mp 1), (.mp 2)], [(.maph (.int .i64) false (List.map M_int_int.pv m) [])], [(.maph (.st [.i64, .u64]) false (List.map M_deed_Mark_int.pv m2) [])]], []) := runs_of (C := cfg) (objs := [[(.pv (.int .i64 n)), (.pv (.int .u64 n2)), (.pv (.recs 5 (List.map E_deed_Gift.pv r) false)), (.mp 1), (.mp 2)], [(.maph (.int .i64) false (List.map M_int_int.pv m) [])], [(.maph (.st [.i64, .u64]) false (List.map M_deed_Mark_int.pv m2) [])]]) (sc := t_.ev) (.k1 t_.pf (by kernel_rfl) (by kernel_rfl))
   exact e_.out ⟨⟨.eq rfl, .eq rfl, .eq rfl, .eq rfl, .eq rfl, trivial⟩, .eq rfl, trivial⟩ ⟨⟨.eq rfl, .eq rfl, .eq rfl, .eq rfl, .eq rfl, trivial⟩, ⟨.eq rfl, trivial⟩, ⟨.eq rfl, trivial⟩, trivial⟩ trivial rfl
  ·obtain ⟨_, h7, h⟩ := bind_of h
   have q_7 := (deed_Deeds_Pending_2_runs n (iadd .u64 n2 1) r m m2 _ h7)
   obtain ⟨h8, h⟩ := need_of h
   cases h9 : (mget to m) with
   | some n6 =>
    simp only [h9] at h
    have h := some_of h
    subst h
    have t_ := p4_ <| tF (not_of2 h5) <| tF h6 <| tR q_7 <| tR q_7 <| tR q_7 <| tO (show (Nat.beq ((List.map E_deed_Gift.pv r)).length ((List.map E_deed_Gift.pv r)).length) = true from Nat.beq_refl _) <| tO h8 <| tT (show kget [(.int .i64 to)] (List.map M_int_int.pv m) = some [(.int .i64 n6)] from by first | (simp only [M_deed_Mark_int.set, M_int_int.set, M_deed_Mark_int.get, M_int_int.get, h9, Option.map_some, Option.map_none]; done) | (simp only [M_deed_Mark_int.set, M_int_int.set, M_deed_Mark_int.get, M_int_int.get, h9, Option.map_some, Option.map_none]; rfl) | (rw [← List.map_nil]; simp only [M_deed_Mark_int.set, M_int_int.set, M_deed_Mark_int.get, M_int_int.get, h9, Option.map_some, Option.map_none]; rfl)) <| tE (.el [(.int .i64 n6)]) <| tN
    have e_ : Runs Tryz.prog 14 [(.one (.ref 0 0)), (.one (.pv (.int .i64 to))), (.agg [(.pv (.bool share)), (.pv (T_id_halves.pv share2))])] [[(.pv (.int .i64 n)), (.pv (.int .u64 n2)), (.pv (.recs 5 (List.map E_deed_Gift.pv r) false)), (.mp 1), (.mp 2)], [(.maph (.int .i64) false (List.map M_int_int.pv m) [])], [(.maph (.st [.i64, .u64]) false (List.map M_deed_Mark_int.pv m2) [])]] [] ([(.agg [(.pv (.int .u64 (iadd .u64 n2 1))), (.pv (.int .i64 n)), (.pv (.int .i64 to)), (.pv (.bool share)), (.pv (T_id_halves.pv share2))]), (.one (.pv (.int .i64 0)))], [[(.pv (.int .i64 n)), (.pv (.int .u64 (iadd .u64 n2 1))), (.own 0 0 (((List.map E_deed_Gift.pv r) ++ ([[(.int .u64 (iadd .u64 n2 1)), (.int .i64 n), (.int .i64 to), (.bool share), (T_id_halves.pv share2)]] : List (List PV)))).length false), (.mp 1), (.mp 2)], [(.maph (.int .i64) false (kset [(.int .i64 to)] [(.int .i64 (iadd .i64 n6 1))] (List.map M_int_int.pv m)) [])], [(.maph (.st [.i64, .u64]) false (List.map M_deed_Mark_int.pv m2) [])]], [(.recs 5 ((List.map E_deed_Gift.pv r) ++ ([[(.int .u64 (iadd .u64 n2 1)), (.int .i64 n), (.int .i64 to), (.bool share), (T_id_halves.pv share2)]] : List (List PV))))]) := runs_of (C := cfg) (objs := [[(.pv (.int .i64 n)), (.pv (.int .u64 n2)), (.pv (.recs 5 (List.map E_deed_Gift.pv r) false)), (.mp 1), (.mp 2)], [(.maph (.int .i64) false (List.map M_int_int.pv m) [])], [(.maph (.st [.i64, .u64]) false (List.map M_deed_Mark_int.pv m2) [])]]) (sc := t_.ev) (.k1 t_.pf (by kernel_rfl) (by kernel_rfl))
    have e_ := e_.shut (res' := ([(.agg [(.pv (.int .u64 (iadd .u64 n2 1))), (.pv (.int .i64 n)), (.pv (.int .i64 to)), (.pv (.bool share)), (.pv (T_id_halves.pv share2))]), (.one (.pv (.int .i64 0)))], [[(.pv (.int .i64 n)), (.pv (.int .u64 (iadd .u64 n2 1))), (.pv (.recs 5 (List.take (((List.map E_deed_Gift.pv r) ++ ([[(.int .u64 (iadd .u64 n2 1)), (.int .i64 n), (.int .i64 to), (.bool share), (T_id_halves.pv share2)]] : List (List PV)))).length ((List.map E_deed_Gift.pv r) ++ ([[(.int .u64 (iadd .u64 n2 1)), (.int .i64 n), (.int .i64 to), (.bool share), (T_id_halves.pv share2)]] : List (List PV)))) false)), (.mp 1), (.mp 2)], [(.maph (.int .i64) false (kset [(.int .i64 to)] [(.int .i64 (iadd .i64 n6 1))] (List.map M_int_int.pv m)) [])], [(.maph (.st [.i64, .u64]) false (List.map M_deed_Mark_int.pv m2) [])]], [])) [0] (by kernel_rfl)
    exact e_.out ⟨⟨.eq rfl, .eq rfl, .eq rfl, .eq rfl, .eq rfl, trivial⟩, .eq rfl, trivial⟩ ⟨⟨.eq rfl, .eq rfl, .pv (.recsT (.takeN (by first | rfl | (simp only [List.take_length]; done) | (simp; done)) (.app (.eq rfl) (.cons (.cons (.eq rfl) (.cons (.eq rfl) (.cons (.eq rfl) (.cons (.eq rfl) (.cons (.eq rfl) (.nil)))))) (.nil))))), .eq rfl, .eq rfl, trivial⟩, ⟨.maph (WkEs.to (WkEs.set (.cons (.eq rfl) (.nil)) (WkEs.refl _)) (by first | rfl | (simp only [M_deed_Mark_int.set, M_int_int.set]; done) | (simp only [M_deed_Mark_int.set, M_int_int.set, kset, kdel]; rfl))), trivial⟩, ⟨.eq rfl, trivial⟩, trivial⟩ trivial rfl
   | none =>
    simp only [h9] at h
    have h := some_of h
    subst h
    have t_ := p4_ <| tF (not_of2 h5) <| tF h6 <| tR q_7 <| tR q_7 <| tR q_7 <| tO (show (Nat.beq ((List.map E_deed_Gift.pv r)).length ((List.map E_deed_Gift.pv r)).length) = true from Nat.beq_refl _) <| tO h8 <| tF (show kget [(.int .i64 to)] (List.map M_int_int.pv m) = none from by first | (simp only [M_deed_Mark_int.set, M_int_int.set, M_deed_Mark_int.get, M_int_int.get, h9, Option.map_some, Option.map_none]; done) | (simp only [M_deed_Mark_int.set, M_int_int.set, M_deed_Mark_int.get, M_int_int.get, h9, Option.map_some, Option.map_none]; rfl) | (rw [← List.map_nil]; simp only [M_deed_Mark_int.set, M_int_int.set, M_deed_Mark_int.get, M_int_int.get, h9, Option.map_some, Option.map_none]; rfl)) <| tN
    have e_ : Runs Tryz.prog 14 [(.one (.ref 0 0)), (.one (.pv (.int .i64 to))), (.agg [(.pv (.bool share)), (.pv (T_id_halves.pv share2))])] [[(.pv (.int .i64 n)), (.pv (.int .u64 n2)), (.pv (.recs 5 (List.map E_deed_Gift.pv r) false)), (.mp 1), (.mp 2)], [(.maph (.int .i64) false (List.map M_int_int.pv m) [])], [(.maph (.st [.i64, .u64]) false (List.map M_deed_Mark_int.pv m2) [])]] [] ([(.agg [(.pv (.int .u64 (iadd .u64 n2 1))), (.pv (.int .i64 n)), (.pv (.int .i64 to)), (.pv (.bool share)), (.pv (T_id_halves.pv share2))]), (.one (.pv (.int .i64 0)))], [[(.pv (.int .i64 n)), (.pv (.int .u64 (iadd .u64 n2 1))), (.own 0 0 (((List.map E_deed_Gift.pv r) ++ ([[(.int .u64 (iadd .u64 n2 1)), (.int .i64 n), (.int .i64 to), (.bool share), (T_id_halves.pv share2)]] : List (List PV)))).length false), (.mp 1), (.mp 2)], [(.maph (.int .i64) false (kset [(.int .i64 to)] [(.int .i64 1)] (List.map M_int_int.pv m)) [])], [(.maph (.st [.i64, .u64]) false (List.map M_deed_Mark_int.pv m2) [])]], [(.recs 5 ((List.map E_deed_Gift.pv r) ++ ([[(.int .u64 (iadd .u64 n2 1)), (.int .i64 n), (.int .i64 to), (.bool share), (T_id_halves.pv share2)]] : List (List PV))))]) := runs_of (C := cfg) (objs := [[(.pv (.int .i64 n)), (.pv (.int .u64 n2)), (.pv (.recs 5 (List.map E_deed_Gift.pv r) false)), (.mp 1), (.mp 2)], [(.maph (.int .i64) false (List.map M_int_int.pv m) [])], [(.maph (.st [.i64, .u64]) false (List.map M_deed_Mark_int.pv m2) [])]]) (sc := t_.ev) (.k1 t_.pf (by kernel_rfl) (by kernel_rfl))
    have e_ := e_.shut (res' := ([(.agg [(.pv (.int .u64 (iadd .u64 n2 1))), (.pv (.int .i64 n)), (.pv (.int .i64 to)), (.pv (.bool share)), (.pv (T_id_halves.pv share2))]), (.one (.pv (.int .i64 0)))], [[(.pv (.int .i64 n)), (.pv (.int .u64 (iadd .u64 n2 1))), (.pv (.recs 5 (List.take (((List.map E_deed_Gift.pv r) ++ ([[(.int .u64 (iadd .u64 n2 1)), (.int .i64 n), (.int .i64 to), (.bool share), (T_id_halves.pv share2)]] : List (List PV)))).length ((List.map E_deed_Gift.pv r) ++ ([[(.int .u64 (iadd .u64 n2 1)), (.int .i64 n), (.int .i64 to), (.bool share), (T_id_halves.pv share2)]] : List (List PV)))) false)), (.mp 1), (.mp 2)], [(.maph (.int .i64) false (kset [(.int .i64 to)] [(.int .i64 1)] (List.map M_int_int.pv m)) [])], [(.maph (.st [.i64, .u64]) false (List.map M_deed_Mark_int.pv m2) [])]], [])) [0] (by kernel_rfl)
    exact e_.out ⟨⟨.eq rfl, .eq rfl, .eq rfl, .eq rfl, .eq rfl, trivial⟩, .eq rfl, trivial⟩ ⟨⟨.eq rfl, .eq rfl, .pv (.recsT (.takeN (by first | rfl | (simp only [List.take_length]; done) | (simp; done)) (.app (.eq rfl) (.cons (.cons (.eq rfl) (.cons (.eq rfl) (.cons (.eq rfl) (.cons (.eq rfl) (.cons (.eq rfl) (.nil)))))) (.nil))))), .eq rfl, .eq rfl, trivial⟩, ⟨.maph (WkEs.to (WkEs.set (.cons (.eq rfl) (.nil)) (WkEs.refl _)) (by first | rfl | (simp only [M_deed_Mark_int.set, M_int_int.set]; done) | (simp only [M_deed_Mark_int.set, M_int_int.set, kset, kdel]; rfl))), trivial⟩, ⟨.eq rfl, trivial⟩, trivial⟩ trivial rfl
 ·have h := some_of h
  subst h
  have t_ := p4_ <| tT (not_of h5) <| tN
  have e_ : Runs Tryz.prog 14 [(.one (.ref 0 0)), (.one (.pv (.int .i64 to))), (.agg [(.pv (.bool share)), (.pv (T_id_halves.pv share2))])] [[(.pv (.int .i64 n)), (.pv (.int .u64 n2)), (.pv (.recs 5 (List.map E_deed_Gift.pv r) false)), (.mp 1), (.mp 2)], [(.maph (.int .i64) false (List.map M_int_int.pv m) [])], [(.maph (.st [.i64, .u64]) false (List.map M_deed_Mark_int.pv m2) [])]] [] ([(.agg [(.pv (.int .u64 0)), (.pv (.int .i64 0)), (.pv (.int .i64 0)), (.pv (.bool false)), (.pv .nilp)]), (.one (.pv (.int .i64 1)))], [[(.pv (.int .i64 n)), (.pv (.int .u64 n2)), (.pv (.recs 5 (List.map E_deed_Gift.pv r) false)), (.mp 1), (.mp 2)], [(.maph (.int .i64) false (List.map M_int_int.pv m) [])], [(.maph (.st [.i64, .u64]) false (List.map M_deed_Mark_int.pv m2) [])]], []) := runs_of (C := cfg) (objs := [[(.pv (.int .i64 n)), (.pv (.int .u64 n2)), (.pv (.recs 5 (List.map E_deed_Gift.pv r) false)), (.mp 1), (.mp 2)], [(.maph (.int .i64) false (List.map M_int_int.pv m) [])], [(.maph (.st [.i64, .u64]) false (List.map M_deed_Mark_int.pv m2) [])]]) (sc := t_.ev) (.k1 t_.pf (by kernel_rfl) (by kernel_rfl))
  exact e_.out ⟨⟨.eq rfl, .eq rfl, .eq rfl, .eq rfl, .eq rfl, trivial⟩, .eq rfl, trivial⟩ ⟨⟨.eq rfl, .eq rfl, .eq rfl, .eq rfl, .eq rfl, trivial⟩, ⟨.eq rfl, trivial⟩, ⟨.eq rfl, trivial⟩, trivial⟩ trivial rfl
noncomputable def kl15_do_4 (N : Nat) (a : Int) (a2 : Int) (a3 : Int) (a4 : Int) (a5 : List Int) (n : Int) (n2 : Int) (r : List E_deed_Gift) (m : List (Int × Int)) (m2 : List ((Int × Int) × Int)) (n3 : Int) (n4 : Int) (r2 : List E_kr15_Gift) (l : List Int) (r3 : List E_kr15_Mark) : Option (Bool × Int × List E_deed_Gift × List (Int × Int) × List ((Int × Int) × Int) × Int × List E_kr15_Gift × List Int × List E_kr15_Mark) :=
 (kl15_made N a5).bind fun (b, t, t2) =>
 bif (decide (((irem .u8 a 5) : Int) = 2)) then
  (deed_Deeds_Done a4 n n2 r m m2).bind fun (n5, r4) =>
  (kr15_Done_3 a4 n3 n4 r2 l r3).bind fun (n6, r5) =>
  some ((decide ((n5 : Int) = n6)), n2, r4, m, m2, n4, r5, l, r3)
 else
  bif (decide (((irem .u8 a 5) : Int) = 3)) then
   (deed_Deeds_Take_2 a4 a3 a2 b t n n2 r m m2).bind fun (n5, m_) =>
   (kr15_Take_3 a4 a3 a2 t2 n3 n4 r2 l r3).bind fun (n6, r4) =>
   some ((decide ((n5 : Int) = n6)), n2, r, m, m_, n4, r2, l, r4)
  else
   bif (decide (((irem .u8 a 5) : Int) = 4)) then
    (deed_Deeds_Take_2 a4 a3 a2 b t n n2 r m m2).bind fun (n5, m_) =>
    (kr15_Take_3 a4 a3 a2 t2 n3 n4 r2 l r3).bind fun (n6, r4) =>
    some ((decide ((n5 : Int) = n6)), n2, r, m, m_, n4, r2, l, r4)
   else
    (deed_Deeds_Give_2 a2 b t n n2 r m m2).bind fun (n5, n6, n7, b2, t3, n8, n9, r4, m_) =>
    (kr15_Give_3 a2 t2 n3 n4 r2 l r3).bind fun (n10, n11, n12, t4, n13, n14, r5, l_) =>
    bif (decide ((n8 : Int) = n13)) then
     (kl15_same N n5 n6 n7 b2 t3 n10 n11 n12 t4).bind fun b3 =>
     some (b3, n9, r4, m_, m2, n14, r5, l_, r3)
    else
     some (false, n9, r4, m_, m2, n14, r5, l_, r3)
theorem kl15_do_4_runs (N : Nat) (a : Int) (a2 : Int) (a3 : Int) (a4 : Int) (a5 : List Int) (n : Int) (n2 : Int) (r : List E_deed_Gift) (m : List (Int × Int)) (m2 : List ((Int × Int) × Int)) (n3 : Int) (n4 : Int) (r2 : List E_kr15_Gift) (l : List Int) (r3 : List E_kr15_Mark) (r_ : Bool × Int × List E_deed_Gift × List (Int × Int) × List ((Int × Int) × Int) × Int × List E_kr15_Gift × List Int × List E_kr15_Mark) (h : kl15_do_4 N a a2 a3 a4 a5 n n2 r m m2 n3 n4 r2 l r3 = some r_) : Runs Tryz.prog 9 [(.one (.ref 0 0)), (.one (.ref 3 0)), (.agg [(.pv (.int .u8 a)), (.pv (.int .i64 a2)), (.pv (.int .i64 a3)), (.pv (.int .u64 a4)), (.pv (.ints .u8 a5 false))])] [[(.pv (.int .i64 n)), (.pv (.int .u64 n2)), (.pv (.recs 5 (List.map E_deed_Gift.pv r) false)), (.mp 1), (.mp 2)], [(.maph (.int .i64) false (List.map M_int_int.pv m) [])], [(.maph (.st [.i64, .u64]) false (List.map M_deed_Mark_int.pv m2) [])], [(.pv (.int .i64 n3)), (.pv (.int .u64 n4)), (.pv (.recs 4 (List.map E_kr15_Gift.pv r2) false)), (.pv (.ints .i64 l false)), (.pv (.recs 2 (List.map E_kr15_Mark.pv r3) false))]] [] (kl15_do_4_out a a2 a3 a4 a5 n n2 r m m2 n3 n4 r2 l r3 r_) := by
 unfold kl15_do_4 at h
 obtain ⟨⟨b, t, t2⟩, h1, h⟩ := bind_of h
 rcases cond_of h with ⟨h2, h⟩ | ⟨h2, h⟩
 ·obtain ⟨⟨n5, r4⟩, h3, h⟩ := bind_of h
  obtain ⟨⟨n6, r5⟩, h4, h⟩ := bind_of h
  have h := some_of h
  subst h
  have t_ := tR (kl15_made_runs N a5 _ h1) <| tO (rfl : true = true) <| tT h2 <| tR (deed_Deeds_Done_runs a4 n n2 r m m2 _ h3) <| tR (deed_Deeds_Done_runs a4 n n2 r m m2 _ h3) <| tR (kr15_Done_3_runs a4 n3 n4 r2 l r3 _ h4) <| tN
  exact runs_of (C := cfg) (objs := [[(.pv (.int .i64 n)), (.pv (.int .u64 n2)), (.pv (.recs 5 (List.map E_deed_Gift.pv r) false)), (.mp 1), (.mp 2)], [(.maph (.int .i64) false (List.map M_int_int.pv m) [])], [(.maph (.st [.i64, .u64]) false (List.map M_deed_Mark_int.pv m2) [])], [(.pv (.int .i64 n3)), (.pv (.int .u64 n4)), (.pv (.recs 4 (List.map E_kr15_Gift.pv r2) false)), (.pv (.ints .i64 l false)), (.pv (.recs 2 (List.map E_kr15_Mark.pv r3) false))]]) (sc := t_.ev) (.k1 t_.pf (by kernel_rfl) (by kernel_rfl))
 ·rcases cond_of h with ⟨h3, h⟩ | ⟨h3, h⟩
  ·obtain ⟨⟨n5, m_⟩, h4, h⟩ := bind_of h
   obtain ⟨⟨n6, r4⟩, h5, h⟩ := bind_of h
   have h := some_of h
   subst h
   have t_ := tR (kl15_made_runs N a5 _ h1) <| tO (rfl : true = true) <| tF h2 <| tT h3 <| tT (rfl : true = true) <| tR (deed_Deeds_Take_2_runs a4 a3 a2 b t n n2 r m m2 _ h4) <| tR (deed_Deeds_Take_2_runs a4 a3 a2 b t n n2 r m m2 _ h4) <| tR (deed_Deeds_Take_2_runs a4 a3 a2 b t n n2 r m m2 _ h4) <| tR (deed_Deeds_Take_2_runs a4 a3 a2 b t n n2 r m m2 _ h4) <| tR (deed_Deeds_Take_2_runs a4 a3 a2 b t n n2 r m m2 _ h4) <| tR (deed_Deeds_Take_2_runs a4 a3 a2 b t n n2 r m m2 _ h4) <| tR (deed_Deeds_Take_2_runs a4 a3 a2 b t n n2 r m m2 _ h4) <| tR (deed_Deeds_Take_2_runs a4 a3 a2 b t n n2 r m m2 _ h4) <| tR (kr15_Take_3_runs a4 a3 a2 t2 n3 n4 r2 l r3 _ h5) <| tN
   exact runs_of (C := cfg) (objs := [[(.pv (.int .i64 n)), (.pv (.int .u64 n2)), (.pv (.recs 5 (List.map E_deed_Gift.pv r) false)), (.mp 1), (.mp 2)], [(.maph (.int .i64) false (List.map M_int_int.pv m) [])], [(.maph (.st [.i64, .u64]) false (List.map M_deed_Mark_int.pv m2) [])], [(.pv (.int .i64 n3)), (.pv (.int .u64 n4)), (.pv (.recs 4 (List.map E_kr15_Gift.pv r2) false)), (.pv (.ints .i64 l false)), (.pv (.recs 2 (List.map E_kr15_Mark.pv r3) false))]]) (sc := t_.ev) (.k1 t_.pf (by kernel_rfl) (by kernel_rfl))
  ·rcases cond_of h with ⟨h4, h⟩ | ⟨h4, h⟩
   ·obtain ⟨⟨n5, m_⟩, h5, h⟩ := bind_of h
    obtain ⟨⟨n6, r4⟩, h6, h⟩ := bind_of h
    have h := some_of h
    subst h
    have t_ := tR (kl15_made_runs N a5 _ h1) <| tO (rfl : true = true) <| tF h2 <| tF h3 <| tT h4 <| tR (deed_Deeds_Take_2_runs a4 a3 a2 b t n n2 r m m2 _ h5) <| tR (deed_Deeds_Take_2_runs a4 a3 a2 b t n n2 r m m2 _ h5) <| tR (deed_Deeds_Take_2_runs a4 a3 a2 b t n n2 r m m2 _ h5) <| tR (deed_Deeds_Take_2_runs a4 a3 a2 b t n n2 r m m2 _ h5) <| tR (deed_Deeds_Take_2_runs a4 a3 a2 b t n n2 r m m2 _ h5) <| tR (deed_Deeds_Take_2_runs a4 a3 a2 b t n n2 r m m2 _ h5) <| tR (deed_Deeds_Take_2_runs a4 a3 a2 b t n n2 r m m2 _ h5) <| tR (deed_Deeds_Take_2_runs a4 a3 a2 b t n n2 r m m2 _ h5) <| tR (kr15_Take_3_runs a4 a3 a2 t2 n3 n4 r2 l r3 _ h6) <| tN
    exact runs_of (C := cfg) (objs := [[(.pv (.int .i64 n)), (.pv (.int .u64 n2)), (.pv (.recs 5 (List.map E_deed_Gift.pv r) false)), (.mp 1), (.mp 2)], [(.maph (.int .i64) false (List.map M_int_int.pv m) [])], [(.maph (.st [.i64, .u64]) false (List.map M_deed_Mark_int.pv m2) [])], [(.pv (.int .i64 n3)), (.pv (.int .u64 n4)), (.pv (.recs 4 (List.map E_kr15_Gift.pv r2) false)), (.pv (.ints .i64 l false)), (.pv (.recs 2 (List.map E_kr15_Mark.pv r3) false))]]) (sc := t_.ev) (.k1 t_.pf (by kernel_rfl) (by kernel_rfl))
   ·obtain ⟨⟨n5, n6, n7, b2, t3, n8, n9, r4, m_⟩, h5, h⟩ := bind_of h
    have q_5 := (deed_Deeds_Give_2_runs a2 b t n n2 r m m2 _ h5)
    obtain ⟨⟨n10, n11, n12, t4, n13, n14, r5, l_⟩, h6, h⟩ := bind_of h
    have q_6 := (kr15_Give_3_runs a2 t2 n3 n4 r2 l r3 _ h6)
    rcases cond_of h with ⟨h7, h⟩ | ⟨h7, h⟩
    ·obtain ⟨b3, h8, h⟩ := bind_of h
     have h := some_of h
     subst h
     have t_ := tR (kl15_made_runs N a5 _ h1) <| tO (rfl : true = true) <| tF h2 <| tF h3 <| tF h4 <| tR q_5 <| tR q_6 <| tT h7 <| tR (kl15_same_runs N n5 n6 n7 b2 t3 n10 n11 n12 t4 _ h8) <| tN
     exact runs_of (C := cfg) (objs := [[(.pv (.int .i64 n)), (.pv (.int .u64 n2)), (.pv (.recs 5 (List.map E_deed_Gift.pv r) false)), (.mp 1), (.mp 2)], [(.maph (.int .i64) false (List.map M_int_int.pv m) [])], [(.maph (.st [.i64, .u64]) false (List.map M_deed_Mark_int.pv m2) [])], [(.pv (.int .i64 n3)), (.pv (.int .u64 n4)), (.pv (.recs 4 (List.map E_kr15_Gift.pv r2) false)), (.pv (.ints .i64 l false)), (.pv (.recs 2 (List.map E_kr15_Mark.pv r3) false))]]) (sc := t_.ev) (.k0 t_.pf (by kernel_rfl))
    ·have h := some_of h
     subst h
     have t_ := tR (kl15_made_runs N a5 _ h1) <| tO (rfl : true = true) <| tF h2 <| tF h3 <| tF h4 <| tR q_5 <| tR q_6 <| tF h7 <| tN
     exact runs_of (C := cfg) (objs := [[(.pv (.int .i64 n)), (.pv (.int .u64 n2)), (.pv (.recs 5 (List.map E_deed_Gift.pv r) false)), (.mp 1), (.mp 2)], [(.maph (.int .i64) false (List.map M_int_int.pv m) [])], [(.maph (.st [.i64, .u64]) false (List.map M_deed_Mark_int.pv m2) [])], [(.pv (.int .i64 n3)), (.pv (.int .u64 n4)), (.pv (.recs 4 (List.map E_kr15_Gift.pv r2) false)), (.pv (.ints .i64 l false)), (.pv (.recs 2 (List.map E_kr15_Mark.pv r3) false))]]) (sc := t_.ev) (.k0 t_.pf (by kernel_rfl))
def kl15_DeedPlays_L0_4_st (r : List E_kl15_Act) (n : Int) (n2 : Int) (n3 : Int) : Int × Int × List E_deed_Gift × List (Int × Int) × List ((Int × Int) × Int) × Int × List E_kr15_Gift × List Int × List E_kr15_Mark → St
 | (n4, n5, r2, m, m2, n6, r3, l, r4) => ⟨[(6, (.av (.one (.ref 0 0)))), (7, (.av (.one (.ref 3 0)))), (20, (.av (.one (.pv (.recs 5 (List.map E_kl15_Act.pv r) false))))), (21, (.av (.one (.pv (.int .i64 n))))), (22, (.av (.one (.pv (.int .i64 n4)))))], [(0, [(.pv (.int .i64 n2)), (.pv (.int .u64 n5)), (.pv (.recs 5 (List.map E_deed_Gift.pv r2) false)), (.mp 1), (.mp 2)]), (1, [(.maph (.int .i64) false (List.map M_int_int.pv m) [])]), (2, [(.maph (.st [.i64, .u64]) false (List.map M_deed_Mark_int.pv m2) [])]), (3, [(.pv (.int .i64 n3)), (.pv (.int .u64 n6)), (.pv (.recs 4 (List.map E_kr15_Gift.pv r3) false)), (.pv (.ints .i64 l false)), (.pv (.recs 2 (List.map E_kr15_Mark.pv r4) false))])], []⟩
def kl15_DeedPlays_L0_4_ex (r : List E_kl15_Act) (n : Int) (n2 : Int) (n3 : Int) : (Int × List E_deed_Gift × List (Int × Int) × List ((Int × Int) × Int) × Int × List E_kr15_Gift × List Int × List E_kr15_Mark × Int × Int × Int × Int × List Int) ⊕ ((Unit) ⊕ (Int × List E_deed_Gift × List (Int × Int) × List ((Int × Int) × Int) × Int × List E_kr15_Gift × List Int × List E_kr15_Mark)) → Ex × St
 | .inl (r1, r2, r3, r4, r5, r6, r7, r8, r9, r10, r11, r12, r13) => ((.exit 0), ⟨[(6, (.av (.one (.ref 0 0)))), (7, (.av (.one (.ref 3 0))))], [(0, [(.pv (.int .i64 n2)), (.pv (.int .u64 r1)), (.pv (.recs 5 (List.map E_deed_Gift.pv r2) false)), (.mp 1), (.mp 2)]), (1, [(.maph (.int .i64) false (List.map M_int_int.pv r3) [])]), (2, [(.maph (.st [.i64, .u64]) false (List.map M_deed_Mark_int.pv r4) [])]), (3, [(.pv (.int .i64 n3)), (.pv (.int .u64 r5)), (.pv (.recs 4 (List.map E_kr15_Gift.pv r6) false)), (.pv (.ints .i64 r7 false)), (.pv (.recs 2 (List.map E_kr15_Mark.pv r8) false))]), (4, [(.pv (.int .u8 r9)), (.pv (.int .i64 r10)), (.pv (.int .i64 r11)), (.pv (.int .u64 r12)), (.pv (.ints .u8 r13 false))])], []⟩)
 | .inr (.inl _) => (.ret, ⟨[(4, (.av (.one (.pv (.bool false)))))], [], []⟩)
 | .inr (.inr (r1, r2, r3, r4, r5, r6, r7, r8)) => ((.exit 0), ⟨[(6, (.av (.one (.ref 0 0)))), (7, (.av (.one (.ref 3 0))))], [(0, [(.pv (.int .i64 n2)), (.pv (.int .u64 r1)), (.pv (.recs 5 (List.map E_deed_Gift.pv r2) false)), (.mp 1), (.mp 2)]), (1, [(.maph (.int .i64) false (List.map M_int_int.pv r3) [])]), (2, [(.maph (.st [.i64, .u64]) false (List.map M_deed_Mark_int.pv r4) [])]), (3, [(.pv (.int .i64 n3)), (.pv (.int .u64 r5)), (.pv (.recs 4 (List.map E_kr15_Gift.pv r6) false)), (.pv (.ints .i64 r7 false)), (.pv (.recs 2 (List.map E_kr15_Mark.pv r8) false))])], []⟩)
noncomputable def kl15_DeedPlays_L0_4_step (N : Nat) (r : List E_kl15_Act) (n : Int) (n2 : Int) (n3 : Int) : Int × Int × List E_deed_Gift × List (Int × Int) × List ((Int × Int) × Int) × Int × List E_kr15_Gift × List Int × List E_kr15_Mark → Option ((Int × Int × List E_deed_Gift × List (Int × Int) × List ((Int × Int) × Int) × Int × List E_kr15_Gift × List Int × List E_kr15_Mark) ⊕ ((Int × List E_deed_Gift × List (Int × Int) × List ((Int × Int) × Int) × Int × List E_kr15_Gift × List Int × List E_kr15_Mark × Int × Int × Int × Int × List Int) ⊕ ((Unit) ⊕ (Int × List E_deed_Gift × List (Int × Int) × List ((Int × Int) × Int) × Int × List E_kr15_Gift × List Int × List E_kr15_Mark))))
 | (n4, n5, r2, m, m2, n6, r3, l, r4) =>
 bif (decide ((n4 : Int) < n)) then
  bif decide ((0 : Int) ≤ n4) && decide ((n4 : Int) < (((List.map E_kl15_Act.pv r)).length : Int)) then
  (r[(n4).toNat]?).bind fun e_ => match e_ with
  | .mk n7 n8 n9 n10 l_ =>
  bif (decide ((40 : Int) ≤ n4)) then
   some (.inr (.inl (n5, r2, m, m2, n6, r3, l, r4, n7, n8, n9, n10, l_)))
  else
   (kl15_do_4 N n7 n8 n9 n10 l_ n2 n5 r2 m m2 n3 n6 r3 l r4).bind fun (b, n11, r5, m_, m_2, n12, r6, l_2, r7) =>
   bif b then
    some (.inl ((iadd .i64 n4 1), n11, r5, m_, m_2, n12, r6, l_2, r7))
   else
    some (.inr (.inr (.inl ())))
  else none
 else
  some (.inr (.inr (.inr (n5, r2, m, m2, n6, r3, l, r4))))
theorem kl15_DeedPlays_L0_4_ok (N : Nat) (r : List E_kl15_Act) (n : Int) (n2 : Int) (n3 : Int) (s_ : Int × Int × List E_deed_Gift × List (Int × Int) × List ((Int × Int) × Int) × Int × List E_kr15_Gift × List Int × List E_kr15_Mark) (z_ : (Int × Int × List E_deed_Gift × List (Int × Int) × List ((Int × Int) × Int) × Int × List E_kr15_Gift × List Int × List E_kr15_Mark) ⊕ ((Int × List E_deed_Gift × List (Int × Int) × List ((Int × Int) × Int) × Int × List E_kr15_Gift × List Int × List E_kr15_Mark × Int × Int × Int × Int × List Int) ⊕ ((Unit) ⊕ (Int × List E_deed_Gift × List (Int × Int) × List ((Int × Int) × Int) × Int × List E_kr15_Gift × List Int × List E_kr15_Mark)))) (h : kl15_DeedPlays_L0_4_step N r n n2 n3 s_ = some z_) : RoundOk Tryz.prog cfg 3 0 (loopAt Tryz.prog 3 0) (kl15_DeedPlays_L0_4_st r n n2 n3) (kl15_DeedPlays_L0_4_ex r n n2 n3) s_ z_ := by
 rcases s_ with ⟨n4, n5, r2, m, m2, n6, r3, l, r4⟩
 rcases cond_of h with ⟨h1, h⟩ | ⟨h1, h⟩
 ·obtain ⟨h2, h⟩ := need_of h
  obtain ⟨⟨n7, n8, n9, n10, l_⟩, h3, h⟩ := bind_of h
  rcases cond_of h with ⟨h4, h⟩ | ⟨h4, h⟩
  ·have h := some_of h
   subst h
   have t_ := tT h1 <| tO h2 <| tE (.el [(.int .u8 n7), (.int .i64 n8), (.int .i64 n9), (.int .u64 n10), (.ints .u8 l_ false)]) <| tO (el_of (f := E_kl15_Act.pv) h3) <| tT h4 <| tN
   exact ⟨t_.ev, ⟨[(28, (.av (.one (.pv (.bool true))))), (6, (.av (.one (.ref 0 0)))), (7, (.av (.one (.ref 3 0)))), (9, (.av (.one (.ref 4 0)))), (20, (.av (.one (.pv (.recs 5 (List.map E_kl15_Act.pv r) false))))), (21, (.av (.one (.pv (.int .i64 n))))), (22, (.av (.one (.pv (.int .i64 n4))))), (28, (.av (.one (.pv (.bool (decide ((40 : Int) ≤ n4)))))))], [(0, [(.pv (.int .i64 n2)), (.pv (.int .u64 n5)), (.pv (.recs 5 (List.map E_deed_Gift.pv r2) false)), (.mp 1), (.mp 2)]), (1, [(.maph (.int .i64) false (List.map M_int_int.pv m) [])]), (2, [(.maph (.st [.i64, .u64]) false (List.map M_deed_Mark_int.pv m2) [])]), (3, [(.pv (.int .i64 n3)), (.pv (.int .u64 n6)), (.pv (.recs 4 (List.map E_kr15_Gift.pv r3) false)), (.pv (.ints .i64 l false)), (.pv (.recs 2 (List.map E_kr15_Mark.pv r4) false))]), (4, [(.pv (.int .u8 n7)), (.pv (.int .i64 n8)), (.pv (.int .i64 n9)), (.pv (.int .u64 n10)), (.pv (.ints .u8 l_ false))])], []⟩, .k0 t_.pf (by kernel_rfl), ⟨⟨⟨_, rfl, .eq rfl⟩, ⟨_, rfl, .eq rfl⟩, trivial⟩, ⟨⟨rfl, ⟨.eq rfl, .eq rfl, .eq rfl, .eq rfl, .eq rfl, trivial⟩⟩, ⟨rfl, ⟨.eq rfl, trivial⟩⟩, ⟨rfl, ⟨.eq rfl, trivial⟩⟩, ⟨rfl, ⟨.eq rfl, .eq rfl, .eq rfl, .eq rfl, .eq rfl, trivial⟩⟩, ⟨rfl, ⟨.eq rfl, .eq rfl, .eq rfl, .eq rfl, .eq rfl, trivial⟩⟩, trivial⟩, trivial⟩⟩
  ·obtain ⟨⟨b, n11, r5, m_, m_2, n12, r6, l_2, r7⟩, h5, h⟩ := bind_of h
   have q_5 := (kl15_do_4_runs N n7 n8 n9 n10 l_ n2 n5 r2 m m2 n3 n6 r3 l r4 _ h5)
   rcases cond_of h with ⟨h6, h⟩ | ⟨h6, h⟩
   ·have h := some_of h
    subst h
    have t_ := tT h1 <| tO h2 <| tE (.el [(.int .u8 n7), (.int .i64 n8), (.int .i64 n9), (.int .u64 n10), (.ints .u8 l_ false)]) <| tO (el_of (f := E_kl15_Act.pv) h3) <| tF h4 <| tR q_5 <| tF (not_of2 h6) <| tN
    exact ⟨t_.ev, kl15_DeedPlays_L0_4_st r n n2 n3 ((iadd .i64 n4 1), n11, r5, m_, m_2, n12, r6, l_2, r7), .k0 t_.pf (by kernel_rfl), .same (by kernel_rfl)⟩
   ·have h := some_of h
    subst h
    have t_ := tT h1 <| tO h2 <| tE (.el [(.int .u8 n7), (.int .i64 n8), (.int .i64 n9), (.int .u64 n10), (.ints .u8 l_ false)]) <| tO (el_of (f := E_kl15_Act.pv) h3) <| tF h4 <| tR q_5 <| tT (not_of h6) <| tN
    exact ⟨t_.ev, (kl15_DeedPlays_L0_4_ex r n n2 n3 (.inr (.inl ()))).2, .k0 t_.pf (by kernel_rfl), .same (by kernel_rfl)⟩
 ·have h := some_of h
  subst h
  have t_ := tF h1 <| tN
  exact ⟨t_.ev, ⟨[(23, (.av (.one (.pv (.bool false))))), (6, (.av (.one (.ref 0 0)))), (7, (.av (.one (.ref 3 0)))), (20, (.av (.one (.pv (.recs 5 (List.map E_kl15_Act.pv r) false))))), (21, (.av (.one (.pv (.int .i64 n))))), (22, (.av (.one (.pv (.int .i64 n4))))), (23, (.av (.one (.pv (.bool (decide ((n4 : Int) < n)))))))], [(0, [(.pv (.int .i64 n2)), (.pv (.int .u64 n5)), (.pv (.recs 5 (List.map E_deed_Gift.pv r2) false)), (.mp 1), (.mp 2)]), (1, [(.maph (.int .i64) false (List.map M_int_int.pv m) [])]), (2, [(.maph (.st [.i64, .u64]) false (List.map M_deed_Mark_int.pv m2) [])]), (3, [(.pv (.int .i64 n3)), (.pv (.int .u64 n6)), (.pv (.recs 4 (List.map E_kr15_Gift.pv r3) false)), (.pv (.ints .i64 l false)), (.pv (.recs 2 (List.map E_kr15_Mark.pv r4) false))])], []⟩, .k0 t_.pf (by kernel_rfl), ⟨⟨⟨_, rfl, .eq rfl⟩, ⟨_, rfl, .eq rfl⟩, trivial⟩, ⟨⟨rfl, ⟨.eq rfl, .eq rfl, .eq rfl, .eq rfl, .eq rfl, trivial⟩⟩, ⟨rfl, ⟨.eq rfl, trivial⟩⟩, ⟨rfl, ⟨.eq rfl, trivial⟩⟩, ⟨rfl, ⟨.eq rfl, .eq rfl, .eq rfl, .eq rfl, .eq rfl, trivial⟩⟩, trivial⟩, trivial⟩⟩
theorem kl15_DeedPlays_L0_4_runs (N : Nat) (r : List E_kl15_Act) (n : Int) (n2 : Int) (n3 : Int) (s_ : Int × Int × List E_deed_Gift × List (Int × Int) × List ((Int × Int) × Int) × Int × List E_kr15_Gift × List Int × List E_kr15_Mark) (r_ : (Int × List E_deed_Gift × List (Int × Int) × List ((Int × Int) × Int) × Int × List E_kr15_Gift × List Int × List E_kr15_Mark × Int × Int × Int × Int × List Int) ⊕ ((Unit) ⊕ (Int × List E_deed_Gift × List (Int × Int) × List ((Int × Int) × Int) × Int × List E_kr15_Gift × List Int × List E_kr15_Mark))) (h : runL (kl15_DeedPlays_L0_4_step N r n n2 n3) s_ = some r_) : LRuns Tryz.prog (lEnv Tryz.prog cfg 3 0).nt 0 (.loop (loopAt Tryz.prog 3 0)) (kl15_DeedPlays_L0_4_st r n n2 n3 s_) (kl15_DeedPlays_L0_4_ex r n n2 n3 r_).1 (kl15_DeedPlays_L0_4_ex r n n2 n3 r_).2 :=
 loop_run h (kl15_DeedPlays_L0_4_ok N r n n2 n3) (by intro r_; rcases r_ with ⟨r1, r2, r3, r4, r5, r6, r7, r8, r9, r10, r11, r12, r13⟩ | (_ | ⟨r1, r2, r3, r4, r5, r6, r7, r8⟩) <;> simp [kl15_DeedPlays_L0_4_ex])
def kl15_like_out (n : Int) (n2 : Int) (r : List E_deed_Gift) (m : List (Int × Int)) (m2 : List ((Int × Int) × Int)) (n3 : Int) (n4 : Int) (r2 : List E_kr15_Gift) (l : List Int) (r3 : List E_kr15_Mark) : Bool → Res
 | r1 => ([(.one (.pv (.bool r1)))], [[(.pv (.int .i64 n)), (.pv (.int .u64 n2)), (.pv (.recs 5 (List.map E_deed_Gift.pv r) false)), (.mp 1), (.mp 2)], [(.maph (.int .i64) false (List.map M_int_int.pv m) [])], [(.maph (.st [.i64, .u64]) false (List.map M_deed_Mark_int.pv m2) [])], [(.pv (.int .i64 n3)), (.pv (.int .u64 n4)), (.pv (.recs 4 (List.map E_kr15_Gift.pv r2) false)), (.pv (.ints .i64 l false)), (.pv (.recs 2 (List.map E_kr15_Mark.pv r3) false))]], [])
def deed_Deeds_Marks_out (n : Int) (n2 : Int) (r : List E_deed_Gift) (m : List (Int × Int)) (m2 : List ((Int × Int) × Int)) : List E_deed_Mark → Res
 | r1 => ([(.one (.own 0 0 ((List.map E_deed_Mark.pv r1)).length false))], [[(.pv (.int .i64 n)), (.pv (.int .u64 n2)), (.pv (.recs 5 (List.map E_deed_Gift.pv r) false)), (.mp 1), (.mp 2)], [(.maph (.int .i64) false (List.map M_int_int.pv m) [])], [(.maph (.st [.i64, .u64]) false (List.map M_deed_Mark_int.pv m2) [])]], [(.recs 2 (List.map E_deed_Mark.pv r1))])
def maps_Keys_int_out (m : List ((Int × Int) × Int)) : Unit → Res
 | _ => ([(.one (.fn 89 [(.ref 1 0)]))], [[(.maph (.st [.i64, .u64]) false (List.map M_deed_Mark_int.pv m) [])], [(.mp 0)]], [])
noncomputable def maps_Keys_int (m : List ((Int × Int) × Int)) : Option (Unit) :=
 some ()
theorem maps_Keys_int_runs (m : List ((Int × Int) × Int)) (r_ : Unit) (h : maps_Keys_int m = some r_) : Runs Tryz.prog 52 [(.one (.mp 0))] [[(.maph (.st [.i64, .u64]) false (List.map M_deed_Mark_int.pv m) [])]] [] (maps_Keys_int_out m r_) := by
 unfold maps_Keys_int at h
 have h := some_of h
 subst h
 have t_ := tN
 exact runs_of (C := cfg) (objs := [[(.maph (.st [.i64, .u64]) false (List.map M_deed_Mark_int.pv m) [])]]) (sc := t_.ev) (.k0 t_.pf (by kernel_rfl))
noncomputable def deed_Deeds_Marks (n : Int) (n2 : Int) (r : List E_deed_Gift) (m : List (Int × Int)) (m2 : List ((Int × Int) × Int)) : Option (List E_deed_Mark) :=
 (maps_Keys_int m2).bind fun _ =>
 (slices_SortedFunc_marks m2).bind fun r2 =>
 some r2
theorem deed_Deeds_Marks_runs (n : Int) (n2 : Int) (r : List E_deed_Gift) (m : List (Int × Int)) (m2 : List ((Int × Int) × Int)) (r_ : List E_deed_Mark) (h : deed_Deeds_Marks n n2 r m m2 = some r_) : Runs Tryz.prog 26 [(.one (.ref 0 0))] [[(.pv (.int .i64 n)), (.pv (.int .u64 n2)), (.pv (.recs 5 (List.map E_deed_Gift.pv r) false)), (.mp 1), (.mp 2)], [(.maph (.int .i64) false (List.map M_int_int.pv m) [])], [(.maph (.st [.i64, .u64]) false (List.map M_deed_Mark_int.pv m2) [])]] [] (deed_Deeds_Marks_out n n2 r m m2 r_) := by
 unfold deed_Deeds_Marks at h
 obtain ⟨_, h1, h⟩ := bind_of h
 obtain ⟨r2, h2, h⟩ := bind_of h
 have h := some_of h
 subst h
 have t_ := tF (rfl : false = false) <| tR (maps_Keys_int_runs m2 _ h1) <| tR (slices_SortedFunc_marks_runs m2 _ h2) <| tN
 exact runs_of (C := cfg) (objs := [[(.pv (.int .i64 n)), (.pv (.int .u64 n2)), (.pv (.recs 5 (List.map E_deed_Gift.pv r) false)), (.mp 1), (.mp 2)], [(.maph (.int .i64) false (List.map M_int_int.pv m) [])], [(.maph (.st [.i64, .u64]) false (List.map M_deed_Mark_int.pv m2) [])]]) (sc := t_.ev) (.k0 t_.pf (by kernel_rfl))
def deed_Deeds_Bytes_out (n : Int) (n2 : Int) (r : List E_deed_Gift) (m : List (Int × Int)) (m2 : List ((Int × Int) × Int)) : List Int → Res
 | r1 => ([(.one (.own 0 0 (r1).length false))], [[(.pv (.int .i64 n)), (.pv (.int .u64 n2)), (.pv (.recs 5 (List.map E_deed_Gift.pv r) false)), (.mp 1), (.mp 2)], [(.maph (.int .i64) false (List.map M_int_int.pv m) [])], [(.maph (.st [.i64, .u64]) false (List.map M_deed_Mark_int.pv m2) [])]], [(.ints .u8 r1)])
def wire_Num_out (p : List Int) (n : Int) : List Int → Res
 | r1 => ([(.one (.own 0 0 (r1).length false))], [], [(.ints .u8 r1)])
def wire_Num_L0_st (p : List Int) (n : Int) : (Unit) ⊕ (Int × List Int) → St
 | .inl _ => ⟨[(0, (.av (.one (.pv (.ints .u8 p true))))), (1, (.av (.one (.pv (.int .u64 n)))))], [], []⟩
 | .inr (n2, l) => ⟨[(0, (.av (.one (.own 0 0 (l).length false)))), (1, (.av (.one (.pv (.int .u64 n2)))))], [], [(0, (.live (.ints .u8 l)))]⟩
def wire_Num_L0_ex (p : List Int) (n : Int) : (Unit) ⊕ (Int × List Int) → Ex × St
 | .inl _ => ((.exit 0), ⟨[(0, (.av (.one (.pv (.ints .u8 p true))))), (1, (.av (.one (.pv (.int .u64 n)))))], [], []⟩)
 | .inr (r1, r2) => ((.exit 0), ⟨[(0, (.av (.one (.own 0 0 (r2).length false)))), (1, (.av (.one (.pv (.int .u64 r1)))))], [], [(0, (.live (.ints .u8 r2)))]⟩)
noncomputable def wire_Num_L0_step (p : List Int) (n : Int) : (Unit) ⊕ (Int × List Int) → Option (((Unit) ⊕ (Int × List Int)) ⊕ ((Unit) ⊕ (Int × List Int)))
 | .inl _ =>
  bif (decide ((128 : Int) ≤ n)) then
   bif fits ((p ++ [(ior .u8 (IntKind.u8.wrap n) 128)])).length then
   some (.inl (.inr ((ishr .u64 n 7), (p ++ [(ior .u8 (IntKind.u8.wrap n) 128)]))))
   else none
  else
   some (.inr (.inl ()))
 | .inr (n2, l) =>
  bif (decide ((128 : Int) ≤ n2)) then
   bif fits ((l ++ [(ior .u8 (IntKind.u8.wrap n2) 128)])).length then
   some (.inl (.inr ((ishr .u64 n2 7), (l ++ [(ior .u8 (IntKind.u8.wrap n2) 128)]))))
   else none
  else
   some (.inr (.inr (n2, l)))
theorem wire_Num_L0_ok (p : List Int) (n : Int) (s_ : (Unit) ⊕ (Int × List Int)) (z_ : ((Unit) ⊕ (Int × List Int)) ⊕ ((Unit) ⊕ (Int × List Int))) (h : wire_Num_L0_step p n s_ = some z_) : RoundOk Tryz.prog cfg 46 0 (loopAt Tryz.prog 46 0) (wire_Num_L0_st p n) (wire_Num_L0_ex p n) s_ z_ := by
 rcases s_ with _ | ⟨n2, l⟩
 ·rcases cond_of h with ⟨h1, h⟩ | ⟨h1, h⟩
  ·obtain ⟨h2, h⟩ := need_of h
   have h := some_of h
   subst h
   have t_ := tT h1 <| tF (rfl : true = true) <| tO h2 <| tO (rfl : true = true) <| tN
   exact ⟨t_.ev, wire_Num_L0_st p n (.inr ((ishr .u64 n 7), (p ++ [(ior .u8 (IntKind.u8.wrap n) 128)]))), .k0 t_.pf (by kernel_rfl), .same (by kernel_rfl)⟩
  ·have h := some_of h
   subst h
   have t_ := tF h1 <| tN
   exact ⟨t_.ev, ⟨[(12, (.av (.one (.pv (.bool false))))), (0, (.av (.one (.pv (.ints .u8 p true))))), (1, (.av (.one (.pv (.int .u64 n))))), (12, (.av (.one (.pv (.bool (decide ((128 : Int) ≤ n)))))))], [], []⟩, .k0 t_.pf (by kernel_rfl), ⟨⟨⟨_, rfl, .eq rfl⟩, ⟨_, rfl, .eq rfl⟩, trivial⟩, trivial, trivial⟩⟩
 ·rcases cond_of h with ⟨h1, h⟩ | ⟨h1, h⟩
  ·obtain ⟨h2, h⟩ := need_of h
   have h := some_of h
   subst h
   have t_ := tT h1 <| tO (show (Nat.beq (l).length (l).length) = true from Nat.beq_refl _) <| tO h2 <| tO (rfl : true = true) <| tN
   exact ⟨t_.ev, wire_Num_L0_st p n (.inr ((ishr .u64 n2 7), (l ++ [(ior .u8 (IntKind.u8.wrap n2) 128)]))), .k0 t_.pf (by kernel_rfl), .same (by kernel_rfl)⟩
  ·have h := some_of h
   subst h
   have t_ := tF h1 <| tN
   exact ⟨t_.ev, ⟨[(12, (.av (.one (.pv (.bool false))))), (0, (.av (.one (.own 0 0 (l).length false)))), (1, (.av (.one (.pv (.int .u64 n2))))), (12, (.av (.one (.pv (.bool (decide ((128 : Int) ≤ n2)))))))], [], [(0, (.live (.ints .u8 l)))]⟩, .k0 t_.pf (by kernel_rfl), ⟨⟨⟨_, rfl, .eq rfl⟩, ⟨_, rfl, .eq rfl⟩, trivial⟩, trivial, ⟨⟨rfl, .eq rfl⟩, trivial⟩⟩⟩
theorem wire_Num_L0_runs (p : List Int) (n : Int) (s_ : (Unit) ⊕ (Int × List Int)) (r_ : (Unit) ⊕ (Int × List Int)) (h : runL (wire_Num_L0_step p n) s_ = some r_) : LRuns Tryz.prog (lEnv Tryz.prog cfg 46 0).nt 0 (.loop (loopAt Tryz.prog 46 0)) (wire_Num_L0_st p n s_) (wire_Num_L0_ex p n r_).1 (wire_Num_L0_ex p n r_).2 :=
 loop_run h (wire_Num_L0_ok p n) (by intro r_; rcases r_ with _ | ⟨r1, r2⟩ <;> simp [wire_Num_L0_ex])
noncomputable def wire_Num (p : List Int) (n : Int) : Option (List Int) :=
 bif decide ((0 : Int) ≤ 0) && decide ((0 : Int) ≤ ((p).length : Int)) && decide ((((p).length : Int) : Int) ≤ ((p).length : Int)) && decide ((((p).length : Int) : Int) = ((p).length : Int)) then
 (runL (wire_Num_L0_step (List.take (((p).length : Int) - 0).toNat p) n) (.inl ())).bind fun z_ => match z_ with
 | .inl _ =>
  bif fits (((List.take (((p).length : Int) - 0).toNat p) ++ [(IntKind.u8.wrap n)])).length then
  some ((List.take (((p).length : Int) - 0).toNat p) ++ [(IntKind.u8.wrap n)])
  else none
 | .inr (n2, l_) =>
  bif fits ((l_ ++ [(IntKind.u8.wrap n2)])).length then
  some (l_ ++ [(IntKind.u8.wrap n2)])
  else none
 else none
theorem wire_Num_runs (p : List Int) (n : Int) (r_ : List Int) (h : wire_Num p n = some r_) : Runs Tryz.prog 46 [(.one (.pv (.ints .u8 p false))), (.one (.pv (.int .u64 n)))] [] [] (wire_Num_out p n r_) := by
 unfold wire_Num at h
 obtain ⟨h1, h⟩ := need_of h
 obtain ⟨z_, h2, h⟩ := bind_of h
 rcases z_ with _ | ⟨n2, l_⟩
 ·obtain ⟨h3, h⟩ := need_of h
  have h := some_of h
  subst h
  have t_ := tO h1 <| tL (wire_Num_L0_runs (List.take (((p).length : Int) - 0).toNat p) n _ _ h2) <| tF (rfl : true = true) <| tO h3 <| tN
  exact runs_of (C := cfg) (objs := []) (sc := t_.ev) (.k0 t_.pf (by kernel_rfl))
 ·obtain ⟨h3, h⟩ := need_of h
  have h := some_of h
  subst h
  have t_ := tO h1 <| tL (wire_Num_L0_runs (List.take (((p).length : Int) - 0).toNat p) n _ _ h2) <| tO (show (Nat.beq (l_).length (l_).length) = true from Nat.beq_refl _) <| tO h3 <| tN
  exact runs_of (C := cfg) (objs := []) (sc := t_.ev) (.k0 t_.pf (by kernel_rfl))
def deed_PutGift_out (p : List Int) (g : Int) (g2 : Int) (g3 : Int) (g4 : Bool) (g5 : T_id_halves) : List Int → Res
 | r1 => ([(.one (.own 0 0 (r1).length false))], [], [(.ints .u8 r1)])
def code_ID_out (i : Bool) (i2 : T_id_halves) : List Int → Res
 | r1 => ([(.one (.pv (.ints .u8 r1 false)))], [], [])
def bits_NewWriter_out : Unit → Res
 | _ => ([(.one (.ref 0 0))], [[(.pv .nils), (.pv (.int .i64 0))]], [])
noncomputable def bits_NewWriter : Option (Unit) :=
 some ()
theorem bits_NewWriter_runs (r_ : Unit) (h : bits_NewWriter = some r_) : Runs Tryz.prog 115 [] [] [] (bits_NewWriter_out r_) := by
 unfold bits_NewWriter at h
 have h := some_of h
 subst h
 have t_ := tN
 exact runs_of (C := cfg) (objs := []) (sc := t_.ev) (.k0 t_.pf (by kernel_rfl))
def code_PutID_out (i : Bool) (i2 : T_id_halves) (n : Int) : Int × List Int → Res
 | (r1, r2) => ([], [[(.own 0 0 (r2).length false), (.pv (.int .i64 r1))]], [(.ints .u8 r2)])
def id_ID_Left_out (i : Bool) (i2 : T_id_halves) : Bool × T_id_halves → Res
 | (r1, r2) => ([(.agg [(.pv (.bool r1)), (.pv (T_id_halves.pv r2))])], [], [])
noncomputable def id_ID_Left (i : Bool) (i2 : T_id_halves) : Option (Bool × T_id_halves) :=
 match i2 with
 | .nil =>
  some (i, i2)
 | .mk b t b2 t2 =>
  some (b, t)
theorem id_ID_Left_runs (i : Bool) (i2 : T_id_halves) (r_ : Bool × T_id_halves) (h : id_ID_Left i i2 = some r_) : Runs Tryz.prog 133 [(.agg [(.pv (.bool i)), (.pv (T_id_halves.pv i2))])] [] [] (id_ID_Left_out i i2 r_) := by
 unfold id_ID_Left at h
 cases i2 with
 | nil =>
  have h := some_of h
  subst h
  have t_ := tT (rfl : true = true) <| tN
  exact runs_of (C := cfg) (objs := []) (sc := t_.ev) (.k0 t_.pf (by kernel_rfl))
 | mk b t b2 t2 =>
  have h := some_of h
  subst h
  have t_ := tF (rfl : false = false) <| tN
  exact runs_of (C := cfg) (objs := []) (sc := t_.ev) (.k0 t_.pf (by kernel_rfl))
def id_ID_Right_out (i : Bool) (i2 : T_id_halves) : Bool × T_id_halves → Res
 | (r1, r2) => ([(.agg [(.pv (.bool r1)), (.pv (T_id_halves.pv r2))])], [], [])
noncomputable def id_ID_Right (i : Bool) (i2 : T_id_halves) : Option (Bool × T_id_halves) :=
 match i2 with
 | .nil =>
  some (i, i2)
 | .mk b t b2 t2 =>
  some (b2, t2)
theorem id_ID_Right_runs (i : Bool) (i2 : T_id_halves) (r_ : Bool × T_id_halves) (h : id_ID_Right i i2 = some r_) : Runs Tryz.prog 134 [(.agg [(.pv (.bool i)), (.pv (T_id_halves.pv i2))])] [] [] (id_ID_Right_out i i2 r_) := by
 unfold id_ID_Right at h
 cases i2 with
 | nil =>
  have h := some_of h
  subst h
  have t_ := tT (rfl : true = true) <| tN
  exact runs_of (C := cfg) (objs := []) (sc := t_.ev) (.k0 t_.pf (by kernel_rfl))
 | mk b t b2 t2 =>
  have h := some_of h
  subst h
  have t_ := tF (rfl : false = false) <| tN
  exact runs_of (C := cfg) (objs := []) (sc := t_.ev) (.k0 t_.pf (by kernel_rfl))
def bits_Writer_Put_out (n : Int) (k : Int) (n2 : Int) : Int × List Int → Res
 | (r1, r2) => ([], [[(.own 0 0 (r2).length false), (.pv (.int .i64 r1))]], [(.ints .u8 r2)])
def bits_within_out (k : Int) : Int → Res
 | r1 => ([(.one (.pv (.int .i64 r1)))], [], [])
noncomputable def bits_within (k : Int) : Option (Int) :=
 some (if (64 : Int) < (if (k : Int) < 0 then 0 else k) then 64 else (if (k : Int) < 0 then 0 else k))
theorem bits_within_runs (k : Int) (r_ : Int) (h : bits_within k = some r_) : Runs Tryz.prog 160 [(.one (.pv (.int .i64 k)))] [] [] (bits_within_out k r_) := by
 unfold bits_within at h
 have h := some_of h
 subst h
 have t_ := tN
 exact runs_of (C := cfg) (objs := []) (sc := t_.ev) (.k0 t_.pf (by kernel_rfl))
def bits_Writer_Put_L0_2_st (n : Int) : Int × Int × List Int → St
 | (i, n2, l) => ⟨[(0, (.av (.one (.ref 0 0)))), (1, (.av (.one (.pv (.int .u64 n))))), (6, (.av (.one (.pv (.int .i64 i)))))], [(0, [(.own 0 0 (l).length false), (.pv (.int .i64 n2))])], [(0, (.live (.ints .u8 l)))]⟩
def bits_Writer_Put_L0_2_ex (n : Int) : Int × List Int → Ex × St
 | (r1, r2) => ((.exit 0), ⟨[], [(0, [(.own 0 0 (r2).length false), (.pv (.int .i64 r1))])], [(0, (.live (.ints .u8 r2)))]⟩)
noncomputable def bits_Writer_Put_L0_2_step (n : Int) : Int × Int × List Int → Option ((Int × Int × List Int) ⊕ (Int × List Int))
 | (i, n2, l) =>
 bif (decide ((0 : Int) ≤ i)) then
  bif (decide (((irem .i64 n2 8) : Int) = 0)) then
   bif fits ((l ++ [0])).length then
   bif decide ((0 : Int) ≤ i) then
   bif (decide (((iand .u64 (ishr .u64 n i) 1) : Int) = 1)) then
    bif decide ((0 : Int) ≤ (irem .i64 n2 8)) then
    bif decide ((0 : Int) ≤ (iquo .i64 n2 8)) && decide (((iquo .i64 n2 8) : Int) < (((l ++ [0])).length : Int)) then
    some (.inl ((isub .i64 i 1), (iadd .i64 n2 1), ((l ++ [0]).set (0 + ((iquo .i64 n2 8)).toNat) (ior .u8 ((l ++ [0]).getD (0 + ((iquo .i64 n2 8)).toNat) 0) (ishr .u8 128 (irem .i64 n2 8))))))
    else none
    else none
   else
    some (.inl ((isub .i64 i 1), (iadd .i64 n2 1), (l ++ [0])))
   else none
   else none
  else
   bif decide ((0 : Int) ≤ i) then
   bif (decide (((iand .u64 (ishr .u64 n i) 1) : Int) = 1)) then
    bif decide ((0 : Int) ≤ (irem .i64 n2 8)) then
    bif decide ((0 : Int) ≤ (iquo .i64 n2 8)) && decide (((iquo .i64 n2 8) : Int) < ((l).length : Int)) then
    some (.inl ((isub .i64 i 1), (iadd .i64 n2 1), (l.set (0 + ((iquo .i64 n2 8)).toNat) (ior .u8 (l.getD (0 + ((iquo .i64 n2 8)).toNat) 0) (ishr .u8 128 (irem .i64 n2 8))))))
    else none
    else none
   else
    some (.inl ((isub .i64 i 1), (iadd .i64 n2 1), l))
   else none
 else
  some (.inr (n2, l))
theorem bits_Writer_Put_L0_2_ok (n : Int) (s_ : Int × Int × List Int) (z_ : (Int × Int × List Int) ⊕ (Int × List Int)) (h : bits_Writer_Put_L0_2_step n s_ = some z_) : RoundOk Tryz.prog cfg 135 1 (loopAt Tryz.prog 135 0) (bits_Writer_Put_L0_2_st n) (bits_Writer_Put_L0_2_ex n) s_ z_ := by
 rcases s_ with ⟨i, n2, l⟩
 rcases cond_of h with ⟨h1, h⟩ | ⟨h1, h⟩
 ·rcases cond_of h with ⟨h2, h⟩ | ⟨h2, h⟩
  ·obtain ⟨h3, h⟩ := need_of h
   obtain ⟨h4, h⟩ := need_of h
   rcases cond_of h with ⟨h5, h⟩ | ⟨h5, h⟩
   ·obtain ⟨h6, h⟩ := need_of h
    obtain ⟨h7, h⟩ := need_of h
    have h := some_of h
    subst h
    have t_ := tT h1 <| tO (rfl : true = true) <| tT h2 <| tO (show (Nat.beq (l).length (l).length) = true from Nat.beq_refl _) <| tO h3 <| tO h4 <| tT h5 <| tO (rfl : true = true) <| tO (rfl : true = true) <| tO (rfl : true = true) <| tO (rfl : true = true) <| tO h6 <| tO (rfl : true = true) <| tO h7 <| tO h6 <| tO h6 <| tO (rfl : true = true) <| tO (rfl : true = true) <| tO (rfl : true = true) <| tO (rfl : true = true) <| tO h6 <| tO h7 <| tO h6 <| tO h7 <| tN
    exact ⟨t_.ev, ⟨[(0, (.av (.one (.ref 0 0)))), (1, (.av (.one (.pv (.int .u64 n))))), (6, (.av (.one (.pv (.int .i64 (isub .i64 i 1))))))], [(0, [(.own 0 0 ((l ++ [0])).length false), (.pv (.int .i64 (iadd .i64 n2 1)))])], [(0, (.live (.ints .u8 ((l ++ [0]).set (0 + ((iquo .i64 n2 8)).toNat) (ior .u8 ((l ++ [0]).getD (0 + ((iquo .i64 n2 8)).toNat) 0) (ishr .u8 128 (irem .i64 n2 8)))))))]⟩, .k1 t_.pf (by kernel_rfl) (by kernel_rfl), ⟨⟨⟨_, rfl, .eq rfl⟩, ⟨_, rfl, .eq rfl⟩, ⟨_, rfl, .eq rfl⟩, trivial⟩, ⟨⟨rfl, ⟨.own (by first | rfl | (simp only [List.take_length]; done) | (simp; done) | (simp only [List.map_take, List.map_drop, List.map_append, List.take_length, List.nil_append]; done) | (simp only [List.length_map, List.take_length, List.length_append, List.drop_zero, List.map_append, List.map_take, List.map_drop, List.map_replicate, List.map_cons, List.map_nil, List.append_nil, List.nil_append]; done)), .eq rfl, trivial⟩⟩, trivial⟩, ⟨⟨rfl, .eq rfl⟩, trivial⟩⟩⟩
   ·have h := some_of h
    subst h
    have t_ := tT h1 <| tO (rfl : true = true) <| tT h2 <| tO (show (Nat.beq (l).length (l).length) = true from Nat.beq_refl _) <| tO h3 <| tO h4 <| tF h5 <| tN
    exact ⟨t_.ev, bits_Writer_Put_L0_2_st n ((isub .i64 i 1), (iadd .i64 n2 1), (l ++ [0])), .k0 t_.pf (by kernel_rfl), .same (by kernel_rfl)⟩
  ·obtain ⟨h3, h⟩ := need_of h
   rcases cond_of h with ⟨h4, h⟩ | ⟨h4, h⟩
   ·obtain ⟨h5, h⟩ := need_of h
    obtain ⟨h6, h⟩ := need_of h
    have h := some_of h
    subst h
    have t_ := tT h1 <| tO (rfl : true = true) <| tF h2 <| tO h3 <| tT h4 <| tO (rfl : true = true) <| tO (rfl : true = true) <| tO (rfl : true = true) <| tO (rfl : true = true) <| tO h5 <| tO (rfl : true = true) <| tO h6 <| tO h5 <| tO h5 <| tO (rfl : true = true) <| tO (rfl : true = true) <| tO (rfl : true = true) <| tO (rfl : true = true) <| tO h5 <| tO h6 <| tO h5 <| tO h6 <| tN
    exact ⟨t_.ev, ⟨[(0, (.av (.one (.ref 0 0)))), (1, (.av (.one (.pv (.int .u64 n))))), (6, (.av (.one (.pv (.int .i64 (isub .i64 i 1))))))], [(0, [(.own 0 0 (l).length false), (.pv (.int .i64 (iadd .i64 n2 1)))])], [(0, (.live (.ints .u8 (l.set (0 + ((iquo .i64 n2 8)).toNat) (ior .u8 (l.getD (0 + ((iquo .i64 n2 8)).toNat) 0) (ishr .u8 128 (irem .i64 n2 8)))))))]⟩, .k1 t_.pf (by kernel_rfl) (by kernel_rfl), ⟨⟨⟨_, rfl, .eq rfl⟩, ⟨_, rfl, .eq rfl⟩, ⟨_, rfl, .eq rfl⟩, trivial⟩, ⟨⟨rfl, ⟨.own (by first | rfl | (simp only [List.take_length]; done) | (simp; done) | (simp only [List.map_take, List.map_drop, List.map_append, List.take_length, List.nil_append]; done) | (simp only [List.length_map, List.take_length, List.length_append, List.drop_zero, List.map_append, List.map_take, List.map_drop, List.map_replicate, List.map_cons, List.map_nil, List.append_nil, List.nil_append]; done)), .eq rfl, trivial⟩⟩, trivial⟩, ⟨⟨rfl, .eq rfl⟩, trivial⟩⟩⟩
   ·have h := some_of h
    subst h
    have t_ := tT h1 <| tO (rfl : true = true) <| tF h2 <| tO h3 <| tF h4 <| tN
    exact ⟨t_.ev, bits_Writer_Put_L0_2_st n ((isub .i64 i 1), (iadd .i64 n2 1), l), .k0 t_.pf (by kernel_rfl), .same (by kernel_rfl)⟩
 ·have h := some_of h
  subst h
  have t_ := tF h1 <| tN
  exact ⟨t_.ev, ⟨[(13, (.av (.one (.pv (.bool false))))), (0, (.av (.one (.ref 0 0)))), (1, (.av (.one (.pv (.int .u64 n))))), (6, (.av (.one (.pv (.int .i64 i))))), (13, (.av (.one (.pv (.bool (decide ((0 : Int) ≤ i)))))))], [(0, [(.own 0 0 (l).length false), (.pv (.int .i64 n2))])], [(0, (.live (.ints .u8 l)))]⟩, .k0 t_.pf (by kernel_rfl), ⟨trivial, ⟨⟨rfl, ⟨.eq rfl, .eq rfl, trivial⟩⟩, trivial⟩, ⟨⟨rfl, .eq rfl⟩, trivial⟩⟩⟩
theorem bits_Writer_Put_L0_2_runs (n : Int) (s_ : Int × Int × List Int) (r_ : Int × List Int) (h : runL (bits_Writer_Put_L0_2_step n) s_ = some r_) : LRuns Tryz.prog (lEnv Tryz.prog cfg 135 1).nt 1 (.loop (loopAt Tryz.prog 135 0)) (bits_Writer_Put_L0_2_st n s_) (bits_Writer_Put_L0_2_ex n r_).1 (bits_Writer_Put_L0_2_ex n r_).2 :=
 loop_run h (bits_Writer_Put_L0_2_ok n) (by intro r_; rcases r_ with ⟨r1, r2⟩ <;> simp [bits_Writer_Put_L0_2_ex])
noncomputable def bits_Writer_Put (n : Int) (k : Int) (n2 : Int) : Option (Int × List Int) :=
 (bits_within k).bind fun n3 =>
 (runL (bits_Writer_Put_L0_2_step n) ((isub .i64 n3 1), n2, [])).bind fun (n4, l_) =>
 some (n4, l_)
theorem bits_Writer_Put_runs (n : Int) (k : Int) (n2 : Int) (r_ : Int × List Int) (h : bits_Writer_Put n k n2 = some r_) : Runs Tryz.prog 135 [(.one (.ref 0 0)), (.one (.pv (.int .u64 n))), (.one (.pv (.int .i64 k)))] [[(.pv .nils), (.pv (.int .i64 n2))]] [] (bits_Writer_Put_out n k n2 r_) := by
 unfold bits_Writer_Put at h
 obtain ⟨n3, h1, h⟩ := bind_of h
 obtain ⟨⟨n4, l_⟩, h2, h⟩ := bind_of h
 have h := some_of h
 subst h
 have t_ := tF (rfl : false = false) <| tR (bits_within_runs k _ h1) <| tL (LRuns.coe (s0 := ⟨[(0, (.av (.one (.ref 0 0)))), (1, (.av (.one (.pv (.int .u64 n))))), (6, (.av (.one (.pv (.int .i64 (isub .i64 n3 1))))))], [(0, [(.own 0 0 0 false), (.pv (.int .i64 n2))])], [(0, (.live (.ints .u8 [])))]⟩) (bits_Writer_Put_L0_2_runs n _ _ h2) ⟨⟨⟨_, rfl, .eq rfl⟩, ⟨_, rfl, .eq rfl⟩, ⟨_, rfl, .eq rfl⟩, trivial⟩, ⟨⟨rfl, ⟨.own (by first | rfl | (simp only [List.take_length]; done) | (simp; done) | (simp only [List.map_take, List.map_drop, List.map_append, List.take_length, List.nil_append]; done) | (simp only [List.length_map, List.take_length, List.length_append, List.drop_zero, List.map_append, List.map_take, List.map_drop, List.map_replicate, List.map_cons, List.map_nil, List.append_nil, List.nil_append]; done)), .eq rfl, trivial⟩⟩, trivial⟩, ⟨⟨rfl, .eq rfl⟩, trivial⟩⟩) <| tN
 exact runs_of (C := cfg) (objs := [[(.pv .nils), (.pv (.int .i64 n2))]]) (sc := t_.ev) (.k0 t_.pf (by kernel_rfl))
def bits_Writer_Put_2_out (n : Int) (k : Int) (n2 : Int) (l : List Int) : Int × List Int → Res
 | (r1, r2) => ([], [[(.own 0 0 (r2).length false), (.pv (.int .i64 r1))]], [(.ints .u8 r2)])
def bits_Writer_Put_L0_3_st (n : Int) : Int × Int × List Int → St
 | (i, n2, l) => ⟨[(0, (.av (.one (.ref 0 0)))), (1, (.av (.one (.pv (.int .u64 n))))), (6, (.av (.one (.pv (.int .i64 i)))))], [(0, [(.own 0 0 (l).length false), (.pv (.int .i64 n2))])], [(0, (.live (.ints .u8 l)))]⟩
def bits_Writer_Put_L0_3_ex (n : Int) : Int × List Int → Ex × St
 | (r1, r2) => ((.exit 0), ⟨[], [(0, [(.own 0 0 (r2).length false), (.pv (.int .i64 r1))])], [(0, (.live (.ints .u8 r2)))]⟩)
noncomputable def bits_Writer_Put_L0_3_step (n : Int) : Int × Int × List Int → Option ((Int × Int × List Int) ⊕ (Int × List Int))
 | (i, n2, l) =>
 bif (decide ((0 : Int) ≤ i)) then
  bif (decide (((irem .i64 n2 8) : Int) = 0)) then
   bif fits ((l ++ [0])).length then
   bif decide ((0 : Int) ≤ i) then
   bif (decide (((iand .u64 (ishr .u64 n i) 1) : Int) = 1)) then
    bif decide ((0 : Int) ≤ (irem .i64 n2 8)) then
    bif decide ((0 : Int) ≤ (iquo .i64 n2 8)) && decide (((iquo .i64 n2 8) : Int) < (((l ++ [0])).length : Int)) then
    some (.inl ((isub .i64 i 1), (iadd .i64 n2 1), ((l ++ [0]).set (0 + ((iquo .i64 n2 8)).toNat) (ior .u8 ((l ++ [0]).getD (0 + ((iquo .i64 n2 8)).toNat) 0) (ishr .u8 128 (irem .i64 n2 8))))))
    else none
    else none
   else
    some (.inl ((isub .i64 i 1), (iadd .i64 n2 1), (l ++ [0])))
   else none
   else none
  else
   bif decide ((0 : Int) ≤ i) then
   bif (decide (((iand .u64 (ishr .u64 n i) 1) : Int) = 1)) then
    bif decide ((0 : Int) ≤ (irem .i64 n2 8)) then
    bif decide ((0 : Int) ≤ (iquo .i64 n2 8)) && decide (((iquo .i64 n2 8) : Int) < ((l).length : Int)) then
    some (.inl ((isub .i64 i 1), (iadd .i64 n2 1), (l.set (0 + ((iquo .i64 n2 8)).toNat) (ior .u8 (l.getD (0 + ((iquo .i64 n2 8)).toNat) 0) (ishr .u8 128 (irem .i64 n2 8))))))
    else none
    else none
   else
    some (.inl ((isub .i64 i 1), (iadd .i64 n2 1), l))
   else none
 else
  some (.inr (n2, l))
theorem bits_Writer_Put_L0_3_ok (n : Int) (s_ : Int × Int × List Int) (z_ : (Int × Int × List Int) ⊕ (Int × List Int)) (h : bits_Writer_Put_L0_3_step n s_ = some z_) : RoundOk Tryz.prog cfg 135 1 (loopAt Tryz.prog 135 0) (bits_Writer_Put_L0_3_st n) (bits_Writer_Put_L0_3_ex n) s_ z_ := by
 rcases s_ with ⟨i, n2, l⟩
 rcases cond_of h with ⟨h1, h⟩ | ⟨h1, h⟩
 ·rcases cond_of h with ⟨h2, h⟩ | ⟨h2, h⟩
  ·obtain ⟨h3, h⟩ := need_of h
   obtain ⟨h4, h⟩ := need_of h
   rcases cond_of h with ⟨h5, h⟩ | ⟨h5, h⟩
   ·obtain ⟨h6, h⟩ := need_of h
    obtain ⟨h7, h⟩ := need_of h
    have h := some_of h
    subst h
    have t_ := tT h1 <| tO (rfl : true = true) <| tT h2 <| tO (show (Nat.beq (l).length (l).length) = true from Nat.beq_refl _) <| tO h3 <| tO h4 <| tT h5 <| tO (rfl : true = true) <| tO (rfl : true = true) <| tO (rfl : true = true) <| tO (rfl : true = true) <| tO h6 <| tO (rfl : true = true) <| tO h7 <| tO h6 <| tO h6 <| tO (rfl : true = true) <| tO (rfl : true = true) <| tO (rfl : true = true) <| tO (rfl : true = true) <| tO h6 <| tO h7 <| tO h6 <| tO h7 <| tN
    exact ⟨t_.ev, ⟨[(0, (.av (.one (.ref 0 0)))), (1, (.av (.one (.pv (.int .u64 n))))), (6, (.av (.one (.pv (.int .i64 (isub .i64 i 1))))))], [(0, [(.own 0 0 ((l ++ [0])).length false), (.pv (.int .i64 (iadd .i64 n2 1)))])], [(0, (.live (.ints .u8 ((l ++ [0]).set (0 + ((iquo .i64 n2 8)).toNat) (ior .u8 ((l ++ [0]).getD (0 + ((iquo .i64 n2 8)).toNat) 0) (ishr .u8 128 (irem .i64 n2 8)))))))]⟩, .k1 t_.pf (by kernel_rfl) (by kernel_rfl), ⟨⟨⟨_, rfl, .eq rfl⟩, ⟨_, rfl, .eq rfl⟩, ⟨_, rfl, .eq rfl⟩, trivial⟩, ⟨⟨rfl, ⟨.own (by first | rfl | (simp only [List.take_length]; done) | (simp; done) | (simp only [List.map_take, List.map_drop, List.map_append, List.take_length, List.nil_append]; done) | (simp only [List.length_map, List.take_length, List.length_append, List.drop_zero, List.map_append, List.map_take, List.map_drop, List.map_replicate, List.map_cons, List.map_nil, List.append_nil, List.nil_append]; done)), .eq rfl, trivial⟩⟩, trivial⟩, ⟨⟨rfl, .eq rfl⟩, trivial⟩⟩⟩
   ·have h := some_of h
    subst h
    have t_ := tT h1 <| tO (rfl : true = true) <| tT h2 <| tO (show (Nat.beq (l).length (l).length) = true from Nat.beq_refl _) <| tO h3 <| tO h4 <| tF h5 <| tN
    exact ⟨t_.ev, bits_Writer_Put_L0_3_st n ((isub .i64 i 1), (iadd .i64 n2 1), (l ++ [0])), .k0 t_.pf (by kernel_rfl), .same (by kernel_rfl)⟩
  ·obtain ⟨h3, h⟩ := need_of h
   rcases cond_of h with ⟨h4, h⟩ | ⟨h4, h⟩
   ·obtain ⟨h5, h⟩ := need_of h
    obtain ⟨h6, h⟩ := need_of h
    have h := some_of h
    subst h
    have t_ := tT h1 <| tO (rfl : true = true) <| tF h2 <| tO h3 <| tT h4 <| tO (rfl : true = true) <| tO (rfl : true = true) <| tO (rfl : true = true) <| tO (rfl : true = true) <| tO h5 <| tO (rfl : true = true) <| tO h6 <| tO h5 <| tO h5 <| tO (rfl : true = true) <| tO (rfl : true = true) <| tO (rfl : true = true) <| tO (rfl : true = true) <| tO h5 <| tO h6 <| tO h5 <| tO h6 <| tN
    exact ⟨t_.ev, ⟨[(0, (.av (.one (.ref 0 0)))), (1, (.av (.one (.pv (.int .u64 n))))), (6, (.av (.one (.pv (.int .i64 (isub .i64 i 1))))))], [(0, [(.own 0 0 (l).length false), (.pv (.int .i64 (iadd .i64 n2 1)))])], [(0, (.live (.ints .u8 (l.set (0 + ((iquo .i64 n2 8)).toNat) (ior .u8 (l.getD (0 + ((iquo .i64 n2 8)).toNat) 0) (ishr .u8 128 (irem .i64 n2 8)))))))]⟩, .k1 t_.pf (by kernel_rfl) (by kernel_rfl), ⟨⟨⟨_, rfl, .eq rfl⟩, ⟨_, rfl, .eq rfl⟩, ⟨_, rfl, .eq rfl⟩, trivial⟩, ⟨⟨rfl, ⟨.own (by first | rfl | (simp only [List.take_length]; done) | (simp; done) | (simp only [List.map_take, List.map_drop, List.map_append, List.take_length, List.nil_append]; done) | (simp only [List.length_map, List.take_length, List.length_append, List.drop_zero, List.map_append, List.map_take, List.map_drop, List.map_replicate, List.map_cons, List.map_nil, List.append_nil, List.nil_append]; done)), .eq rfl, trivial⟩⟩, trivial⟩, ⟨⟨rfl, .eq rfl⟩, trivial⟩⟩⟩
   ·have h := some_of h
    subst h
    have t_ := tT h1 <| tO (rfl : true = true) <| tF h2 <| tO h3 <| tF h4 <| tN
    exact ⟨t_.ev, bits_Writer_Put_L0_3_st n ((isub .i64 i 1), (iadd .i64 n2 1), l), .k0 t_.pf (by kernel_rfl), .same (by kernel_rfl)⟩
 ·have h := some_of h
  subst h
  have t_ := tF h1 <| tN
  exact ⟨t_.ev, ⟨[(13, (.av (.one (.pv (.bool false))))), (0, (.av (.one (.ref 0 0)))), (1, (.av (.one (.pv (.int .u64 n))))), (6, (.av (.one (.pv (.int .i64 i))))), (13, (.av (.one (.pv (.bool (decide ((0 : Int) ≤ i)))))))], [(0, [(.own 0 0 (l).length false), (.pv (.int .i64 n2))])], [(0, (.live (.ints .u8 l)))]⟩, .k0 t_.pf (by kernel_rfl), ⟨trivial, ⟨⟨rfl, ⟨.eq rfl, .eq rfl, trivial⟩⟩, trivial⟩, ⟨⟨rfl, .eq rfl⟩, trivial⟩⟩⟩
theorem bits_Writer_Put_L0_3_runs (n : Int) (s_ : Int × Int × List Int) (r_ : Int × List Int) (h : runL (bits_Writer_Put_L0_3_step n) s_ = some r_) : LRuns Tryz.prog (lEnv Tryz.prog cfg 135 1).nt 1 (.loop (loopAt Tryz.prog 135 0)) (bits_Writer_Put_L0_3_st n s_) (bits_Writer_Put_L0_3_ex n r_).1 (bits_Writer_Put_L0_3_ex n r_).2 :=
 loop_run h (bits_Writer_Put_L0_3_ok n) (by intro r_; rcases r_ with ⟨r1, r2⟩ <;> simp [bits_Writer_Put_L0_3_ex])
noncomputable def bits_Writer_Put_2 (n : Int) (k : Int) (n2 : Int) (l : List Int) : Option (Int × List Int) :=
 (bits_within k).bind fun n3 =>
 (runL (bits_Writer_Put_L0_3_step n) ((isub .i64 n3 1), n2, l)).bind fun (n4, l_) =>
 some (n4, l_)
theorem bits_Writer_Put_2_runs (n : Int) (k : Int) (n2 : Int) (l : List Int) (r_ : Int × List Int) (h : bits_Writer_Put_2 n k n2 l = some r_) : Runs Tryz.prog 135 [(.one (.ref 0 0)), (.one (.pv (.int .u64 n))), (.one (.pv (.int .i64 k)))] [[(.own 0 0 (l).length false), (.pv (.int .i64 n2))]] [(.ints .u8 l)] (bits_Writer_Put_2_out n k n2 l r_) := by
 unfold bits_Writer_Put_2 at h
 obtain ⟨n3, h1, h⟩ := bind_of h
 obtain ⟨⟨n4, l_⟩, h2, h⟩ := bind_of h
 have h := some_of h
 subst h
 have t_ := tF (rfl : false = false) <| tR (bits_within_runs k _ h1) <| tL (bits_Writer_Put_L0_3_runs n _ _ h2) <| tN
 exact runs_of (C := cfg) (objs := [[(.own 0 0 (l).length false), (.pv (.int .i64 n2))]]) (sc := t_.ev) (.k0 t_.pf (by kernel_rfl))
def code_PutID_2_out (i : Bool) (i2 : T_id_halves) (n : Int) (l : List Int) : Int × List Int → Res
 | (r1, r2) => ([], [[(.own 0 0 (r2).length false), (.pv (.int .i64 r1))]], [(.ints .u8 r2)])
noncomputable def code_PutID_2_b (rec_code_PutID_2 : Bool → T_id_halves → Int → List Int → Option (Int × List Int)) (i : Bool) (i2 : T_id_halves) (n : Int) (l : List Int) : Option (Int × List Int) :=
 (id_ID_Left i i2).bind fun (b, t) =>
 (id_ID_Right i i2).bind fun (b2, t2) =>
 (id_ID_IsZero i i2).bind fun b3 =>
 bif b3 then
  (bits_Writer_Put_2 0 2 n l).bind fun (n2, l_) =>
  (bits_Writer_Put_2 0 1 n2 l_).bind fun (n3, l_2) =>
  some (n3, l_2)
 else
  (id_ID_IsOne i i2).bind fun _ =>
  bif i then
   (bits_Writer_Put_2 0 2 n l).bind fun (n2, l_) =>
   (bits_Writer_Put_2 1 1 n2 l_).bind fun (n3, l_2) =>
   some (n3, l_2)
  else
   (id_ID_IsZero b t).bind fun b4 =>
   bif b4 then
    (bits_Writer_Put_2 1 2 n l).bind fun (n2, l_) =>
    (rec_code_PutID_2 b2 t2 n2 l_).bind fun (n3, l_2) =>
    some (n3, l_2)
   else
    (id_ID_IsZero b2 t2).bind fun b5 =>
    bif b5 then
     (bits_Writer_Put_2 2 2 n l).bind fun (n2, l_) =>
     (rec_code_PutID_2 b t n2 l_).bind fun (n3, l_2) =>
     some (n3, l_2)
    else
     (bits_Writer_Put_2 3 2 n l).bind fun (n2, l_) =>
     (rec_code_PutID_2 b t n2 l_).bind fun (n3, l_2) =>
     (rec_code_PutID_2 b2 t2 n3 l_2).bind fun (n4, l_3) =>
     some (n4, l_3)
theorem code_PutID_2_b_runs (rec_code_PutID_2 : Bool → T_id_halves → Int → List Int → Option (Int × List Int)) (hrec_code_PutID_2 : ∀ i i2 n l r_, rec_code_PutID_2 i i2 n l = some r_ → Runs Tryz.prog 116 [(.one (.ref 0 0)), (.agg [(.pv (.bool i)), (.pv (T_id_halves.pv i2))])] [[(.own 0 0 (l).length false), (.pv (.int .i64 n))]] [(.ints .u8 l)] (code_PutID_2_out i i2 n l r_)) (i : Bool) (i2 : T_id_halves) (n : Int) (l : List Int) (r_ : Int × List Int) (h : code_PutID_2_b rec_code_PutID_2 i i2 n l = some r_) : Runs Tryz.prog 116 [(.one (.ref 0 0)), (.agg [(.pv (.bool i)), (.pv (T_id_halves.pv i2))])] [[(.own 0 0 (l).length false), (.pv (.int .i64 n))]] [(.ints .u8 l)] (code_PutID_2_out i i2 n l r_) := by
 unfold code_PutID_2_b at h
 obtain ⟨⟨b, t⟩, h1, h⟩ := bind_of h
 obtain ⟨⟨b2, t2⟩, h2, h⟩ := bind_of h
 obtain ⟨b3, h3, h⟩ := bind_of h
 have p3_ := fun {sc_ : List Ev} {Q_ : Prop} (t_ : Tell sc_ Q_) => tR (id_ID_Left_runs i i2 _ h1) <| tR (id_ID_Left_runs i i2 _ h1) <| tR (id_ID_Left_runs i i2 _ h1) <| tR (id_ID_Left_runs i i2 _ h1) <| tR (id_ID_Left_runs i i2 _ h1) <| tR (id_ID_Left_runs i i2 _ h1) <| tR (id_ID_Left_runs i i2 _ h1) <| tR (id_ID_Right_runs i i2 _ h2) <| tR (id_ID_Right_runs i i2 _ h2) <| tR (id_ID_Right_runs i i2 _ h2) <| tR (id_ID_Left_runs i i2 _ h1) <| tR (id_ID_Right_runs i i2 _ h2) <| tR (id_ID_IsZero_runs i i2 _ h3) <| t_
 rcases cond_of h with ⟨h4, h⟩ | ⟨h4, h⟩
 ·obtain ⟨⟨n2, l_⟩, h5, h⟩ := bind_of h
  obtain ⟨⟨n3, l_2⟩, h6, h⟩ := bind_of h
  have h := some_of h
  subst h
  have t_ := p3_ <| tT h4 <| tR (bits_Writer_Put_2_runs 0 2 n l _ h5) <| tR (bits_Writer_Put_2_runs 0 1 n2 l_ _ h6) <| tN
  exact runs_of (C := cfg) (objs := [[(.own 0 0 (l).length false), (.pv (.int .i64 n))]]) (sc := t_.ev) (.k1 t_.pf (by kernel_rfl) (by kernel_rfl))
 ·obtain ⟨_, h5, h⟩ := bind_of h
  rcases cond_of h with ⟨h6, h⟩ | ⟨h6, h⟩
  ·obtain ⟨⟨n2, l_⟩, h7, h⟩ := bind_of h
   obtain ⟨⟨n3, l_2⟩, h8, h⟩ := bind_of h
   have h := some_of h
   subst h
   have t_ := p3_ <| tF h4 <| tR (id_ID_IsOne_runs i i2 _ h5) <| tT h6 <| tR (bits_Writer_Put_2_runs 0 2 n l _ h7) <| tR (bits_Writer_Put_2_runs 1 1 n2 l_ _ h8) <| tN
   exact runs_of (C := cfg) (objs := [[(.own 0 0 (l).length false), (.pv (.int .i64 n))]]) (sc := t_.ev) (.k1 t_.pf (by kernel_rfl) (by kernel_rfl))
  ·obtain ⟨b4, h7, h⟩ := bind_of h
   rcases cond_of h with ⟨h8, h⟩ | ⟨h8, h⟩
   ·obtain ⟨⟨n2, l_⟩, h9, h⟩ := bind_of h
    obtain ⟨⟨n3, l_2⟩, h10, h⟩ := bind_of h
    have h := some_of h
    subst h
    have t_ := p3_ <| tF h4 <| tR (id_ID_IsOne_runs i i2 _ h5) <| tF h6 <| tR (id_ID_IsZero_runs b t _ h7) <| tT h8 <| tR (bits_Writer_Put_2_runs 1 2 n l _ h9) <| tR (hrec_code_PutID_2 b2 t2 n2 l_ _ h10) <| tN
    exact runs_of (C := cfg) (objs := [[(.own 0 0 (l).length false), (.pv (.int .i64 n))]]) (sc := t_.ev) (.k1 t_.pf (by kernel_rfl) (by kernel_rfl))
   ·obtain ⟨b5, h9, h⟩ := bind_of h
    rcases cond_of h with ⟨h10, h⟩ | ⟨h10, h⟩
    ·obtain ⟨⟨n2, l_⟩, h11, h⟩ := bind_of h
     obtain ⟨⟨n3, l_2⟩, h12, h⟩ := bind_of h
     have h := some_of h
     subst h
     have t_ := p3_ <| tF h4 <| tR (id_ID_IsOne_runs i i2 _ h5) <| tF h6 <| tR (id_ID_IsZero_runs b t _ h7) <| tF h8 <| tR (id_ID_IsZero_runs b2 t2 _ h9) <| tT h10 <| tR (bits_Writer_Put_2_runs 2 2 n l _ h11) <| tR (hrec_code_PutID_2 b t n2 l_ _ h12) <| tN
     exact runs_of (C := cfg) (objs := [[(.own 0 0 (l).length false), (.pv (.int .i64 n))]]) (sc := t_.ev) (.k1 t_.pf (by kernel_rfl) (by kernel_rfl))
    ·obtain ⟨⟨n2, l_⟩, h11, h⟩ := bind_of h
     obtain ⟨⟨n3, l_2⟩, h12, h⟩ := bind_of h
     obtain ⟨⟨n4, l_3⟩, h13, h⟩ := bind_of h
     have h := some_of h
     subst h
     have t_ := p3_ <| tF h4 <| tR (id_ID_IsOne_runs i i2 _ h5) <| tF h6 <| tR (id_ID_IsZero_runs b t _ h7) <| tF h8 <| tR (id_ID_IsZero_runs b2 t2 _ h9) <| tF h10 <| tR (bits_Writer_Put_2_runs 3 2 n l _ h11) <| tR (hrec_code_PutID_2 b t n2 l_ _ h12) <| tR (hrec_code_PutID_2 b2 t2 n3 l_2 _ h13) <| tN
     exact runs_of (C := cfg) (objs := [[(.own 0 0 (l).length false), (.pv (.int .i64 n))]]) (sc := t_.ev) (.k1 t_.pf (by kernel_rfl) (by kernel_rfl))
noncomputable def code_PutID_2 : Nat → Bool → T_id_halves → Int → List Int → Option (Int × List Int)
 | 0, _, _, _, _ => none
 | N + 1, i, i2, n, l => code_PutID_2_b (code_PutID_2 N) i i2 n l
theorem code_PutID_2_runs : ∀ (N : Nat) (i : Bool) (i2 : T_id_halves) (n : Int) (l : List Int) (r_ : Int × List Int), code_PutID_2 N i i2 n l = some r_ → Runs Tryz.prog 116 [(.one (.ref 0 0)), (.agg [(.pv (.bool i)), (.pv (T_id_halves.pv i2))])] [[(.own 0 0 (l).length false), (.pv (.int .i64 n))]] [(.ints .u8 l)] (code_PutID_2_out i i2 n l r_)
 | 0, _, _, _, _, _, h => by cases h
 | N + 1, i, i2, n, l, r_, h => code_PutID_2_b_runs (code_PutID_2 N) (code_PutID_2_runs N) i i2 n l r_ h
noncomputable def code_PutID (N : Nat) (i : Bool) (i2 : T_id_halves) (n : Int) : Option (Int × List Int) :=
 (id_ID_Left i i2).bind fun (b, t) =>
 (id_ID_Right i i2).bind fun (b2, t2) =>
 (id_ID_IsZero i i2).bind fun b3 =>
 bif b3 then
  (bits_Writer_Put 0 2 n).bind fun (n2, l_) =>
  (bits_Writer_Put_2 0 1 n2 l_).bind fun (n3, l_2) =>
  some (n3, l_2)
 else
  (id_ID_IsOne i i2).bind fun _ =>
  bif i then
   (bits_Writer_Put 0 2 n).bind fun (n2, l_) =>
   (bits_Writer_Put_2 1 1 n2 l_).bind fun (n3, l_2) =>
   some (n3, l_2)
  else
   (id_ID_IsZero b t).bind fun b4 =>
   bif b4 then
    (bits_Writer_Put 1 2 n).bind fun (n2, l_) =>
    (code_PutID_2 N b2 t2 n2 l_).bind fun (n3, l_2) =>
    some (n3, l_2)
   else
    (id_ID_IsZero b2 t2).bind fun b5 =>
    bif b5 then
     (bits_Writer_Put 2 2 n).bind fun (n2, l_) =>
     (code_PutID_2 N b t n2 l_).bind fun (n3, l_2) =>
     some (n3, l_2)
    else
     (bits_Writer_Put 3 2 n).bind fun (n2, l_) =>
     (code_PutID_2 N b t n2 l_).bind fun (n3, l_2) =>
     (code_PutID_2 N b2 t2 n3 l_2).bind fun (n4, l_3) =>
     some (n4, l_3)
theorem code_PutID_runs (N : Nat) (i : Bool) (i2 : T_id_halves) (n : Int) (r_ : Int × List Int) (h : code_PutID N i i2 n = some r_) : Runs Tryz.prog 116 [(.one (.ref 0 0)), (.agg [(.pv (.bool i)), (.pv (T_id_halves.pv i2))])] [[(.pv .nils), (.pv (.int .i64 n))]] [] (code_PutID_out i i2 n r_) := by
 unfold code_PutID at h
 obtain ⟨⟨b, t⟩, h1, h⟩ := bind_of h
 obtain ⟨⟨b2, t2⟩, h2, h⟩ := bind_of h
 obtain ⟨b3, h3, h⟩ := bind_of h
 have p3_ := fun {sc_ : List Ev} {Q_ : Prop} (t_ : Tell sc_ Q_) => tR (id_ID_Left_runs i i2 _ h1) <| tR (id_ID_Left_runs i i2 _ h1) <| tR (id_ID_Left_runs i i2 _ h1) <| tR (id_ID_Left_runs i i2 _ h1) <| tR (id_ID_Left_runs i i2 _ h1) <| tR (id_ID_Left_runs i i2 _ h1) <| tR (id_ID_Left_runs i i2 _ h1) <| tR (id_ID_Right_runs i i2 _ h2) <| tR (id_ID_Right_runs i i2 _ h2) <| tR (id_ID_Right_runs i i2 _ h2) <| tR (id_ID_Left_runs i i2 _ h1) <| tR (id_ID_Right_runs i i2 _ h2) <| tR (id_ID_IsZero_runs i i2 _ h3) <| t_
 rcases cond_of h with ⟨h4, h⟩ | ⟨h4, h⟩
 ·obtain ⟨⟨n2, l_⟩, h5, h⟩ := bind_of h
  obtain ⟨⟨n3, l_2⟩, h6, h⟩ := bind_of h
  have h := some_of h
  subst h
  have t_ := p3_ <| tT h4 <| tR (bits_Writer_Put_runs 0 2 n _ h5) <| tR (bits_Writer_Put_2_runs 0 1 n2 l_ _ h6) <| tN
  exact runs_of (C := cfg) (objs := [[(.pv .nils), (.pv (.int .i64 n))]]) (sc := t_.ev) (.k1 t_.pf (by kernel_rfl) (by kernel_rfl))
 ·obtain ⟨_, h5, h⟩ := bind_of h
  rcases cond_of h with ⟨h6, h⟩ | ⟨h6, h⟩
  ·obtain ⟨⟨n2, l_⟩, h7, h⟩ := bind_of h
   obtain ⟨⟨n3, l_2⟩, h8, h⟩ := bind_of h
   have h := some_of h
   subst h
   have t_ := p3_ <| tF h4 <| tR (id_ID_IsOne_runs i i2 _ h5) <| tT h6 <| tR (bits_Writer_Put_runs 0 2 n _ h7) <| tR (bits_Writer_Put_2_runs 1 1 n2 l_ _ h8) <| tN
   exact runs_of (C := cfg) (objs := [[(.pv .nils), (.pv (.int .i64 n))]]) (sc := t_.ev) (.k1 t_.pf (by kernel_rfl) (by kernel_rfl))
  ·obtain ⟨b4, h7, h⟩ := bind_of h
   rcases cond_of h with ⟨h8, h⟩ | ⟨h8, h⟩
   ·obtain ⟨⟨n2, l_⟩, h9, h⟩ := bind_of h
    obtain ⟨⟨n3, l_2⟩, h10, h⟩ := bind_of h
    have h := some_of h
    subst h
    have t_ := p3_ <| tF h4 <| tR (id_ID_IsOne_runs i i2 _ h5) <| tF h6 <| tR (id_ID_IsZero_runs b t _ h7) <| tT h8 <| tR (bits_Writer_Put_runs 1 2 n _ h9) <| tR (code_PutID_2_runs N b2 t2 n2 l_ _ h10) <| tN
    exact runs_of (C := cfg) (objs := [[(.pv .nils), (.pv (.int .i64 n))]]) (sc := t_.ev) (.k1 t_.pf (by kernel_rfl) (by kernel_rfl))
   ·obtain ⟨b5, h9, h⟩ := bind_of h
    rcases cond_of h with ⟨h10, h⟩ | ⟨h10, h⟩
    ·obtain ⟨⟨n2, l_⟩, h11, h⟩ := bind_of h
     obtain ⟨⟨n3, l_2⟩, h12, h⟩ := bind_of h
     have h := some_of h
     subst h
     have t_ := p3_ <| tF h4 <| tR (id_ID_IsOne_runs i i2 _ h5) <| tF h6 <| tR (id_ID_IsZero_runs b t _ h7) <| tF h8 <| tR (id_ID_IsZero_runs b2 t2 _ h9) <| tT h10 <| tR (bits_Writer_Put_runs 2 2 n _ h11) <| tR (code_PutID_2_runs N b t n2 l_ _ h12) <| tN
     exact runs_of (C := cfg) (objs := [[(.pv .nils), (.pv (.int .i64 n))]]) (sc := t_.ev) (.k1 t_.pf (by kernel_rfl) (by kernel_rfl))
    ·obtain ⟨⟨n2, l_⟩, h11, h⟩ := bind_of h
     obtain ⟨⟨n3, l_2⟩, h12, h⟩ := bind_of h
     obtain ⟨⟨n4, l_3⟩, h13, h⟩ := bind_of h
     have h := some_of h
     subst h
     have t_ := p3_ <| tF h4 <| tR (id_ID_IsOne_runs i i2 _ h5) <| tF h6 <| tR (id_ID_IsZero_runs b t _ h7) <| tF h8 <| tR (id_ID_IsZero_runs b2 t2 _ h9) <| tF h10 <| tR (bits_Writer_Put_runs 3 2 n _ h11) <| tR (code_PutID_2_runs N b t n2 l_ _ h12) <| tR (code_PutID_2_runs N b2 t2 n3 l_2 _ h13) <| tN
     exact runs_of (C := cfg) (objs := [[(.pv .nils), (.pv (.int .i64 n))]]) (sc := t_.ev) (.k1 t_.pf (by kernel_rfl) (by kernel_rfl))
def bits_Writer_Bytes_out (n : Int) (l : List Int) : Unit → Res
 | _ => ([(.one (.pv (.ints .u8 l false)))], [[(.pv (.ints .u8 l false)), (.pv (.int .i64 n))]], [])
noncomputable def bits_Writer_Bytes (n : Int) (l : List Int) : Option (Unit) :=
 bif fits ((List.take (l).length l)).length then
 some ()
 else none
theorem bits_Writer_Bytes_runs (n : Int) (l : List Int) (r_ : Unit) (h : bits_Writer_Bytes n l = some r_) : Runs Tryz.prog 117 [(.one (.ref 0 0))] [[(.own 0 0 (l).length false), (.pv (.int .i64 n))]] [(.ints .u8 l)] (bits_Writer_Bytes_out n l r_) := by
 unfold bits_Writer_Bytes at h
 obtain ⟨h1, h⟩ := need_of h
 have h := some_of h
 subst h
 have t_ := tF (rfl : false = false) <| tR (bytes_Clone_runs (l := (List.take (l).length l)) (t := false) h1) <| tN
 have e_ : Runs Tryz.prog 117 [(.one (.ref 0 0))] [[(.own 0 0 (l).length false), (.pv (.int .i64 n))]] [(.ints .u8 l)] ([(.one (.pv (.ints .u8 (List.take (l).length l) false)))], [[(.pv (.ints .u8 (List.take (l).length l) false)), (.pv (.int .i64 n))]], []) := runs_of (C := cfg) (objs := [[(.own 0 0 (l).length false), (.pv (.int .i64 n))]]) (sc := t_.ev) (.k0 t_.pf (by kernel_rfl))
 exact e_.out ⟨.pv (.ints (by first | rfl | (simp only [List.take_length]; done) | (simp; done) | (simp only [List.map_take, List.map_drop, List.map_append, List.take_length, List.nil_append]; done) | (simp only [List.length_map, List.take_length, List.length_append, List.drop_zero, List.map_append, List.map_take, List.map_drop, List.map_replicate, List.map_cons, List.map_nil, List.append_nil, List.nil_append]; done))), trivial⟩ ⟨⟨.pv (.ints (by first | rfl | (simp only [List.take_length]; done) | (simp; done) | (simp only [List.map_take, List.map_drop, List.map_append, List.take_length, List.nil_append]; done) | (simp only [List.length_map, List.take_length, List.length_append, List.drop_zero, List.map_append, List.map_take, List.map_drop, List.map_replicate, List.map_cons, List.map_nil, List.append_nil, List.nil_append]; done))), .eq rfl, trivial⟩, trivial⟩ trivial rfl
noncomputable def code_ID (N : Nat) (i : Bool) (i2 : T_id_halves) : Option (List Int) :=
 (bits_NewWriter).bind fun _ =>
 (code_PutID N i i2 0).bind fun (n, l_) =>
 (bits_Writer_Bytes n l_).bind fun _ =>
 some l_
theorem code_ID_runs (N : Nat) (i : Bool) (i2 : T_id_halves) (r_ : List Int) (h : code_ID N i i2 = some r_) : Runs Tryz.prog 83 [(.agg [(.pv (.bool i)), (.pv (T_id_halves.pv i2))])] [] [] (code_ID_out i i2 r_) := by
 unfold code_ID at h
 obtain ⟨_, h1, h⟩ := bind_of h
 obtain ⟨⟨n, l_⟩, h2, h⟩ := bind_of h
 obtain ⟨_, h3, h⟩ := bind_of h
 have h := some_of h
 subst h
 have t_ := tR (bits_NewWriter_runs _ h1) <| tR (code_PutID_runs N i i2 0 _ h2) <| tR (bits_Writer_Bytes_runs n l_ _ h3) <| tN
 exact runs_of (C := cfg) (objs := []) (sc := t_.ev) (.k0 t_.pf (by kernel_rfl))
def wire_Text_out (p : List Int) (s : ByteArray) : List Int → Res
 | r1 => ([(.one (.own 0 0 (r1).length false))], [], [(.ints .u8 r1)])
noncomputable def wire_Text (p : List Int) (s : ByteArray) : Option (List Int) :=
 (wire_Num p (IntKind.u64.wrap (s.size : Int))).bind fun l_ =>
 bif fits ((l_ ++ (bytesL s))).length then
 some (l_ ++ (bytesL s))
 else none
theorem wire_Text_runs (p : List Int) (s : ByteArray) (r_ : List Int) (h : wire_Text p s = some r_) : Runs Tryz.prog 82 [(.one (.pv (.ints .u8 p false))), (.one (.pv (.str s)))] [] [] (wire_Text_out p s r_) := by
 unfold wire_Text at h
 obtain ⟨l_, h1, h⟩ := bind_of h
 obtain ⟨h2, h⟩ := need_of h
 have h := some_of h
 subst h
 have t_ := tR (wire_Num_runs p (IntKind.u64.wrap (s.size : Int)) _ h1) <| tO (show (Nat.beq (l_).length (l_).length) = true from Nat.beq_refl _) <| tO h2 <| tN
 exact runs_of (C := cfg) (objs := []) (sc := t_.ev) (.k0 t_.pf (by kernel_rfl))
noncomputable def deed_PutGift (N : Nat) (p : List Int) (g : Int) (g2 : Int) (g3 : Int) (g4 : Bool) (g5 : T_id_halves) : Option (List Int) :=
 (wire_Num p g).bind fun l_ =>
 (wire_Num l_ (IntKind.u64.wrap g2)).bind fun l_2 =>
 (wire_Num l_2 (IntKind.u64.wrap g3)).bind fun l_3 =>
 (code_ID N g4 g5).bind fun l_4 =>
 (wire_Text l_3 (Ev.strOf l_4)).bind fun l_5 =>
 some l_5
theorem deed_PutGift_runs (N : Nat) (p : List Int) (g : Int) (g2 : Int) (g3 : Int) (g4 : Bool) (g5 : T_id_halves) (r_ : List Int) (h : deed_PutGift N p g g2 g3 g4 g5 = some r_) : Runs Tryz.prog 47 [(.one (.pv (.ints .u8 p false))), (.agg [(.pv (.int .u64 g)), (.pv (.int .i64 g2)), (.pv (.int .i64 g3)), (.pv (.bool g4)), (.pv (T_id_halves.pv g5))])] [] [] (deed_PutGift_out p g g2 g3 g4 g5 r_) := by
 unfold deed_PutGift at h
 obtain ⟨l_, h1, h⟩ := bind_of h
 obtain ⟨l_2, h2, h⟩ := bind_of h
 obtain ⟨l_3, h3, h⟩ := bind_of h
 obtain ⟨l_4, h4, h⟩ := bind_of h
 obtain ⟨l_5, h5, h⟩ := bind_of h
 have h := some_of h
 subst h
 have t_ := tR (wire_Num_runs p g _ h1) <| tR (wire_Num_runs p g _ h1) <| tR (wire_Num_runs p g _ h1) <| tR (Runs.coe (as' := [(.one (.pv (.ints .u8 (List.take (l_).length l_) false))), (.one (.pv (.int .u64 (IntKind.u64.wrap g2))))]) (objs' := []) (rows' := []) (wire_Num_runs l_ (IntKind.u64.wrap g2) _ h2) ⟨.pv (.ints (by first | rfl | (simp only [List.take_length]; done) | (simp; done) | (simp only [List.map_take, List.map_drop, List.map_append, List.take_length, List.nil_append]; done) | (simp only [List.length_map, List.take_length, List.length_append, List.drop_zero, List.map_append, List.map_take, List.map_drop, List.map_replicate, List.map_cons, List.map_nil, List.append_nil, List.nil_append]; done))), .eq rfl, trivial⟩ trivial trivial) <| tR (wire_Num_runs p g _ h1) <| tR (Runs.coe (as' := [(.one (.pv (.ints .u8 (List.take (l_).length l_) false))), (.one (.pv (.int .u64 (IntKind.u64.wrap g2))))]) (objs' := []) (rows' := []) (wire_Num_runs l_ (IntKind.u64.wrap g2) _ h2) ⟨.pv (.ints (by first | rfl | (simp only [List.take_length]; done) | (simp; done) | (simp only [List.map_take, List.map_drop, List.map_append, List.take_length, List.nil_append]; done) | (simp only [List.length_map, List.take_length, List.length_append, List.drop_zero, List.map_append, List.map_take, List.map_drop, List.map_replicate, List.map_cons, List.map_nil, List.append_nil, List.nil_append]; done))), .eq rfl, trivial⟩ trivial trivial) <| tR (Runs.coe (as' := [(.one (.pv (.ints .u8 (List.take (l_2).length l_2) false))), (.one (.pv (.int .u64 (IntKind.u64.wrap g3))))]) (objs' := []) (rows' := []) (wire_Num_runs l_2 (IntKind.u64.wrap g3) _ h3) ⟨.pv (.ints (by first | rfl | (simp only [List.take_length]; done) | (simp; done) | (simp only [List.map_take, List.map_drop, List.map_append, List.take_length, List.nil_append]; done) | (simp only [List.length_map, List.take_length, List.length_append, List.drop_zero, List.map_append, List.map_take, List.map_drop, List.map_replicate, List.map_cons, List.map_nil, List.append_nil, List.nil_append]; done))), .eq rfl, trivial⟩ trivial trivial) <| tR (code_ID_runs N g4 g5 _ h4) <| tR (Runs.coe (as' := [(.one (.pv (.ints .u8 (List.take (l_3).length l_3) false))), (.one (.pv (.str (Ev.strOf l_4))))]) (objs' := []) (rows' := []) (wire_Text_runs l_3 (Ev.strOf l_4) _ h5) ⟨.pv (.ints (by first | rfl | (simp only [List.take_length]; done) | (simp; done) | (simp only [List.map_take, List.map_drop, List.map_append, List.take_length, List.nil_append]; done) | (simp only [List.length_map, List.take_length, List.length_append, List.drop_zero, List.map_append, List.map_take, List.map_drop, List.map_replicate, List.map_cons, List.map_nil, List.append_nil, List.nil_append]; done))), .eq rfl, trivial⟩ trivial trivial) <| tN
 exact runs_of (C := cfg) (objs := []) (sc := t_.ev) (.k1 t_.pf (by kernel_rfl) (by kernel_rfl))
def deed_Deeds_Bytes_L0_st (r : List E_deed_Gift) (n : Int) (n2 : Int) (n3 : Int) (r2 : List E_deed_Gift) (m : List (Int × Int)) (m2 : List ((Int × Int) × Int)) : Int × List Int → St
 | (n4, l) => ⟨[(0, (.av (.one (.ref 0 0)))), (3, (.av (.one (.own 0 0 (l).length false)))), (33, (.av (.one (.pv (.recs 5 (List.map E_deed_Gift.pv r) false))))), (34, (.av (.one (.pv (.int .i64 n))))), (35, (.av (.one (.pv (.int .i64 n4)))))], [(0, [(.pv (.int .i64 n2)), (.pv (.int .u64 n3)), (.pv (.recs 5 (List.map E_deed_Gift.pv r2) false)), (.mp 1), (.mp 2)]), (1, [(.maph (.int .i64) false (List.map M_int_int.pv m) [])]), (2, [(.maph (.st [.i64, .u64]) false (List.map M_deed_Mark_int.pv m2) [])])], [(0, (.live (.ints .u8 l)))]⟩
def deed_Deeds_Bytes_L0_ex (r : List E_deed_Gift) (n : Int) (n2 : Int) (n3 : Int) (r2 : List E_deed_Gift) (m : List (Int × Int)) (m2 : List ((Int × Int) × Int)) : List Int → Ex × St
 | r1 => ((.exit 0), ⟨[(0, (.av (.one (.ref 0 0)))), (3, (.av (.one (.own 0 0 (r1).length false))))], [(0, [(.pv (.int .i64 n2)), (.pv (.int .u64 n3)), (.pv (.recs 5 (List.map E_deed_Gift.pv r2) false)), (.mp 1), (.mp 2)]), (1, [(.maph (.int .i64) false (List.map M_int_int.pv m) [])]), (2, [(.maph (.st [.i64, .u64]) false (List.map M_deed_Mark_int.pv m2) [])])], [(0, (.live (.ints .u8 r1)))]⟩)
noncomputable def deed_Deeds_Bytes_L0_step (N : Nat) (r : List E_deed_Gift) (n : Int) (n2 : Int) (n3 : Int) (r2 : List E_deed_Gift) (m : List (Int × Int)) (m2 : List ((Int × Int) × Int)) : Int × List Int → Option ((Int × List Int) ⊕ (List Int))
 | (n4, l) =>
 bif (decide ((n4 : Int) < n)) then
  bif decide ((0 : Int) ≤ n4) && decide ((n4 : Int) < (((List.map E_deed_Gift.pv r)).length : Int)) then
  (r[(n4).toNat]?).bind fun e_ => match e_ with
  | .mk n5 n6 n7 b t =>
  (deed_PutGift N l n5 n6 n7 b t).bind fun l_ =>
  some (.inl ((iadd .i64 n4 1), l_))
  else none
 else
  some (.inr l)
theorem deed_Deeds_Bytes_L0_ok (N : Nat) (r : List E_deed_Gift) (n : Int) (n2 : Int) (n3 : Int) (r2 : List E_deed_Gift) (m : List (Int × Int)) (m2 : List ((Int × Int) × Int)) (s_ : Int × List Int) (z_ : (Int × List Int) ⊕ (List Int)) (h : deed_Deeds_Bytes_L0_step N r n n2 n3 r2 m m2 s_ = some z_) : RoundOk Tryz.prog cfg 24 3 (loopAt Tryz.prog 24 0) (deed_Deeds_Bytes_L0_st r n n2 n3 r2 m m2) (deed_Deeds_Bytes_L0_ex r n n2 n3 r2 m m2) s_ z_ := by
 rcases s_ with ⟨n4, l⟩
 rcases cond_of h with ⟨h1, h⟩ | ⟨h1, h⟩
 ·obtain ⟨h2, h⟩ := need_of h
  obtain ⟨⟨n5, n6, n7, b, t⟩, h3, h⟩ := bind_of h
  obtain ⟨l_, h4, h⟩ := bind_of h
  have h := some_of h
  subst h
  have t_ := tT h1 <| tO h2 <| tE (.el [(.int .u64 n5), (.int .i64 n6), (.int .i64 n7), (.bool b), (T_id_halves.pv t)]) <| tO (el_of (f := E_deed_Gift.pv) h3) <| tR (Runs.coe (as' := [(.one (.pv (.ints .u8 (List.take (l).length l) false))), (.agg [(.pv (.int .u64 n5)), (.pv (.int .i64 n6)), (.pv (.int .i64 n7)), (.pv (.bool b)), (.pv (T_id_halves.pv t))])]) (objs' := []) (rows' := []) (deed_PutGift_runs N l n5 n6 n7 b t _ h4) ⟨.pv (.ints (by first | rfl | (simp only [List.take_length]; done) | (simp; done) | (simp only [List.map_take, List.map_drop, List.map_append, List.take_length, List.nil_append]; done) | (simp only [List.length_map, List.take_length, List.length_append, List.drop_zero, List.map_append, List.map_take, List.map_drop, List.map_replicate, List.map_cons, List.map_nil, List.append_nil, List.nil_append]; done))), ⟨.eq rfl, .eq rfl, .eq rfl, .eq rfl, .eq rfl, trivial⟩, trivial⟩ trivial trivial) <| tN
  exact ⟨t_.ev, deed_Deeds_Bytes_L0_st r n n2 n3 r2 m m2 ((iadd .i64 n4 1), l_), .k0 t_.pf (by kernel_rfl), .same (by kernel_rfl)⟩
 ·have h := some_of h
  subst h
  have t_ := tF h1 <| tN
  exact ⟨t_.ev, ⟨[(36, (.av (.one (.pv (.bool false))))), (0, (.av (.one (.ref 0 0)))), (3, (.av (.one (.own 0 0 (l).length false)))), (33, (.av (.one (.pv (.recs 5 (List.map E_deed_Gift.pv r) false))))), (34, (.av (.one (.pv (.int .i64 n))))), (35, (.av (.one (.pv (.int .i64 n4))))), (36, (.av (.one (.pv (.bool (decide ((n4 : Int) < n)))))))], [(0, [(.pv (.int .i64 n2)), (.pv (.int .u64 n3)), (.pv (.recs 5 (List.map E_deed_Gift.pv r2) false)), (.mp 1), (.mp 2)]), (1, [(.maph (.int .i64) false (List.map M_int_int.pv m) [])]), (2, [(.maph (.st [.i64, .u64]) false (List.map M_deed_Mark_int.pv m2) [])])], [(0, (.live (.ints .u8 l)))]⟩, .k0 t_.pf (by kernel_rfl), ⟨⟨⟨_, rfl, .eq rfl⟩, ⟨_, rfl, .eq rfl⟩, trivial⟩, ⟨⟨rfl, ⟨.eq rfl, .eq rfl, .eq rfl, .eq rfl, .eq rfl, trivial⟩⟩, ⟨rfl, ⟨.eq rfl, trivial⟩⟩, ⟨rfl, ⟨.eq rfl, trivial⟩⟩, trivial⟩, ⟨⟨rfl, .eq rfl⟩, trivial⟩⟩⟩
theorem deed_Deeds_Bytes_L0_runs (N : Nat) (r : List E_deed_Gift) (n : Int) (n2 : Int) (n3 : Int) (r2 : List E_deed_Gift) (m : List (Int × Int)) (m2 : List ((Int × Int) × Int)) (s_ : Int × List Int) (r_ : List Int) (h : runL (deed_Deeds_Bytes_L0_step N r n n2 n3 r2 m m2) s_ = some r_) : LRuns Tryz.prog (lEnv Tryz.prog cfg 24 3).nt 3 (.loop (loopAt Tryz.prog 24 0)) (deed_Deeds_Bytes_L0_st r n n2 n3 r2 m m2 s_) (deed_Deeds_Bytes_L0_ex r n n2 n3 r2 m m2 r_).1 (deed_Deeds_Bytes_L0_ex r n n2 n3 r2 m m2 r_).2 :=
 loop_run h (deed_Deeds_Bytes_L0_ok N r n n2 n3 r2 m m2) (by intro r_; rcases r_ with r1 <;> simp [deed_Deeds_Bytes_L0_ex])
def maps_Keys_int_2_out (m : List (Int × Int)) : Unit → Res
 | _ => ([(.one (.fn 86 [(.ref 1 0)]))], [[(.maph (.int .i64) false (List.map M_int_int.pv m) [])], [(.mp 0)]], [])
noncomputable def maps_Keys_int_2 (m : List (Int × Int)) : Option (Unit) :=
 some ()
theorem maps_Keys_int_2_runs (m : List (Int × Int)) (r_ : Unit) (h : maps_Keys_int_2 m = some r_) : Runs Tryz.prog 49 [(.one (.mp 0))] [[(.maph (.int .i64) false (List.map M_int_int.pv m) [])]] [] (maps_Keys_int_2_out m r_) := by
 unfold maps_Keys_int_2 at h
 have h := some_of h
 subst h
 have t_ := tN
 exact runs_of (C := cfg) (objs := [[(.maph (.int .i64) false (List.map M_int_int.pv m) [])]]) (sc := t_.ev) (.k0 t_.pf (by kernel_rfl))
def deed_Deeds_Bytes_L1_st (n : Int) (n2 : Int) (n3 : Int) (r : List E_deed_Gift) (m : List (Int × Int)) (m2 : List ((Int × Int) × Int)) (l2 : List Int) : Int × List Int → St
 | (n4, l) => ⟨[(0, (.av (.one (.ref 0 0)))), (3, (.av (.one (.own 0 0 (l).length false)))), (56, (.av (.one (.own 1 0 (l2).length false)))), (57, (.av (.one (.pv (.int .i64 n))))), (58, (.av (.one (.pv (.int .i64 n4)))))], [(0, [(.pv (.int .i64 n2)), (.pv (.int .u64 n3)), (.pv (.recs 5 (List.map E_deed_Gift.pv r) false)), (.mp 1), (.mp 2)]), (1, [(.maph (.int .i64) false (List.map M_int_int.pv m) [])]), (2, [(.maph (.st [.i64, .u64]) false (List.map M_deed_Mark_int.pv m2) [])])], [(0, (.live (.ints .u8 l))), (1, (.live (.ints .i64 l2)))]⟩
def deed_Deeds_Bytes_L1_ex (n : Int) (n2 : Int) (n3 : Int) (r : List E_deed_Gift) (m : List (Int × Int)) (m2 : List ((Int × Int) × Int)) (l2 : List Int) : List Int → Ex × St
 | r1 => ((.exit 2), ⟨[(0, (.av (.one (.ref 0 0)))), (3, (.av (.one (.own 0 0 (r1).length false))))], [(0, [(.pv (.int .i64 n2)), (.pv (.int .u64 n3)), (.pv (.recs 5 (List.map E_deed_Gift.pv r) false)), (.mp 1), (.mp 2)]), (1, [(.maph (.int .i64) false (List.map M_int_int.pv m) [])]), (2, [(.maph (.st [.i64, .u64]) false (List.map M_deed_Mark_int.pv m2) [])])], [(0, (.live (.ints .u8 r1))), (1, (.live (.ints .i64 l2)))]⟩)
noncomputable def deed_Deeds_Bytes_L1_step (n : Int) (n2 : Int) (n3 : Int) (r : List E_deed_Gift) (m : List (Int × Int)) (m2 : List ((Int × Int) × Int)) (l2 : List Int) : Int × List Int → Option ((Int × List Int) ⊕ (List Int))
 | (n4, l) =>
 bif (decide ((n4 : Int) < n)) then
  bif decide ((0 : Int) ≤ n4) && decide ((n4 : Int) < ((l2).length : Int)) then
  (wire_Num l (IntKind.u64.wrap (l2.getD (0 + (n4).toNat) 0))).bind fun l_ =>
  some (.inl ((iadd .i64 n4 1), l_))
  else none
 else
  some (.inr l)
theorem deed_Deeds_Bytes_L1_ok (n : Int) (n2 : Int) (n3 : Int) (r : List E_deed_Gift) (m : List (Int × Int)) (m2 : List ((Int × Int) × Int)) (l2 : List Int) (s_ : Int × List Int) (z_ : (Int × List Int) ⊕ (List Int)) (h : deed_Deeds_Bytes_L1_step n n2 n3 r m m2 l2 s_ = some z_) : RoundOk Tryz.prog cfg 24 3 (loopAt Tryz.prog 24 1) (deed_Deeds_Bytes_L1_st n n2 n3 r m m2 l2) (deed_Deeds_Bytes_L1_ex n n2 n3 r m m2 l2) s_ z_ := by
 rcases s_ with ⟨n4, l⟩
 rcases cond_of h with ⟨h1, h⟩ | ⟨h1, h⟩
 ·obtain ⟨h2, h⟩ := need_of h
  obtain ⟨l_, h3, h⟩ := bind_of h
  have h := some_of h
  subst h
  have t_ := tT h1 <| tO h2 <| tR (Runs.coe (as' := [(.one (.pv (.ints .u8 (List.take (l).length l) false))), (.one (.pv (.int .u64 (IntKind.u64.wrap (l2.getD (0 + (n4).toNat) 0)))))]) (objs' := []) (rows' := []) (wire_Num_runs l (IntKind.u64.wrap (l2.getD (0 + (n4).toNat) 0)) _ h3) ⟨.pv (.ints (by first | rfl | (simp only [List.take_length]; done) | (simp; done) | (simp only [List.map_take, List.map_drop, List.map_append, List.take_length, List.nil_append]; done) | (simp only [List.length_map, List.take_length, List.length_append, List.drop_zero, List.map_append, List.map_take, List.map_drop, List.map_replicate, List.map_cons, List.map_nil, List.append_nil, List.nil_append]; done))), .eq rfl, trivial⟩ trivial trivial) <| tN
  exact ⟨t_.ev, deed_Deeds_Bytes_L1_st n n2 n3 r m m2 l2 ((iadd .i64 n4 1), l_), .k0 t_.pf (by kernel_rfl), .same (by kernel_rfl)⟩
 ·have h := some_of h
  subst h
  have t_ := tF h1 <| tN
  exact ⟨t_.ev, ⟨[(59, (.av (.one (.pv (.bool false))))), (0, (.av (.one (.ref 0 0)))), (3, (.av (.one (.own 0 0 (l).length false)))), (56, (.av (.one (.own 1 0 (l2).length false)))), (57, (.av (.one (.pv (.int .i64 n))))), (58, (.av (.one (.pv (.int .i64 n4))))), (59, (.av (.one (.pv (.bool (decide ((n4 : Int) < n)))))))], [(0, [(.pv (.int .i64 n2)), (.pv (.int .u64 n3)), (.pv (.recs 5 (List.map E_deed_Gift.pv r) false)), (.mp 1), (.mp 2)]), (1, [(.maph (.int .i64) false (List.map M_int_int.pv m) [])]), (2, [(.maph (.st [.i64, .u64]) false (List.map M_deed_Mark_int.pv m2) [])])], [(0, (.live (.ints .u8 l))), (1, (.live (.ints .i64 l2)))]⟩, .k0 t_.pf (by kernel_rfl), ⟨⟨⟨_, rfl, .eq rfl⟩, ⟨_, rfl, .eq rfl⟩, trivial⟩, ⟨⟨rfl, ⟨.eq rfl, .eq rfl, .eq rfl, .eq rfl, .eq rfl, trivial⟩⟩, ⟨rfl, ⟨.eq rfl, trivial⟩⟩, ⟨rfl, ⟨.eq rfl, trivial⟩⟩, trivial⟩, ⟨⟨rfl, .eq rfl⟩, ⟨rfl, .eq rfl⟩, trivial⟩⟩⟩
theorem deed_Deeds_Bytes_L1_runs (n : Int) (n2 : Int) (n3 : Int) (r : List E_deed_Gift) (m : List (Int × Int)) (m2 : List ((Int × Int) × Int)) (l2 : List Int) (s_ : Int × List Int) (r_ : List Int) (h : runL (deed_Deeds_Bytes_L1_step n n2 n3 r m m2 l2) s_ = some r_) : LRuns Tryz.prog (lEnv Tryz.prog cfg 24 3).nt 3 (.loop (loopAt Tryz.prog 24 1)) (deed_Deeds_Bytes_L1_st n n2 n3 r m m2 l2 s_) (deed_Deeds_Bytes_L1_ex n n2 n3 r m m2 l2 r_).1 (deed_Deeds_Bytes_L1_ex n n2 n3 r m m2 l2 r_).2 :=
 loop_run h (deed_Deeds_Bytes_L1_ok n n2 n3 r m m2 l2) (by intro r_; rcases r_ with r1 <;> simp [deed_Deeds_Bytes_L1_ex])
def deed_Deeds_Bytes_L2_st (n : Int) (n2 : Int) (n3 : Int) (r : List E_deed_Gift) (m : List (Int × Int)) (m2 : List ((Int × Int) × Int)) (r2 : List E_deed_Mark) : Int × List Int → St
 | (n4, l) => ⟨[(3, (.av (.one (.own 0 0 (l).length false)))), (76, (.av (.one (.own 1 0 ((List.map E_deed_Mark.pv r2)).length false)))), (77, (.av (.one (.pv (.int .i64 n))))), (78, (.av (.one (.pv (.int .i64 n4)))))], [(0, [(.pv (.int .i64 n2)), (.pv (.int .u64 n3)), (.pv (.recs 5 (List.map E_deed_Gift.pv r) false)), (.mp 1), (.mp 2)]), (1, [(.maph (.int .i64) false (List.map M_int_int.pv m) [])]), (2, [(.maph (.st [.i64, .u64]) false (List.map M_deed_Mark_int.pv m2) [])])], [(0, (.live (.ints .u8 l))), (1, (.live (.recs 2 (List.map E_deed_Mark.pv r2))))]⟩
def deed_Deeds_Bytes_L2_ex (n : Int) (n2 : Int) (n3 : Int) (r : List E_deed_Gift) (m : List (Int × Int)) (m2 : List ((Int × Int) × Int)) (r2 : List E_deed_Mark) : List Int → Ex × St
 | r1 => ((.exit 4), ⟨[(3, (.av (.one (.own 0 0 (r1).length false))))], [(0, [(.pv (.int .i64 n2)), (.pv (.int .u64 n3)), (.pv (.recs 5 (List.map E_deed_Gift.pv r) false)), (.mp 1), (.mp 2)]), (1, [(.maph (.int .i64) false (List.map M_int_int.pv m) [])]), (2, [(.maph (.st [.i64, .u64]) false (List.map M_deed_Mark_int.pv m2) [])])], [(0, (.live (.ints .u8 r1))), (1, (.live (.recs 2 (List.map E_deed_Mark.pv r2))))]⟩)
noncomputable def deed_Deeds_Bytes_L2_step (n : Int) (n2 : Int) (n3 : Int) (r : List E_deed_Gift) (m : List (Int × Int)) (m2 : List ((Int × Int) × Int)) (r2 : List E_deed_Mark) : Int × List Int → Option ((Int × List Int) ⊕ (List Int))
 | (n4, l) =>
 bif (decide ((n4 : Int) < n)) then
  bif decide ((0 : Int) ≤ n4) && decide ((n4 : Int) < (((List.map E_deed_Mark.pv r2)).length : Int)) then
  (r2[(0 + (n4).toNat)]?).bind fun e_ => match e_ with
  | .mk n5 n6 =>
  (wire_Num l (IntKind.u64.wrap n5)).bind fun l_ =>
  (wire_Num l_ n6).bind fun l_2 =>
  some (.inl ((iadd .i64 n4 1), l_2))
  else none
 else
  some (.inr l)
theorem deed_Deeds_Bytes_L2_ok (n : Int) (n2 : Int) (n3 : Int) (r : List E_deed_Gift) (m : List (Int × Int)) (m2 : List ((Int × Int) × Int)) (r2 : List E_deed_Mark) (s_ : Int × List Int) (z_ : (Int × List Int) ⊕ (List Int)) (h : deed_Deeds_Bytes_L2_step n n2 n3 r m m2 r2 s_ = some z_) : RoundOk Tryz.prog cfg 24 3 (loopAt Tryz.prog 24 2) (deed_Deeds_Bytes_L2_st n n2 n3 r m m2 r2) (deed_Deeds_Bytes_L2_ex n n2 n3 r m m2 r2) s_ z_ := by
 rcases s_ with ⟨n4, l⟩
 rcases cond_of h with ⟨h1, h⟩ | ⟨h1, h⟩
 ·obtain ⟨h2, h⟩ := need_of h
  obtain ⟨⟨n5, n6⟩, h3, h⟩ := bind_of h
  obtain ⟨l_, h4, h⟩ := bind_of h
  obtain ⟨l_2, h5, h⟩ := bind_of h
  have h := some_of h
  subst h
  have t_ := tT h1 <| tO h2 <| tE (.el [(.int .i64 n5), (.int .u64 n6)]) <| tO (el_of (f := E_deed_Mark.pv) h3) <| tR (Runs.coe (as' := [(.one (.pv (.ints .u8 (List.take (l).length l) false))), (.one (.pv (.int .u64 (IntKind.u64.wrap n5))))]) (objs' := []) (rows' := []) (wire_Num_runs l (IntKind.u64.wrap n5) _ h4) ⟨.pv (.ints (by first | rfl | (simp only [List.take_length]; done) | (simp; done) | (simp only [List.map_take, List.map_drop, List.map_append, List.take_length, List.nil_append]; done) | (simp only [List.length_map, List.take_length, List.length_append, List.drop_zero, List.map_append, List.map_take, List.map_drop, List.map_replicate, List.map_cons, List.map_nil, List.append_nil, List.nil_append]; done))), .eq rfl, trivial⟩ trivial trivial) <| tR (Runs.coe (as' := [(.one (.pv (.ints .u8 (List.take (l).length l) false))), (.one (.pv (.int .u64 (IntKind.u64.wrap n5))))]) (objs' := []) (rows' := []) (wire_Num_runs l (IntKind.u64.wrap n5) _ h4) ⟨.pv (.ints (by first | rfl | (simp only [List.take_length]; done) | (simp; done) | (simp only [List.map_take, List.map_drop, List.map_append, List.take_length, List.nil_append]; done) | (simp only [List.length_map, List.take_length, List.length_append, List.drop_zero, List.map_append, List.map_take, List.map_drop, List.map_replicate, List.map_cons, List.map_nil, List.append_nil, List.nil_append]; done))), .eq rfl, trivial⟩ trivial trivial) <| tR (Runs.coe (as' := [(.one (.pv (.ints .u8 (List.take (l_).length l_) false))), (.one (.pv (.int .u64 n6)))]) (objs' := []) (rows' := []) (wire_Num_runs l_ n6 _ h5) ⟨.pv (.ints (by first | rfl | (simp only [List.take_length]; done) | (simp; done) | (simp only [List.map_take, List.map_drop, List.map_append, List.take_length, List.nil_append]; done) | (simp only [List.length_map, List.take_length, List.length_append, List.drop_zero, List.map_append, List.map_take, List.map_drop, List.map_replicate, List.map_cons, List.map_nil, List.append_nil, List.nil_append]; done))), .eq rfl, trivial⟩ trivial trivial) <| tN
  exact ⟨t_.ev, deed_Deeds_Bytes_L2_st n n2 n3 r m m2 r2 ((iadd .i64 n4 1), l_2), .k1 t_.pf (by kernel_rfl) (by kernel_rfl), .same (by kernel_rfl)⟩
 ·have h := some_of h
  subst h
  have t_ := tF h1 <| tN
  exact ⟨t_.ev, ⟨[(79, (.av (.one (.pv (.bool false))))), (3, (.av (.one (.own 0 0 (l).length false)))), (76, (.av (.one (.own 1 0 ((List.map E_deed_Mark.pv r2)).length false)))), (77, (.av (.one (.pv (.int .i64 n))))), (78, (.av (.one (.pv (.int .i64 n4))))), (79, (.av (.one (.pv (.bool (decide ((n4 : Int) < n)))))))], [(0, [(.pv (.int .i64 n2)), (.pv (.int .u64 n3)), (.pv (.recs 5 (List.map E_deed_Gift.pv r) false)), (.mp 1), (.mp 2)]), (1, [(.maph (.int .i64) false (List.map M_int_int.pv m) [])]), (2, [(.maph (.st [.i64, .u64]) false (List.map M_deed_Mark_int.pv m2) [])])], [(0, (.live (.ints .u8 l))), (1, (.live (.recs 2 (List.map E_deed_Mark.pv r2))))]⟩, .k0 t_.pf (by kernel_rfl), ⟨⟨⟨_, rfl, .eq rfl⟩, trivial⟩, ⟨⟨rfl, ⟨.eq rfl, .eq rfl, .eq rfl, .eq rfl, .eq rfl, trivial⟩⟩, ⟨rfl, ⟨.eq rfl, trivial⟩⟩, ⟨rfl, ⟨.eq rfl, trivial⟩⟩, trivial⟩, ⟨⟨rfl, .eq rfl⟩, ⟨rfl, .eq rfl⟩, trivial⟩⟩⟩
theorem deed_Deeds_Bytes_L2_runs (n : Int) (n2 : Int) (n3 : Int) (r : List E_deed_Gift) (m : List (Int × Int)) (m2 : List ((Int × Int) × Int)) (r2 : List E_deed_Mark) (s_ : Int × List Int) (r_ : List Int) (h : runL (deed_Deeds_Bytes_L2_step n n2 n3 r m m2 r2) s_ = some r_) : LRuns Tryz.prog (lEnv Tryz.prog cfg 24 3).nt 3 (.loop (loopAt Tryz.prog 24 2)) (deed_Deeds_Bytes_L2_st n n2 n3 r m m2 r2 s_) (deed_Deeds_Bytes_L2_ex n n2 n3 r m m2 r2 r_).1 (deed_Deeds_Bytes_L2_ex n n2 n3 r m m2 r2 r_).2 :=
 loop_run h (deed_Deeds_Bytes_L2_ok n n2 n3 r m m2 r2) (by intro r_; rcases r_ with r1 <;> simp [deed_Deeds_Bytes_L2_ex])
noncomputable def deed_Deeds_Bytes (N : Nat) (n : Int) (n2 : Int) (r : List E_deed_Gift) (m : List (Int × Int)) (m2 : List ((Int × Int) × Int)) : Option (List Int) :=
 (wire_Num [] (IntKind.u64.wrap n)).bind fun l_ =>
 (wire_Num l_ n2).bind fun l_2 =>
 (wire_Num l_2 (IntKind.u64.wrap (((List.map E_deed_Gift.pv r)).length : Int))).bind fun l_3 =>
 (runL (deed_Deeds_Bytes_L0_step N r (((List.map E_deed_Gift.pv r)).length : Int) n n2 r m m2) (0, l_3)).bind fun l_4 =>
 (wire_Num l_4 (IntKind.u64.wrap ((List.map M_int_int.pv m).length : Int))).bind fun l_5 =>
 (maps_Keys_int_2 m).bind fun _ =>
 (slices_Sorted_ints m).bind fun l_6 =>
 (runL (deed_Deeds_Bytes_L1_step ((l_6).length : Int) n n2 r m m2 l_6) (0, l_5)).bind fun l_7 =>
 (wire_Num l_7 (IntKind.u64.wrap ((List.map M_deed_Mark_int.pv m2).length : Int))).bind fun l_8 =>
 (deed_Deeds_Marks n n2 r m m2).bind fun r2 =>
 (runL (deed_Deeds_Bytes_L2_step (((List.map E_deed_Mark.pv r2)).length : Int) n n2 r m m2 r2) (0, l_8)).bind fun l_9 =>
 some l_9
theorem deed_Deeds_Bytes_runs (N : Nat) (n : Int) (n2 : Int) (r : List E_deed_Gift) (m : List (Int × Int)) (m2 : List ((Int × Int) × Int)) (r_ : List Int) (h : deed_Deeds_Bytes N n n2 r m m2 = some r_) : Runs Tryz.prog 24 [(.one (.ref 0 0))] [[(.pv (.int .i64 n)), (.pv (.int .u64 n2)), (.pv (.recs 5 (List.map E_deed_Gift.pv r) false)), (.mp 1), (.mp 2)], [(.maph (.int .i64) false (List.map M_int_int.pv m) [])], [(.maph (.st [.i64, .u64]) false (List.map M_deed_Mark_int.pv m2) [])]] [] (deed_Deeds_Bytes_out n n2 r m m2 r_) := by
 unfold deed_Deeds_Bytes at h
 obtain ⟨l_, h1, h⟩ := bind_of h
 obtain ⟨l_2, h2, h⟩ := bind_of h
 obtain ⟨l_3, h3, h⟩ := bind_of h
 obtain ⟨l_4, h4, h⟩ := bind_of h
 obtain ⟨l_5, h5, h⟩ := bind_of h
 obtain ⟨_, h6, h⟩ := bind_of h
 obtain ⟨l_6, h7, h⟩ := bind_of h
 obtain ⟨l_7, h8, h⟩ := bind_of h
 obtain ⟨l_8, h9, h⟩ := bind_of h
 obtain ⟨r2, h10, h⟩ := bind_of h
 obtain ⟨l_9, h11, h⟩ := bind_of h
 have h := some_of h
 subst h
 have t_ := tF (rfl : false = false) <| tR (Runs.coe (as' := [(.one (.pv .nils)), (.one (.pv (.int .u64 (IntKind.u64.wrap n))))]) (objs' := []) (rows' := []) (wire_Num_runs [] (IntKind.u64.wrap n) _ h1) ⟨.pv (.nilsI), .eq rfl, trivial⟩ trivial trivial) <| tR (Runs.coe (as' := [(.one (.pv .nils)), (.one (.pv (.int .u64 (IntKind.u64.wrap n))))]) (objs' := []) (rows' := []) (wire_Num_runs [] (IntKind.u64.wrap n) _ h1) ⟨.pv (.nilsI), .eq rfl, trivial⟩ trivial trivial) <| tR (Runs.coe (as' := [(.one (.pv (.ints .u8 (List.take (l_).length l_) false))), (.one (.pv (.int .u64 n2)))]) (objs' := []) (rows' := []) (wire_Num_runs l_ n2 _ h2) ⟨.pv (.ints (by first | rfl | (simp only [List.take_length]; done) | (simp; done) | (simp only [List.map_take, List.map_drop, List.map_append, List.take_length, List.nil_append]; done) | (simp only [List.length_map, List.take_length, List.length_append, List.drop_zero, List.map_append, List.map_take, List.map_drop, List.map_replicate, List.map_cons, List.map_nil, List.append_nil, List.nil_append]; done))), .eq rfl, trivial⟩ trivial trivial) <| tR (Runs.coe (as' := [(.one (.pv .nils)), (.one (.pv (.int .u64 (IntKind.u64.wrap n))))]) (objs' := []) (rows' := []) (wire_Num_runs [] (IntKind.u64.wrap n) _ h1) ⟨.pv (.nilsI), .eq rfl, trivial⟩ trivial trivial) <| tR (Runs.coe (as' := [(.one (.pv .nils)), (.one (.pv (.int .u64 (IntKind.u64.wrap n))))]) (objs' := []) (rows' := []) (wire_Num_runs [] (IntKind.u64.wrap n) _ h1) ⟨.pv (.nilsI), .eq rfl, trivial⟩ trivial trivial) <| tR (Runs.coe (as' := [(.one (.pv (.ints .u8 (List.take (l_).length l_) false))), (.one (.pv (.int .u64 n2)))]) (objs' := []) (rows' := []) (wire_Num_runs l_ n2 _ h2) ⟨.pv (.ints (by first | rfl | (simp only [List.take_length]; done) | (simp; done) | (simp only [List.map_take, List.map_drop, List.map_append, List.take_length, List.nil_append]; done) | (simp only [List.length_map, List.take_length, List.length_append, List.drop_zero, List.map_append, List.map_take, List.map_drop, List.map_replicate, List.map_cons, List.map_nil, List.append_nil, List.nil_append]; done))), .eq rfl, trivial⟩ trivial trivial) <| tR (Runs.coe (as' := [(.one (.pv (.ints .u8 (List.take (l_2).length l_2) false))), (.one (.pv (.int .u64 (IntKind.u64.wrap (((List.map E_deed_Gift.pv r)).length : Int)))))]) (objs' := []) (rows' := []) (wire_Num_runs l_2 (IntKind.u64.wrap (((List.map E_deed_Gift.pv r)).length : Int)) _ h3) ⟨.pv (.ints (by first | rfl | (simp only [List.take_length]; done) | (simp; done) | (simp only [List.map_take, List.map_drop, List.map_append, List.take_length, List.nil_append]; done) | (simp only [List.length_map, List.take_length, List.length_append, List.drop_zero, List.map_append, List.map_take, List.map_drop, List.map_replicate, List.map_cons, List.map_nil, List.append_nil, List.nil_append]; done))), .eq rfl, trivial⟩ trivial trivial) <| tL (deed_Deeds_Bytes_L0_runs N r (((List.map E_deed_Gift.pv r)).length : Int) n n2 r m m2 _ _ h4) <| tR (Runs.coe (as' := [(.one (.pv (.ints .u8 (List.take (l_4).length l_4) false))), (.one (.pv (.int .u64 (IntKind.u64.wrap ((List.map M_int_int.pv m).length : Int)))))]) (objs' := []) (rows' := []) (wire_Num_runs l_4 (IntKind.u64.wrap ((List.map M_int_int.pv m).length : Int)) _ h5) ⟨.pv (.ints (by first | rfl | (simp only [List.take_length]; done) | (simp; done) | (simp only [List.map_take, List.map_drop, List.map_append, List.take_length, List.nil_append]; done) | (simp only [List.length_map, List.take_length, List.length_append, List.drop_zero, List.map_append, List.map_take, List.map_drop, List.map_replicate, List.map_cons, List.map_nil, List.append_nil, List.nil_append]; done))), .eq rfl, trivial⟩ trivial trivial) <| tR (maps_Keys_int_2_runs m _ h6) <| tR (slices_Sorted_ints_runs m _ h7) <| tL (deed_Deeds_Bytes_L1_runs ((l_6).length : Int) n n2 r m m2 l_6 _ _ h8) <| tR (Runs.coe (as' := [(.one (.pv (.ints .u8 (List.take (l_7).length l_7) false))), (.one (.pv (.int .u64 (IntKind.u64.wrap ((List.map M_deed_Mark_int.pv m2).length : Int)))))]) (objs' := []) (rows' := []) (wire_Num_runs l_7 (IntKind.u64.wrap ((List.map M_deed_Mark_int.pv m2).length : Int)) _ h9) ⟨.pv (.ints (by first | rfl | (simp only [List.take_length]; done) | (simp; done) | (simp only [List.map_take, List.map_drop, List.map_append, List.take_length, List.nil_append]; done) | (simp only [List.length_map, List.take_length, List.length_append, List.drop_zero, List.map_append, List.map_take, List.map_drop, List.map_replicate, List.map_cons, List.map_nil, List.append_nil, List.nil_append]; done))), .eq rfl, trivial⟩ trivial trivial) <| tR (deed_Deeds_Marks_runs n n2 r m m2 _ h10) <| tL (deed_Deeds_Bytes_L2_runs (((List.map E_deed_Mark.pv r2)).length : Int) n n2 r m m2 r2 _ _ h11) <| tN
 exact runs_of (C := cfg) (objs := [[(.pv (.int .i64 n)), (.pv (.int .u64 n2)), (.pv (.recs 5 (List.map E_deed_Gift.pv r) false)), (.mp 1), (.mp 2)], [(.maph (.int .i64) false (List.map M_int_int.pv m) [])], [(.maph (.st [.i64, .u64]) false (List.map M_deed_Mark_int.pv m2) [])]]) (sc := t_.ev) (.k1 t_.pf (by kernel_rfl) (by kernel_rfl))
def kr15_Bytes_out (n : Int) (n2 : Int) (r : List E_kr15_Gift) (l : List Int) (r2 : List E_kr15_Mark) : List Int → Res
 | r1 => ([(.one (.own 0 0 (r1).length false))], [[(.pv (.int .i64 n)), (.pv (.int .u64 n2)), (.pv (.recs 4 (List.map E_kr15_Gift.pv r) false)), (.pv (.ints .i64 l false)), (.pv (.recs 2 (List.map E_kr15_Mark.pv r2) false))]], [(.ints .u8 r1)])
end Go.Proofs.YtjjcmgdgifcmgaaGreat
