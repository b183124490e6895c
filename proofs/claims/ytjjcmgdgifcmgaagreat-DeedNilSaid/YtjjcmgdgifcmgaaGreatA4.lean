/- What functions compute, and that they do. -/
import Derived.Test.YtjjcmgdgifcmgaaGreatA3
set_option linter.unusedVariables false
set_option linter.unusedSimpArgs false
set_option maxRecDepth 100000
namespace Go.Proofs.YtjjcmgdgifcmgaaGreat
open Go.Ev
noncomputable def zbE (to : Int) (share : Bool) (share2 : zad) (n n2 : Int) (r : List zaa) (m : List (Int × Int)) (m2 : List ((Int × Int) × Int)) : Option (Int × Int × Int × Bool × zad × Int × Int × List zaa × List (Int × Int)) :=
 (zbN n n2 r m m2).bind fun _ =>
 (zbO n n2 r m m2).bind fun _ =>
 (zcR to n n2 r m m2).bind fun (n3, n4, n5, b, t, b2) =>
 (zbC (iadd .u64 n2 1) n to share share2).bind fun b3 =>
 bif b3 then
  bif b2 then
   some (0, 0, 0, false, zad.nil, 14, n2, r, m)
  else
   (za4 n (iadd .u64 n2 1) r m m2).bind fun _ =>
   bif fits (((List.map zaa.pv r) ++ ([[(.int .u64 (iadd .u64 n2 1)), (.int .i64 n), (.int .i64 to), (.bool share), (zad.pv share2)]] : List (List PV)))).length then
   match (mget to m) with
   | .some n6 =>
    some ((iadd .u64 n2 1), n, to, share, share2, 0, (iadd .u64 n2 1), (List.take (((List.map zaa.pv r) ++ ([[(.int .u64 (iadd .u64 n2 1)), (.int .i64 n), (.int .i64 to), (.bool share), (zad.pv share2)]] : List (List PV)))).length (r ++ [(zaa.mk (iadd .u64 n2 1) n to share share2)])), (mset to (iadd .i64 n6 1) m))
   | .none =>
    some ((iadd .u64 n2 1), n, to, share, share2, 0, (iadd .u64 n2 1), (List.take (((List.map zaa.pv r) ++ ([[(.int .u64 (iadd .u64 n2 1)), (.int .i64 n), (.int .i64 to), (.bool share), (zad.pv share2)]] : List (List PV)))).length (r ++ [(zaa.mk (iadd .u64 n2 1) n to share share2)])), (mset to 1 m))
   else none
 else
  some (0, 0, 0, false, zad.nil, 1, n2, r, m)
theorem zhX (to : Int) (share : Bool) (share2 : zad) (n n2 : Int) (r : List zaa) (m : List (Int × Int)) (m2 : List ((Int × Int) × Int)) (r_ : Int × Int × Int × Bool × zad × Int × Int × List zaa × List (Int × Int)) (h : zbE to share share2 n n2 r m m2 = some r_) : Runs Tryz.prog 14 [(.one (.ref 0 0)), (.one (.pv (.int .i64 to))), (.agg [(.pv (.bool share)), (.pv (zad.pv share2))])] [[(.pv (.int .i64 n)), (.pv (.int .u64 n2)), (.pv (.recs 5 (List.map zaa.pv r) false)), (.mp 1), (.mp 2)], [(.maph (.int .i64) false (List.map M_int_int.pv m) [])], [(.maph (.st [.i64, .u64]) false (List.map M_deed_Mark_int.pv m2) [])]] [] (zid to share share2 n n2 r m m2 r_) := by
 unfold zbE at h
 obtain ⟨_, h1, h⟩ := zae h
 obtain ⟨_, h2, h⟩ := zae h
 obtain ⟨⟨n3, n4, n5, b, t, b2⟩, h3, h⟩ := zae h
 obtain ⟨b3, h4, h⟩ := zae h
 have q_4 := (zaW (iadd .u64 n2 1) n to share share2 _ h4)
 have p4_ := fun {sc_ : List Ev} {Q_ : Prop} (t_ : Tell sc_ Q_) => tR (zbo n n2 r m m2 _ h1) <| tR (zbo n n2 r m m2 _ h1) <| tR (zbo n n2 r m m2 _ h1) <| tR (zbp n n2 r m m2 _ h2) <| tR (zbo n n2 r m m2 _ h1) <| tR (zbp n n2 r m m2 _ h2) <| tR (zbp n n2 r m m2 _ h2) <| tR (zbp n n2 r m m2 _ h2) <| tR (zca to n n2 r m m2 _ h3) <| tF (rfl : false = false) <| tR q_4 <| t_
 rcases zaj h with ⟨h5, h⟩ | ⟨h5, h⟩
 ·rcases zaj h with ⟨h6, h⟩ | ⟨h6, h⟩
  ·have h := zaf h
   subst h
   have t_ := p4_ <| tF (zaz h5) <| tT h6 <| tN
   exact Runs.out (zag (C := cfg) (res := ([(.agg [(.pv (.int .u64 0)), (.pv (.int .i64 0)), (.pv (.int .i64 0)), (.pv (.bool false)), (.pv .nilp)]), (.one (.pv (.int .i64 14)))], [[(.pv (.int .i64 n)), (.pv (.int .u64 n2)), (.pv (.recs 5 (List.map zaa.pv r) false)), (.mp 1), (.mp 2)], [(.maph (.int .i64) false (List.map M_int_int.pv m) [])], [(.maph (.st [.i64, .u64]) false (List.map M_deed_Mark_int.pv m2) [])]], [])) (sc := t_.ev) (.k1 t_.pf (by kernel_rfl) (by kernel_rfl))) ⟨⟨.eq rfl, .eq rfl, .eq rfl, .eq rfl, .eq rfl, trivial⟩, .eq rfl, trivial⟩ ⟨⟨.eq rfl, .eq rfl, .eq rfl, .eq rfl, .eq rfl, trivial⟩, ⟨.eq rfl, trivial⟩, ⟨.eq rfl, trivial⟩, trivial⟩ trivial rfl
  ·obtain ⟨_, h7, h⟩ := zae h
   have q_7 := (zam n (iadd .u64 n2 1) r m m2 _ h7)
   obtain ⟨h8, h⟩ := zar h
   cases h9 : (mget to m) with
   | some n6 =>
    simp only [h9] at h
    have h := zaf h
    subst h
    have t_ := p4_ <| tF (zaz h5) <| tF h6 <| tR q_7 <| tR q_7 <| tR q_7 <| tO (show (Nat.beq ((List.map zaa.pv r)).length ((List.map zaa.pv r)).length) = true from Nat.beq_refl _) <| tO h8 <| tT (show kget [(.int .i64 to)] (List.map M_int_int.pv m) = some [(.int .i64 n6)] from by first | (simp only [M_deed_Mark_int.set, M_int_int.set, M_deed_Mark_int.get, M_int_int.get, h9, Option.map_some, Option.map_none]; done) | (simp only [M_deed_Mark_int.set, M_int_int.set, M_deed_Mark_int.get, M_int_int.get, h9, Option.map_some, Option.map_none]; rfl) | (rw [← List.map_nil]; simp only [M_deed_Mark_int.set, M_int_int.set, M_deed_Mark_int.get, M_int_int.get, h9, Option.map_some, Option.map_none]; rfl)) <| tE (.el [(.int .i64 n6)]) <| tN
    exact Runs.out (Runs.shut (zag (C := cfg) (res := ([(.agg [(.pv (.int .u64 (iadd .u64 n2 1))), (.pv (.int .i64 n)), (.pv (.int .i64 to)), (.pv (.bool share)), (.pv (zad.pv share2))]), (.one (.pv (.int .i64 0)))], [[(.pv (.int .i64 n)), (.pv (.int .u64 (iadd .u64 n2 1))), (.own 0 0 (((List.map zaa.pv r) ++ ([[(.int .u64 (iadd .u64 n2 1)), (.int .i64 n), (.int .i64 to), (.bool share), (zad.pv share2)]] : List (List PV)))).length false), (.mp 1), (.mp 2)], [(.maph (.int .i64) false (kset [(.int .i64 to)] [(.int .i64 (iadd .i64 n6 1))] (List.map M_int_int.pv m)) [])], [(.maph (.st [.i64, .u64]) false (List.map M_deed_Mark_int.pv m2) [])]], [(.recs 5 ((List.map zaa.pv r) ++ ([[(.int .u64 (iadd .u64 n2 1)), (.int .i64 n), (.int .i64 to), (.bool share), (zad.pv share2)]] : List (List PV))))])) (sc := t_.ev) (.k1 t_.pf (by kernel_rfl) (by kernel_rfl))) (res' := ([(.agg [(.pv (.int .u64 (iadd .u64 n2 1))), (.pv (.int .i64 n)), (.pv (.int .i64 to)), (.pv (.bool share)), (.pv (zad.pv share2))]), (.one (.pv (.int .i64 0)))], [[(.pv (.int .i64 n)), (.pv (.int .u64 (iadd .u64 n2 1))), (.pv (.recs 5 (List.take (((List.map zaa.pv r) ++ ([[(.int .u64 (iadd .u64 n2 1)), (.int .i64 n), (.int .i64 to), (.bool share), (zad.pv share2)]] : List (List PV)))).length ((List.map zaa.pv r) ++ ([[(.int .u64 (iadd .u64 n2 1)), (.int .i64 n), (.int .i64 to), (.bool share), (zad.pv share2)]] : List (List PV)))) false)), (.mp 1), (.mp 2)], [(.maph (.int .i64) false (kset [(.int .i64 to)] [(.int .i64 (iadd .i64 n6 1))] (List.map M_int_int.pv m)) [])], [(.maph (.st [.i64, .u64]) false (List.map M_deed_Mark_int.pv m2) [])]], [])) [0] (by kernel_rfl)) ⟨⟨.eq rfl, .eq rfl, .eq rfl, .eq rfl, .eq rfl, trivial⟩, .eq rfl, trivial⟩ ⟨⟨.eq rfl, .eq rfl, .pv (.recsT (.takeN (by first | rfl | (simp only [List.take_length]; done) | (simp; done)) (.app (.eq rfl) (.cons (.cons (.eq rfl) (.cons (.eq rfl) (.cons (.eq rfl) (.cons (.eq rfl) (.cons (.eq rfl) (.nil)))))) (.nil))))), .eq rfl, .eq rfl, trivial⟩, ⟨.maph (WkEs.to (WkEs.set (.cons (.eq rfl) (.nil)) (WkEs.refl _)) (by first | rfl | (simp only [M_deed_Mark_int.set, M_int_int.set]; done) | (simp only [M_deed_Mark_int.set, M_int_int.set, kset, kdel]; rfl))), trivial⟩, ⟨.eq rfl, trivial⟩, trivial⟩ trivial rfl
   | none =>
    simp only [h9] at h
    have h := zaf h
    subst h
    have t_ := p4_ <| tF (zaz h5) <| tF h6 <| tR q_7 <| tR q_7 <| tR q_7 <| tO (show (Nat.beq ((List.map zaa.pv r)).length ((List.map zaa.pv r)).length) = true from Nat.beq_refl _) <| tO h8 <| tF (show kget [(.int .i64 to)] (List.map M_int_int.pv m) = none from by first | (simp only [M_deed_Mark_int.set, M_int_int.set, M_deed_Mark_int.get, M_int_int.get, h9, Option.map_some, Option.map_none]; done) | (simp only [M_deed_Mark_int.set, M_int_int.set, M_deed_Mark_int.get, M_int_int.get, h9, Option.map_some, Option.map_none]; rfl) | (rw [← List.map_nil]; simp only [M_deed_Mark_int.set, M_int_int.set, M_deed_Mark_int.get, M_int_int.get, h9, Option.map_some, Option.map_none]; rfl)) <| tN
    exact Runs.out (Runs.shut (zag (C := cfg) (res := ([(.agg [(.pv (.int .u64 (iadd .u64 n2 1))), (.pv (.int .i64 n)), (.pv (.int .i64 to)), (.pv (.bool share)), (.pv (zad.pv share2))]), (.one (.pv (.int .i64 0)))], [[(.pv (.int .i64 n)), (.pv (.int .u64 (iadd .u64 n2 1))), (.own 0 0 (((List.map zaa.pv r) ++ ([[(.int .u64 (iadd .u64 n2 1)), (.int .i64 n), (.int .i64 to), (.bool share), (zad.pv share2)]] : List (List PV)))).length false), (.mp 1), (.mp 2)], [(.maph (.int .i64) false (kset [(.int .i64 to)] [(.int .i64 1)] (List.map M_int_int.pv m)) [])], [(.maph (.st [.i64, .u64]) false (List.map M_deed_Mark_int.pv m2) [])]], [(.recs 5 ((List.map zaa.pv r) ++ ([[(.int .u64 (iadd .u64 n2 1)), (.int .i64 n), (.int .i64 to), (.bool share), (zad.pv share2)]] : List (List PV))))])) (sc := t_.ev) (.k1 t_.pf (by kernel_rfl) (by kernel_rfl))) (res' := ([(.agg [(.pv (.int .u64 (iadd .u64 n2 1))), (.pv (.int .i64 n)), (.pv (.int .i64 to)), (.pv (.bool share)), (.pv (zad.pv share2))]), (.one (.pv (.int .i64 0)))], [[(.pv (.int .i64 n)), (.pv (.int .u64 (iadd .u64 n2 1))), (.pv (.recs 5 (List.take (((List.map zaa.pv r) ++ ([[(.int .u64 (iadd .u64 n2 1)), (.int .i64 n), (.int .i64 to), (.bool share), (zad.pv share2)]] : List (List PV)))).length ((List.map zaa.pv r) ++ ([[(.int .u64 (iadd .u64 n2 1)), (.int .i64 n), (.int .i64 to), (.bool share), (zad.pv share2)]] : List (List PV)))) false)), (.mp 1), (.mp 2)], [(.maph (.int .i64) false (kset [(.int .i64 to)] [(.int .i64 1)] (List.map M_int_int.pv m)) [])], [(.maph (.st [.i64, .u64]) false (List.map M_deed_Mark_int.pv m2) [])]], [])) [0] (by kernel_rfl)) ⟨⟨.eq rfl, .eq rfl, .eq rfl, .eq rfl, .eq rfl, trivial⟩, .eq rfl, trivial⟩ ⟨⟨.eq rfl, .eq rfl, .pv (.recsT (.takeN (by first | rfl | (simp only [List.take_length]; done) | (simp; done)) (.app (.eq rfl) (.cons (.cons (.eq rfl) (.cons (.eq rfl) (.cons (.eq rfl) (.cons (.eq rfl) (.cons (.eq rfl) (.nil)))))) (.nil))))), .eq rfl, .eq rfl, trivial⟩, ⟨.maph (WkEs.to (WkEs.set (.cons (.eq rfl) (.nil)) (WkEs.refl _)) (by first | rfl | (simp only [M_deed_Mark_int.set, M_int_int.set]; done) | (simp only [M_deed_Mark_int.set, M_int_int.set, kset, kdel]; rfl))), trivial⟩, ⟨.eq rfl, trivial⟩, trivial⟩ trivial rfl
 ·have h := zaf h
  subst h
  have t_ := p4_ <| tT (zbc h5) <| tN
  exact Runs.out (zag (C := cfg) (res := ([(.agg [(.pv (.int .u64 0)), (.pv (.int .i64 0)), (.pv (.int .i64 0)), (.pv (.bool false)), (.pv .nilp)]), (.one (.pv (.int .i64 1)))], [[(.pv (.int .i64 n)), (.pv (.int .u64 n2)), (.pv (.recs 5 (List.map zaa.pv r) false)), (.mp 1), (.mp 2)], [(.maph (.int .i64) false (List.map M_int_int.pv m) [])], [(.maph (.st [.i64, .u64]) false (List.map M_deed_Mark_int.pv m2) [])]], [])) (sc := t_.ev) (.k1 t_.pf (by kernel_rfl) (by kernel_rfl))) ⟨⟨.eq rfl, .eq rfl, .eq rfl, .eq rfl, .eq rfl, trivial⟩, .eq rfl, trivial⟩ ⟨⟨.eq rfl, .eq rfl, .eq rfl, .eq rfl, .eq rfl, trivial⟩, ⟨.eq rfl, trivial⟩, ⟨.eq rfl, trivial⟩, trivial⟩ trivial rfl
noncomputable def zfw (N : Nat) (a a2 a3 a4 : Int) (a5 : List Int) (n n2 : Int) (r : List zaa) (m : List (Int × Int)) (m2 : List ((Int × Int) × Int)) (n3 n4 : Int) (r2 : List zab) (l : List Int) (r3 : List zac) : Option (Bool × Int × List zaa × List (Int × Int) × List ((Int × Int) × Int) × Int × List zab × List Int × List zac) :=
 (zfx N a5).bind fun (b, t, t2) =>
 bif (decide (((irem .u8 a 5) : Int) = 2)) then
  (zbV a4 n n2 r m m2).bind fun (n5, r4) =>
  (zeG a4 n3 n4 r2 l r3).bind fun (n6, r5) =>
  some ((decide ((n5 : Int) = n6)), n2, r4, m, m2, n4, r5, l, r3)
 else
  bif (decide (((irem .u8 a 5) : Int) = 3)) then
   (zbF a4 a3 a2 b t n n2 r m m2).bind fun (n5, m_) =>
   (zcD a4 a3 a2 t2 n3 n4 r2 l r3).bind fun (n6, r4) =>
   some ((decide ((n5 : Int) = n6)), n2, r, m, m_, n4, r2, l, r4)
  else
   bif (decide (((irem .u8 a 5) : Int) = 4)) then
    (zbF a4 a3 a2 b t n n2 r m m2).bind fun (n5, m_) =>
    (zcD a4 a3 a2 t2 n3 n4 r2 l r3).bind fun (n6, r4) =>
    some ((decide ((n5 : Int) = n6)), n2, r, m, m_, n4, r2, l, r4)
   else
    (zbE a2 b t n n2 r m m2).bind fun (n5, n6, n7, b2, t3, n8, n9, r4, m_) =>
    (zdF a2 t2 n3 n4 r2 l r3).bind fun (n10, n11, n12, t4, n13, n14, r5, l_) =>
    bif (decide ((n8 : Int) = n13)) then
     (zfy N n5 n6 n7 b2 t3 n10 n11 n12 t4).bind fun b3 =>
     some (b3, n9, r4, m_, m2, n14, r5, l_, r3)
    else
     some (false, n9, r4, m_, m2, n14, r5, l_, r3)
theorem zje (N : Nat) (a a2 a3 a4 : Int) (a5 : List Int) (n n2 : Int) (r : List zaa) (m : List (Int × Int)) (m2 : List ((Int × Int) × Int)) (n3 n4 : Int) (r2 : List zab) (l : List Int) (r3 : List zac) (r_ : Bool × Int × List zaa × List (Int × Int) × List ((Int × Int) × Int) × Int × List zab × List Int × List zac) (h : zfw N a a2 a3 a4 a5 n n2 r m m2 n3 n4 r2 l r3 = some r_) : Runs Tryz.prog 9 [(.one (.ref 0 0)), (.one (.ref 3 0)), (.agg [(.pv (.int .u8 a)), (.pv (.int .i64 a2)), (.pv (.int .i64 a3)), (.pv (.int .u64 a4)), (.pv (.ints .u8 a5 false))])] [[(.pv (.int .i64 n)), (.pv (.int .u64 n2)), (.pv (.recs 5 (List.map zaa.pv r) false)), (.mp 1), (.mp 2)], [(.maph (.int .i64) false (List.map M_int_int.pv m) [])], [(.maph (.st [.i64, .u64]) false (List.map M_deed_Mark_int.pv m2) [])], [(.pv (.int .i64 n3)), (.pv (.int .u64 n4)), (.pv (.recs 4 (List.map zab.pv r2) false)), (.pv (.ints .i64 l false)), (.pv (.recs 2 (List.map zac.pv r3) false))]] [] (zok a a2 a3 a4 a5 n n2 r m m2 n3 n4 r2 l r3 r_) := by
 unfold zfw at h
 obtain ⟨⟨b, t, t2⟩, h1, h⟩ := zae h
 rcases zaj h with ⟨h2, h⟩ | ⟨h2, h⟩
 ·obtain ⟨⟨n5, r4⟩, h3, h⟩ := zae h
  obtain ⟨⟨n6, r5⟩, h4, h⟩ := zae h
  have h := zaf h
  subst h
  have t_ := tR (zbM N a5 _ h1) <| tO (rfl : true = true) <| tT h2 <| tR (zcH a4 n n2 r m m2 _ h3) <| tR (zcH a4 n n2 r m m2 _ h3) <| tR (zhI a4 n3 n4 r2 l r3 _ h4) <| tN
  exact zag (C := cfg) (sc := t_.ev) (.k1 t_.pf (by kernel_rfl) (by kernel_rfl))
 ·rcases zaj h with ⟨h3, h⟩ | ⟨h3, h⟩
  ·obtain ⟨⟨n5, m_⟩, h4, h⟩ := zae h
   obtain ⟨⟨n6, r4⟩, h5, h⟩ := zae h
   have h := zaf h
   subst h
   have t_ := tR (zbM N a5 _ h1) <| tO (rfl : true = true) <| tF h2 <| tT h3 <| tT (rfl : true = true) <| tR (zax a4 a3 a2 b t n n2 r m m2 _ h4) <| tR (zax a4 a3 a2 b t n n2 r m m2 _ h4) <| tR (zax a4 a3 a2 b t n n2 r m m2 _ h4) <| tR (zax a4 a3 a2 b t n n2 r m m2 _ h4) <| tR (zax a4 a3 a2 b t n n2 r m m2 _ h4) <| tR (zax a4 a3 a2 b t n n2 r m m2 _ h4) <| tR (zax a4 a3 a2 b t n n2 r m m2 _ h4) <| tR (zax a4 a3 a2 b t n n2 r m m2 _ h4) <| tR (zeC a4 a3 a2 t2 n3 n4 r2 l r3 _ h5) <| tN
   exact zag (C := cfg) (sc := t_.ev) (.k1 t_.pf (by kernel_rfl) (by kernel_rfl))
  ·rcases zaj h with ⟨h4, h⟩ | ⟨h4, h⟩
   ·obtain ⟨⟨n5, m_⟩, h5, h⟩ := zae h
    obtain ⟨⟨n6, r4⟩, h6, h⟩ := zae h
    have h := zaf h
    subst h
    have t_ := tR (zbM N a5 _ h1) <| tO (rfl : true = true) <| tF h2 <| tF h3 <| tT h4 <| tR (zax a4 a3 a2 b t n n2 r m m2 _ h5) <| tR (zax a4 a3 a2 b t n n2 r m m2 _ h5) <| tR (zax a4 a3 a2 b t n n2 r m m2 _ h5) <| tR (zax a4 a3 a2 b t n n2 r m m2 _ h5) <| tR (zax a4 a3 a2 b t n n2 r m m2 _ h5) <| tR (zax a4 a3 a2 b t n n2 r m m2 _ h5) <| tR (zax a4 a3 a2 b t n n2 r m m2 _ h5) <| tR (zax a4 a3 a2 b t n n2 r m m2 _ h5) <| tR (zeC a4 a3 a2 t2 n3 n4 r2 l r3 _ h6) <| tN
    exact zag (C := cfg) (sc := t_.ev) (.k1 t_.pf (by kernel_rfl) (by kernel_rfl))
   ·obtain ⟨⟨n5, n6, n7, b2, t3, n8, n9, r4, m_⟩, h5, h⟩ := zae h
    have q_5 := (zhX a2 b t n n2 r m m2 _ h5)
    obtain ⟨⟨n10, n11, n12, t4, n13, n14, r5, l_⟩, h6, h⟩ := zae h
    have q_6 := (zhJ a2 t2 n3 n4 r2 l r3 _ h6)
    rcases zaj h with ⟨h7, h⟩ | ⟨h7, h⟩
    ·obtain ⟨b3, h8, h⟩ := zae h
     have h := zaf h
     subst h
     have t_ := tR (zbM N a5 _ h1) <| tO (rfl : true = true) <| tF h2 <| tF h3 <| tF h4 <| tR q_5 <| tR q_6 <| tT h7 <| tR (zfp N n5 n6 n7 b2 t3 n10 n11 n12 t4 _ h8) <| tN
     exact zag (C := cfg) (sc := t_.ev) (.k0 t_.pf (by kernel_rfl))
    ·have h := zaf h
     subst h
     have t_ := tR (zbM N a5 _ h1) <| tO (rfl : true = true) <| tF h2 <| tF h3 <| tF h4 <| tR q_5 <| tR q_6 <| tF h7 <| tN
     exact zag (C := cfg) (sc := t_.ev) (.k0 t_.pf (by kernel_rfl))
def zom (n n2 : Int) (r : List zaa) (m : List (Int × Int)) (m2 : List ((Int × Int) × Int)) (n3 n4 : Int) (r2 : List zab) (l : List Int) (r3 : List zac) : Unit → Res
 | _ => ([(.one (.pv (.bool true)))], [[(.pv (.int .i64 n)), (.pv (.int .u64 n2)), (.pv (.recs 5 (List.map zaa.pv r) false)), (.mp 1), (.mp 2)], [(.maph (.int .i64) false (List.map M_int_int.pv m) [])], [(.maph (.st [.i64, .u64]) false (List.map M_deed_Mark_int.pv m2) [])], [(.pv (.int .i64 n3)), (.pv (.int .u64 n4)), (.pv (.recs 4 (List.map zab.pv r2) false)), (.pv (.ints .i64 l false)), (.pv (.recs 2 (List.map zac.pv r3) false))]], [])
def zi7 (n n2 : Int) (r : List zaa) (m : List (Int × Int)) (m2 : List ((Int × Int) × Int)) : List zal → Res
 | r1 => ([(.one (.own 0 0 ((List.map zal.pv r1)).length false))], [[(.pv (.int .i64 n)), (.pv (.int .u64 n2)), (.pv (.recs 5 (List.map zaa.pv r) false)), (.mp 1), (.mp 2)], [(.maph (.int .i64) false (List.map M_int_int.pv m) [])], [(.maph (.st [.i64, .u64]) false (List.map M_deed_Mark_int.pv m2) [])]], [(.recs 2 (List.map zal.pv r1))])
def zk4 (m : List ((Int × Int) × Int)) : Unit → Res
 | _ => ([(.one (.fn 89 [(.ref 1 0)]))], [[(.maph (.st [.i64, .u64]) false (List.map M_deed_Mark_int.pv m) [])], [(.mp 0)]], [])
noncomputable def zfQ (m : List ((Int × Int) × Int)) : Option (Unit) :=
 some ()
theorem zkl (m : List ((Int × Int) × Int)) (r_ : Unit) (h : zfQ m = some r_) : Runs Tryz.prog 52 [(.one (.mp 0))] [[(.maph (.st [.i64, .u64]) false (List.map M_deed_Mark_int.pv m) [])]] [] (zk4 m r_) := by
 unfold zfQ at h
 have h := zaf h
 subst h
 have t_ := tN
 exact zag (C := cfg) (sc := t_.ev) (.k0 t_.pf (by kernel_rfl))
noncomputable def zcA (n n2 : Int) (r : List zaa) (m : List (Int × Int)) (m2 : List ((Int × Int) × Int)) : Option (List zal) :=
 (zfQ m2).bind fun _ =>
 (zcO m2).bind fun r2 =>
 some r2
theorem zd2 (n n2 : Int) (r : List zaa) (m : List (Int × Int)) (m2 : List ((Int × Int) × Int)) (r_ : List zal) (h : zcA n n2 r m m2 = some r_) : Runs Tryz.prog 26 [(.one (.ref 0 0))] [[(.pv (.int .i64 n)), (.pv (.int .u64 n2)), (.pv (.recs 5 (List.map zaa.pv r) false)), (.mp 1), (.mp 2)], [(.maph (.int .i64) false (List.map M_int_int.pv m) [])], [(.maph (.st [.i64, .u64]) false (List.map M_deed_Mark_int.pv m2) [])]] [] (zi7 n n2 r m m2 r_) := by
 unfold zcA at h
 obtain ⟨_, h1, h⟩ := zae h
 obtain ⟨r2, h2, h⟩ := zae h
 have h := zaf h
 subst h
 have t_ := tF (rfl : false = false) <| tR (zkl m2 _ h1) <| tR (zfV m2 _ h2) <| tN
 exact zag (C := cfg) (sc := t_.ev) (.k0 t_.pf (by kernel_rfl))
def zi6 (n n2 : Int) (r : List zaa) (m : List (Int × Int)) (m2 : List ((Int × Int) × Int)) : List Int → Res
 | r1 => ([(.one (.own 0 0 (r1).length false))], [[(.pv (.int .i64 n)), (.pv (.int .u64 n2)), (.pv (.recs 5 (List.map zaa.pv r) false)), (.mp 1), (.mp 2)], [(.maph (.int .i64) false (List.map M_int_int.pv m) [])], [(.maph (.st [.i64, .u64]) false (List.map M_deed_Mark_int.pv m2) [])]], [(.ints .u8 r1)])
def zpM (p : List Int) (n : Int) : List Int → Res
 | r1 => ([(.one (.own 0 0 (r1).length false))], [], [(.ints .u8 r1)])
def zfr (p : List Int) (n : Int) : (Unit) ⊕ (Int × List Int) → St
 | .inl _ => ⟨[(0, (.av (.one (.pv (.ints .u8 p true))))), (1, (.av (.one (.pv (.int .u64 n)))))], [], []⟩
 | .inr (n2, l) => ⟨[(0, (.av (.one (.own 0 0 (l).length false)))), (1, (.av (.one (.pv (.int .u64 n2)))))], [], [(0, (.live (.ints .u8 l)))]⟩
def zfq (p : List Int) (n : Int) : (Unit) ⊕ (Int × List Int) → Ex × St
 | .inl _ => ((.exit 0), ⟨[(0, (.av (.one (.pv (.ints .u8 p true))))), (1, (.av (.one (.pv (.int .u64 n)))))], [], []⟩)
 | .inr (r1, r2) => ((.exit 0), ⟨[(0, (.av (.one (.own 0 0 (r2).length false)))), (1, (.av (.one (.pv (.int .u64 r1)))))], [], [(0, (.live (.ints .u8 r2)))]⟩)
noncomputable def zbD (p : List Int) (n : Int) : (Unit) ⊕ (Int × List Int) → Option (((Unit) ⊕ (Int × List Int)) ⊕ ((Unit) ⊕ (Int × List Int)))
 | .inl _ =>
  bif (decide ((128 : Int) ≤ n)) then
   bif fits ((p ++ [(ior .u8 (IntKind.u8.wrap n) 128)])).length then
   some (.inl (.inr ((ishr .u64 n 7), (p ++ [(ior .u8 (IntKind.u8.wrap n) 128)]))))
   else none
  else
   some (.inr (.inl ()))
 | .inr (n2, l) =>
  bif (decide ((128 : Int) ≤ n2)) then
   bif fits ((l ++ [(ior .u8 (IntKind.u8.wrap n2) 128)])).length then
   some (.inl (.inr ((ishr .u64 n2 7), (l ++ [(ior .u8 (IntKind.u8.wrap n2) 128)]))))
   else none
  else
   some (.inr (.inr (n2, l)))
theorem znv (p : List Int) (n : Int) (s_ : (Unit) ⊕ (Int × List Int)) (z_ : ((Unit) ⊕ (Int × List Int)) ⊕ ((Unit) ⊕ (Int × List Int))) (h : zbD p n s_ = some z_) : zbQ Tryz.prog cfg 46 0 (zbe Tryz.prog 46 0) (zfr p n) (zfq p n) s_ z_ := by
 rcases s_ with _ | ⟨n2, l⟩
 ·rcases zaj h with ⟨h1, h⟩ | ⟨h1, h⟩
  ·obtain ⟨h2, h⟩ := zar h
   have h := zaf h
   subst h
   have t_ := tT h1 <| tF (rfl : true = true) <| tO h2 <| tO (rfl : true = true) <| tN
   exact ⟨t_.ev, zfr p n (.inr ((ishr .u64 n 7), (p ++ [(ior .u8 (IntKind.u8.wrap n) 128)]))), .k0 t_.pf (by kernel_rfl), .same (by kernel_rfl)⟩
  ·have h := zaf h
   subst h
   have t_ := tF h1 <| tN
   exact ⟨t_.ev, ⟨[(12, (.av (.one (.pv (.bool false))))), (0, (.av (.one (.pv (.ints .u8 p true))))), (1, (.av (.one (.pv (.int .u64 n))))), (12, (.av (.one (.pv (.bool (decide ((128 : Int) ≤ n)))))))], [], []⟩, .k0 t_.pf (by kernel_rfl), ⟨⟨⟨_, rfl, .eq rfl⟩, ⟨_, rfl, .eq rfl⟩, trivial⟩, trivial, trivial⟩⟩
 ·rcases zaj h with ⟨h1, h⟩ | ⟨h1, h⟩
  ·obtain ⟨h2, h⟩ := zar h
   have h := zaf h
   subst h
   have t_ := tT h1 <| tO (show (Nat.beq (l).length (l).length) = true from Nat.beq_refl _) <| tO h2 <| tO (rfl : true = true) <| tN
   exact ⟨t_.ev, zfr p n (.inr ((ishr .u64 n2 7), (l ++ [(ior .u8 (IntKind.u8.wrap n2) 128)]))), .k0 t_.pf (by kernel_rfl), .same (by kernel_rfl)⟩
  ·have h := zaf h
   subst h
   have t_ := tF h1 <| tN
   exact ⟨t_.ev, ⟨[(12, (.av (.one (.pv (.bool false))))), (0, (.av (.one (.own 0 0 (l).length false)))), (1, (.av (.one (.pv (.int .u64 n2))))), (12, (.av (.one (.pv (.bool (decide ((128 : Int) ≤ n2)))))))], [], [(0, (.live (.ints .u8 l)))]⟩, .k0 t_.pf (by kernel_rfl), ⟨⟨⟨_, rfl, .eq rfl⟩, ⟨_, rfl, .eq rfl⟩, trivial⟩, trivial, ⟨⟨rfl, .eq rfl⟩, trivial⟩⟩⟩
theorem zhM (p : List Int) (n : Int) (s_ : (Unit) ⊕ (Int × List Int)) (r_ : (Unit) ⊕ (Int × List Int)) (h : runL (zbD p n) s_ = some r_) : zbK Tryz.prog (lEnv Tryz.prog cfg 46 0).nt 0 (.loop (zbe Tryz.prog 46 0)) (zfr p n s_) (zfq p n r_).1 (zfq p n r_).2 :=
 zbA h (znv p n) (by intro r_; rcases r_ with _ | ⟨r1, r2⟩ <;> simp [zfq])
noncomputable def zdo (p : List Int) (n : Int) : Option (List Int) :=
 bif decide ((0 : Int) ≤ 0) && decide ((0 : Int) ≤ ((p).length : Int)) && decide ((((p).length : Int) : Int) ≤ ((p).length : Int)) && decide ((((p).length : Int) : Int) = ((p).length : Int)) then
 (runL (zbD (List.take (((p).length : Int) - 0).toNat p) n) (.inl ())).bind fun z_ => match z_ with
 | .inl _ =>
  bif fits (((List.take (((p).length : Int) - 0).toNat p) ++ [(IntKind.u8.wrap n)])).length then
  some ((List.take (((p).length : Int) - 0).toNat p) ++ [(IntKind.u8.wrap n)])
  else none
 | .inr (n2, l_) =>
  bif fits ((l_ ++ [(IntKind.u8.wrap n2)])).length then
  some (l_ ++ [(IntKind.u8.wrap n2)])
  else none
 else none
theorem za5 (p : List Int) (n : Int) (r_ : List Int) (h : zdo p n = some r_) : Runs Tryz.prog 46 [(.one (.pv (.ints .u8 p false))), (.one (.pv (.int .u64 n)))] [] [] (zpM p n r_) := by
 unfold zdo at h
 obtain ⟨h1, h⟩ := zar h
 obtain ⟨z_, h2, h⟩ := zae h
 rcases z_ with _ | ⟨n2, l_⟩
 ·obtain ⟨h3, h⟩ := zar h
  have h := zaf h
  subst h
  have t_ := tO h1 <| tL (zhM (List.take (((p).length : Int) - 0).toNat p) n _ _ h2) <| tF (rfl : true = true) <| tO h3 <| tN
  exact zag (C := cfg) (sc := t_.ev) (.k0 t_.pf (by kernel_rfl))
 ·obtain ⟨h3, h⟩ := zar h
  have h := zaf h
  subst h
  have t_ := tO h1 <| tL (zhM (List.take (((p).length : Int) - 0).toNat p) n _ _ h2) <| tO (show (Nat.beq (l_).length (l_).length) = true from Nat.beq_refl _) <| tO h3 <| tN
  exact zag (C := cfg) (sc := t_.ev) (.k0 t_.pf (by kernel_rfl))
def zlq (p : List Int) (g g2 g3 : Int) (g4 : Bool) (g5 : zad) : List Int → Res
 | r1 => ([(.one (.own 0 0 (r1).length false))], [], [(.ints .u8 r1)])
def zpR (i : Bool) (i2 : zad) : List Int → Res
 | r1 => ([(.one (.pv (.ints .u8 r1 false)))], [], [])
def zjW : Unit → Res
 | _ => ([(.one (.ref 0 0))], [[(.pv .nils), (.pv (.int .i64 0))]], [])
noncomputable def zfo : Option (Unit) :=
 some ()
theorem zjp (r_ : Unit) (h : zfo = some r_) : Runs Tryz.prog 115 [] [] [] (zjW r_) := by
 unfold zfo at h
 have h := zaf h
 subst h
 have t_ := tN
 exact zag (C := cfg) (sc := t_.ev) (.k0 t_.pf (by kernel_rfl))
def zna (i : Bool) (i2 : zad) (n : Int) : Int × List Int → Res
 | (r1, r2) => ([], [[(.own 0 0 (r2).length false), (.pv (.int .i64 r1))]], [(.ints .u8 r2)])
def znf (i : Bool) (i2 : zad) : Bool × zad → Res
 | (r1, r2) => ([(.agg [(.pv (.bool r1)), (.pv (zad.pv r2))])], [], [])
noncomputable def zeK (i : Bool) (i2 : zad) : Option (Bool × zad) :=
 match i2 with
 | .nil =>
  some (i, i2)
 | .mk b t b2 t2 =>
  some (b, t)
theorem za9 (i : Bool) (i2 : zad) (r_ : Bool × zad) (h : zeK i i2 = some r_) : Runs Tryz.prog 133 [(.agg [(.pv (.bool i)), (.pv (zad.pv i2))])] [] [] (znf i i2 r_) := by
 unfold zeK at h
 cases i2 with
 | nil =>
  have h := zaf h
  subst h
  have t_ := tT (rfl : true = true) <| tN
  exact zag (C := cfg) (sc := t_.ev) (.k0 t_.pf (by kernel_rfl))
 | mk b t b2 t2 =>
  have h := zaf h
  subst h
  have t_ := tF (rfl : false = false) <| tN
  exact zag (C := cfg) (sc := t_.ev) (.k0 t_.pf (by kernel_rfl))
def zmb (i : Bool) (i2 : zad) : Bool × zad → Res
 | (r1, r2) => ([(.agg [(.pv (.bool r1)), (.pv (zad.pv r2))])], [], [])
noncomputable def zd5 (i : Bool) (i2 : zad) : Option (Bool × zad) :=
 match i2 with
 | .nil =>
  some (i, i2)
 | .mk b t b2 t2 =>
  some (b2, t2)
theorem zcd (i : Bool) (i2 : zad) (r_ : Bool × zad) (h : zd5 i i2 = some r_) : Runs Tryz.prog 134 [(.agg [(.pv (.bool i)), (.pv (zad.pv i2))])] [] [] (zmb i i2 r_) := by
 unfold zd5 at h
 cases i2 with
 | nil =>
  have h := zaf h
  subst h
  have t_ := tT (rfl : true = true) <| tN
  exact zag (C := cfg) (sc := t_.ev) (.k0 t_.pf (by kernel_rfl))
 | mk b t b2 t2 =>
  have h := zaf h
  subst h
  have t_ := tF (rfl : false = false) <| tN
  exact zag (C := cfg) (sc := t_.ev) (.k0 t_.pf (by kernel_rfl))
def zjq (n k n2 : Int) : Int × List Int → Res
 | (r1, r2) => ([], [[(.own 0 0 (r2).length false), (.pv (.int .i64 r1))]], [(.ints .u8 r2)])
def zlQ (k : Int) : Int → Res
 | r1 => ([(.one (.pv (.int .i64 r1)))], [], [])
noncomputable def zf1 (k : Int) : Option (Int) :=
 some (if (64 : Int) < (if (k : Int) < 0 then 0 else k) then 64 else (if (k : Int) < 0 then 0 else k))
theorem zhF (k r_ : Int) (h : zf1 k = some r_) : Runs Tryz.prog 160 [(.one (.pv (.int .i64 k)))] [] [] (zlQ k r_) := by
 unfold zf1 at h
 have h := zaf h
 subst h
 have t_ := tN
 exact zag (C := cfg) (sc := t_.ev) (.k0 t_.pf (by kernel_rfl))
def zcJ (n : Int) : Int × Int × List Int → St
 | (i, n2, l) => ⟨[(0, (.av (.one (.ref 0 0)))), (1, (.av (.one (.pv (.int .u64 n))))), (6, (.av (.one (.pv (.int .i64 i)))))], [(0, [(.own 0 0 (l).length false), (.pv (.int .i64 n2))])], [(0, (.live (.ints .u8 l)))]⟩
def zcI (n : Int) : Int × List Int → Ex × St
 | (r1, r2) => ((.exit 0), ⟨[], [(0, [(.own 0 0 (r2).length false), (.pv (.int .i64 r1))])], [(0, (.live (.ints .u8 r2)))]⟩)
noncomputable def zcp (n : Int) : Int × Int × List Int → Option ((Int × Int × List Int) ⊕ (Int × List Int))
 | (i, n2, l) =>
 bif (decide ((0 : Int) ≤ i)) then
  bif (decide (((irem .i64 n2 8) : Int) = 0)) then
   bif fits ((l ++ [0])).length then
   bif decide ((0 : Int) ≤ i) then
   bif (decide (((iand .u64 (ishr .u64 n i) 1) : Int) = 1)) then
    bif decide ((0 : Int) ≤ (irem .i64 n2 8)) then
    bif decide ((0 : Int) ≤ (iquo .i64 n2 8)) && decide (((iquo .i64 n2 8) : Int) < (((l ++ [0])).length : Int)) then
    some (.inl ((isub .i64 i 1), (iadd .i64 n2 1), ((l ++ [0]).set (0 + ((iquo .i64 n2 8)).toNat) (ior .u8 ((l ++ [0]).getD (0 + ((iquo .i64 n2 8)).toNat) 0) (ishr .u8 128 (irem .i64 n2 8))))))
    else none
    else none
   else
    some (.inl ((isub .i64 i 1), (iadd .i64 n2 1), (l ++ [0])))
   else none
   else none
  else
   bif decide ((0 : Int) ≤ i) then
   bif (decide (((iand .u64 (ishr .u64 n i) 1) : Int) = 1)) then
    bif decide ((0 : Int) ≤ (irem .i64 n2 8)) then
    bif decide ((0 : Int) ≤ (iquo .i64 n2 8)) && decide (((iquo .i64 n2 8) : Int) < ((l).length : Int)) then
    some (.inl ((isub .i64 i 1), (iadd .i64 n2 1), (l.set (0 + ((iquo .i64 n2 8)).toNat) (ior .u8 (l.getD (0 + ((iquo .i64 n2 8)).toNat) 0) (ishr .u8 128 (irem .i64 n2 8))))))
    else none
    else none
   else
    some (.inl ((isub .i64 i 1), (iadd .i64 n2 1), l))
   else none
 else
  some (.inr (n2, l))
theorem zhg (n : Int) (s_ : Int × Int × List Int) (z_ : (Int × Int × List Int) ⊕ (Int × List Int)) (h : zcp n s_ = some z_) : zbQ Tryz.prog cfg 135 1 (zbe Tryz.prog 135 0) (zcJ n) (zcI n) s_ z_ := by
 rcases s_ with ⟨i, n2, l⟩
 rcases zaj h with ⟨h1, h⟩ | ⟨h1, h⟩
 ·rcases zaj h with ⟨h2, h⟩ | ⟨h2, h⟩
  ·obtain ⟨h3, h⟩ := zar h
   obtain ⟨h4, h⟩ := zar h
   rcases zaj h with ⟨h5, h⟩ | ⟨h5, h⟩
   ·obtain ⟨h6, h⟩ := zar h
    obtain ⟨h7, h⟩ := zar h
    have h := zaf h
    subst h
    have t_ := tT h1 <| tO (rfl : true = true) <| tT h2 <| tO (show (Nat.beq (l).length (l).length) = true from Nat.beq_refl _) <| tO h3 <| tO h4 <| tT h5 <| tO (rfl : true = true) <| tO (rfl : true = true) <| tO (rfl : true = true) <| tO (rfl : true = true) <| tO h6 <| tO (rfl : true = true) <| tO h7 <| tO h6 <| tO h6 <| tO (rfl : true = true) <| tO (rfl : true = true) <| tO (rfl : true = true) <| tO (rfl : true = true) <| tO h6 <| tO h7 <| tO h6 <| tO h7 <| tN
    exact ⟨t_.ev, ⟨[(0, (.av (.one (.ref 0 0)))), (1, (.av (.one (.pv (.int .u64 n))))), (6, (.av (.one (.pv (.int .i64 (isub .i64 i 1))))))], [(0, [(.own 0 0 ((l ++ [0])).length false), (.pv (.int .i64 (iadd .i64 n2 1)))])], [(0, (.live (.ints .u8 ((l ++ [0]).set (0 + ((iquo .i64 n2 8)).toNat) (ior .u8 ((l ++ [0]).getD (0 + ((iquo .i64 n2 8)).toNat) 0) (ishr .u8 128 (irem .i64 n2 8)))))))]⟩, .k1 t_.pf (by kernel_rfl) (by kernel_rfl), ⟨⟨⟨_, rfl, .eq rfl⟩, ⟨_, rfl, .eq rfl⟩, ⟨_, rfl, .eq rfl⟩, trivial⟩, ⟨⟨rfl, ⟨.own (by first | rfl | (simp only [List.take_length]; done) | (simp; done) | (simp only [List.map_take, List.map_drop, List.map_append, List.take_length, List.nil_append]; done) | (simp only [List.length_map, List.take_length, List.length_append, List.drop_zero, List.map_append, List.map_take, List.map_drop, List.map_replicate, List.map_cons, List.map_nil, List.append_nil, List.nil_append]; done)), .eq rfl, trivial⟩⟩, trivial⟩, ⟨⟨rfl, .eq rfl⟩, trivial⟩⟩⟩
   ·have h := zaf h
    subst h
    have t_ := tT h1 <| tO (rfl : true = true) <| tT h2 <| tO (show (Nat.beq (l).length (l).length) = true from Nat.beq_refl _) <| tO h3 <| tO h4 <| tF h5 <| tN
    exact ⟨t_.ev, zcJ n ((isub .i64 i 1), (iadd .i64 n2 1), (l ++ [0])), .k0 t_.pf (by kernel_rfl), .same (by kernel_rfl)⟩
  ·obtain ⟨h3, h⟩ := zar h
   rcases zaj h with ⟨h4, h⟩ | ⟨h4, h⟩
   ·obtain ⟨h5, h⟩ := zar h
    obtain ⟨h6, h⟩ := zar h
    have h := zaf h
    subst h
    have t_ := tT h1 <| tO (rfl : true = true) <| tF h2 <| tO h3 <| tT h4 <| tO (rfl : true = true) <| tO (rfl : true = true) <| tO (rfl : true = true) <| tO (rfl : true = true) <| tO h5 <| tO (rfl : true = true) <| tO h6 <| tO h5 <| tO h5 <| tO (rfl : true = true) <| tO (rfl : true = true) <| tO (rfl : true = true) <| tO (rfl : true = true) <| tO h5 <| tO h6 <| tO h5 <| tO h6 <| tN
    exact ⟨t_.ev, ⟨[(0, (.av (.one (.ref 0 0)))), (1, (.av (.one (.pv (.int .u64 n))))), (6, (.av (.one (.pv (.int .i64 (isub .i64 i 1))))))], [(0, [(.own 0 0 (l).length false), (.pv (.int .i64 (iadd .i64 n2 1)))])], [(0, (.live (.ints .u8 (l.set (0 + ((iquo .i64 n2 8)).toNat) (ior .u8 (l.getD (0 + ((iquo .i64 n2 8)).toNat) 0) (ishr .u8 128 (irem .i64 n2 8)))))))]⟩, .k1 t_.pf (by kernel_rfl) (by kernel_rfl), ⟨⟨⟨_, rfl, .eq rfl⟩, ⟨_, rfl, .eq rfl⟩, ⟨_, rfl, .eq rfl⟩, trivial⟩, ⟨⟨rfl, ⟨.own (by first | rfl | (simp only [List.take_length]; done) | (simp; done) | (simp only [List.map_take, List.map_drop, List.map_append, List.take_length, List.nil_append]; done) | (simp only [List.length_map, List.take_length, List.length_append, List.drop_zero, List.map_append, List.map_take, List.map_drop, List.map_replicate, List.map_cons, List.map_nil, List.append_nil, List.nil_append]; done)), .eq rfl, trivial⟩⟩, trivial⟩, ⟨⟨rfl, .eq rfl⟩, trivial⟩⟩⟩
   ·have h := zaf h
    subst h
    have t_ := tT h1 <| tO (rfl : true = true) <| tF h2 <| tO h3 <| tF h4 <| tN
    exact ⟨t_.ev, zcJ n ((isub .i64 i 1), (iadd .i64 n2 1), l), .k0 t_.pf (by kernel_rfl), .same (by kernel_rfl)⟩
 ·have h := zaf h
  subst h
  have t_ := tF h1 <| tN
  exact ⟨t_.ev, ⟨[(13, (.av (.one (.pv (.bool false))))), (0, (.av (.one (.ref 0 0)))), (1, (.av (.one (.pv (.int .u64 n))))), (6, (.av (.one (.pv (.int .i64 i))))), (13, (.av (.one (.pv (.bool (decide ((0 : Int) ≤ i)))))))], [(0, [(.own 0 0 (l).length false), (.pv (.int .i64 n2))])], [(0, (.live (.ints .u8 l)))]⟩, .k0 t_.pf (by kernel_rfl), ⟨trivial, ⟨⟨rfl, ⟨.eq rfl, .eq rfl, trivial⟩⟩, trivial⟩, ⟨⟨rfl, .eq rfl⟩, trivial⟩⟩⟩
theorem zgD (n : Int) (s_ : Int × Int × List Int) (r_ : Int × List Int) (h : runL (zcp n) s_ = some r_) : zbK Tryz.prog (lEnv Tryz.prog cfg 135 1).nt 1 (.loop (zbe Tryz.prog 135 0)) (zcJ n s_) (zcI n r_).1 (zcI n r_).2 :=
 zbA h (zhg n) (by intro r_; rcases r_ with ⟨r1, r2⟩ <;> simp [zcI])
noncomputable def zb2 (n k n2 : Int) : Option (Int × List Int) :=
 (zf1 k).bind fun n3 =>
 (runL (zcp n) ((isub .i64 n3 1), n2, [])).bind fun (n4, l_) =>
 some (n4, l_)
theorem zcG (n k n2 : Int) (r_ : Int × List Int) (h : zb2 n k n2 = some r_) : Runs Tryz.prog 135 [(.one (.ref 0 0)), (.one (.pv (.int .u64 n))), (.one (.pv (.int .i64 k)))] [[(.pv .nils), (.pv (.int .i64 n2))]] [] (zjq n k n2 r_) := by
 unfold zb2 at h
 obtain ⟨n3, h1, h⟩ := zae h
 obtain ⟨⟨n4, l_⟩, h2, h⟩ := zae h
 have h := zaf h
 subst h
 have t_ := tF (rfl : false = false) <| tR (zhF k _ h1) <| tL (zbK.coe (s0 := ⟨[(0, (.av (.one (.ref 0 0)))), (1, (.av (.one (.pv (.int .u64 n))))), (6, (.av (.one (.pv (.int .i64 (isub .i64 n3 1))))))], [(0, [(.own 0 0 0 false), (.pv (.int .i64 n2))])], [(0, (.live (.ints .u8 [])))]⟩) (zgD n _ _ h2) ⟨⟨⟨_, rfl, .eq rfl⟩, ⟨_, rfl, .eq rfl⟩, ⟨_, rfl, .eq rfl⟩, trivial⟩, ⟨⟨rfl, ⟨.own (by first | rfl | (simp only [List.take_length]; done) | (simp; done) | (simp only [List.map_take, List.map_drop, List.map_append, List.take_length, List.nil_append]; done) | (simp only [List.length_map, List.take_length, List.length_append, List.drop_zero, List.map_append, List.map_take, List.map_drop, List.map_replicate, List.map_cons, List.map_nil, List.append_nil, List.nil_append]; done)), .eq rfl, trivial⟩⟩, trivial⟩, ⟨⟨rfl, .eq rfl⟩, trivial⟩⟩) <| tN
 exact zag (C := cfg) (sc := t_.ev) (.k0 t_.pf (by kernel_rfl))
def zh6 (n k n2 : Int) (l : List Int) : Int × List Int → Res
 | (r1, r2) => ([], [[(.own 0 0 (r2).length false), (.pv (.int .i64 r1))]], [(.ints .u8 r2)])
def zcL (n : Int) : Int × Int × List Int → St
 | (i, n2, l) => ⟨[(0, (.av (.one (.ref 0 0)))), (1, (.av (.one (.pv (.int .u64 n))))), (6, (.av (.one (.pv (.int .i64 i)))))], [(0, [(.own 0 0 (l).length false), (.pv (.int .i64 n2))])], [(0, (.live (.ints .u8 l)))]⟩
def zcK (n : Int) : Int × List Int → Ex × St
 | (r1, r2) => ((.exit 0), ⟨[], [(0, [(.own 0 0 (r2).length false), (.pv (.int .i64 r1))])], [(0, (.live (.ints .u8 r2)))]⟩)
noncomputable def zba (n : Int) : Int × Int × List Int → Option ((Int × Int × List Int) ⊕ (Int × List Int))
 | (i, n2, l) =>
 bif (decide ((0 : Int) ≤ i)) then
  bif (decide (((irem .i64 n2 8) : Int) = 0)) then
   bif fits ((l ++ [0])).length then
   bif decide ((0 : Int) ≤ i) then
   bif (decide (((iand .u64 (ishr .u64 n i) 1) : Int) = 1)) then
    bif decide ((0 : Int) ≤ (irem .i64 n2 8)) then
    bif decide ((0 : Int) ≤ (iquo .i64 n2 8)) && decide (((iquo .i64 n2 8) : Int) < (((l ++ [0])).length : Int)) then
    some (.inl ((isub .i64 i 1), (iadd .i64 n2 1), ((l ++ [0]).set (0 + ((iquo .i64 n2 8)).toNat) (ior .u8 ((l ++ [0]).getD (0 + ((iquo .i64 n2 8)).toNat) 0) (ishr .u8 128 (irem .i64 n2 8))))))
    else none
    else none
   else
    some (.inl ((isub .i64 i 1), (iadd .i64 n2 1), (l ++ [0])))
   else none
   else none
  else
   bif decide ((0 : Int) ≤ i) then
   bif (decide (((iand .u64 (ishr .u64 n i) 1) : Int) = 1)) then
    bif decide ((0 : Int) ≤ (irem .i64 n2 8)) then
    bif decide ((0 : Int) ≤ (iquo .i64 n2 8)) && decide (((iquo .i64 n2 8) : Int) < ((l).length : Int)) then
    some (.inl ((isub .i64 i 1), (iadd .i64 n2 1), (l.set (0 + ((iquo .i64 n2 8)).toNat) (ior .u8 (l.getD (0 + ((iquo .i64 n2 8)).toNat) 0) (ishr .u8 128 (irem .i64 n2 8))))))
    else none
    else none
   else
    some (.inl ((isub .i64 i 1), (iadd .i64 n2 1), l))
   else none
 else
  some (.inr (n2, l))
theorem zhh (n : Int) (s_ : Int × Int × List Int) (z_ : (Int × Int × List Int) ⊕ (Int × List Int)) (h : zba n s_ = some z_) : zbQ Tryz.prog cfg 135 1 (zbe Tryz.prog 135 0) (zcL n) (zcK n) s_ z_ := by
 rcases s_ with ⟨i, n2, l⟩
 rcases zaj h with ⟨h1, h⟩ | ⟨h1, h⟩
 ·rcases zaj h with ⟨h2, h⟩ | ⟨h2, h⟩
  ·obtain ⟨h3, h⟩ := zar h
   obtain ⟨h4, h⟩ := zar h
   rcases zaj h with ⟨h5, h⟩ | ⟨h5, h⟩
   ·obtain ⟨h6, h⟩ := zar h
    obtain ⟨h7, h⟩ := zar h
    have h := zaf h
    subst h
    have t_ := tT h1 <| tO (rfl : true = true) <| tT h2 <| tO (show (Nat.beq (l).length (l).length) = true from Nat.beq_refl _) <| tO h3 <| tO h4 <| tT h5 <| tO (rfl : true = true) <| tO (rfl : true = true) <| tO (rfl : true = true) <| tO (rfl : true = true) <| tO h6 <| tO (rfl : true = true) <| tO h7 <| tO h6 <| tO h6 <| tO (rfl : true = true) <| tO (rfl : true = true) <| tO (rfl : true = true) <| tO (rfl : true = true) <| tO h6 <| tO h7 <| tO h6 <| tO h7 <| tN
    exact ⟨t_.ev, ⟨[(0, (.av (.one (.ref 0 0)))), (1, (.av (.one (.pv (.int .u64 n))))), (6, (.av (.one (.pv (.int .i64 (isub .i64 i 1))))))], [(0, [(.own 0 0 ((l ++ [0])).length false), (.pv (.int .i64 (iadd .i64 n2 1)))])], [(0, (.live (.ints .u8 ((l ++ [0]).set (0 + ((iquo .i64 n2 8)).toNat) (ior .u8 ((l ++ [0]).getD (0 + ((iquo .i64 n2 8)).toNat) 0) (ishr .u8 128 (irem .i64 n2 8)))))))]⟩, .k1 t_.pf (by kernel_rfl) (by kernel_rfl), ⟨⟨⟨_, rfl, .eq rfl⟩, ⟨_, rfl, .eq rfl⟩, ⟨_, rfl, .eq rfl⟩, trivial⟩, ⟨⟨rfl, ⟨.own (by first | rfl | (simp only [List.take_length]; done) | (simp; done) | (simp only [List.map_take, List.map_drop, List.map_append, List.take_length, List.nil_append]; done) | (simp only [List.length_map, List.take_length, List.length_append, List.drop_zero, List.map_append, List.map_take, List.map_drop, List.map_replicate, List.map_cons, List.map_nil, List.append_nil, List.nil_append]; done)), .eq rfl, trivial⟩⟩, trivial⟩, ⟨⟨rfl, .eq rfl⟩, trivial⟩⟩⟩
   ·have h := zaf h
    subst h
    have t_ := tT h1 <| tO (rfl : true = true) <| tT h2 <| tO (show (Nat.beq (l).length (l).length) = true from Nat.beq_refl _) <| tO h3 <| tO h4 <| tF h5 <| tN
    exact ⟨t_.ev, zcL n ((isub .i64 i 1), (iadd .i64 n2 1), (l ++ [0])), .k0 t_.pf (by kernel_rfl), .same (by kernel_rfl)⟩
  ·obtain ⟨h3, h⟩ := zar h
   rcases zaj h with ⟨h4, h⟩ | ⟨h4, h⟩
   ·obtain ⟨h5, h⟩ := zar h
    obtain ⟨h6, h⟩ := zar h
    have h := zaf h
    subst h
    have t_ := tT h1 <| tO (rfl : true = true) <| tF h2 <| tO h3 <| tT h4 <| tO (rfl : true = true) <| tO (rfl : true = true) <| tO (rfl : true = true) <| tO (rfl : true = true) <| tO h5 <| tO (rfl : true = true) <| tO h6 <| tO h5 <| tO h5 <| tO (rfl : true = true) <| tO (rfl : true = true) <| tO (rfl : true = true) <| tO (rfl : true = true) <| tO h5 <| tO h6 <| tO h5 <| tO h6 <| tN
    exact ⟨t_.ev, ⟨[(0, (.av (.one (.ref 0 0)))), (1, (.av (.one (.pv (.int .u64 n))))), (6, (.av (.one (.pv (.int .i64 (isub .i64 i 1))))))], [(0, [(.own 0 0 (l).length false), (.pv (.int .i64 (iadd .i64 n2 1)))])], [(0, (.live (.ints .u8 (l.set (0 + ((iquo .i64 n2 8)).toNat) (ior .u8 (l.getD (0 + ((iquo .i64 n2 8)).toNat) 0) (ishr .u8 128 (irem .i64 n2 8)))))))]⟩, .k1 t_.pf (by kernel_rfl) (by kernel_rfl), ⟨⟨⟨_, rfl, .eq rfl⟩, ⟨_, rfl, .eq rfl⟩, ⟨_, rfl, .eq rfl⟩, trivial⟩, ⟨⟨rfl, ⟨.own (by first | rfl | (simp only [List.take_length]; done) | (simp; done) | (simp only [List.map_take, List.map_drop, List.map_append, List.take_length, List.nil_append]; done) | (simp only [List.length_map, List.take_length, List.length_append, List.drop_zero, List.map_append, List.map_take, List.map_drop, List.map_replicate, List.map_cons, List.map_nil, List.append_nil, List.nil_append]; done)), .eq rfl, trivial⟩⟩, trivial⟩, ⟨⟨rfl, .eq rfl⟩, trivial⟩⟩⟩
   ·have h := zaf h
    subst h
    have t_ := tT h1 <| tO (rfl : true = true) <| tF h2 <| tO h3 <| tF h4 <| tN
    exact ⟨t_.ev, zcL n ((isub .i64 i 1), (iadd .i64 n2 1), l), .k0 t_.pf (by kernel_rfl), .same (by kernel_rfl)⟩
 ·have h := zaf h
  subst h
  have t_ := tF h1 <| tN
  exact ⟨t_.ev, ⟨[(13, (.av (.one (.pv (.bool false))))), (0, (.av (.one (.ref 0 0)))), (1, (.av (.one (.pv (.int .u64 n))))), (6, (.av (.one (.pv (.int .i64 i))))), (13, (.av (.one (.pv (.bool (decide ((0 : Int) ≤ i)))))))], [(0, [(.own 0 0 (l).length false), (.pv (.int .i64 n2))])], [(0, (.live (.ints .u8 l)))]⟩, .k0 t_.pf (by kernel_rfl), ⟨trivial, ⟨⟨rfl, ⟨.eq rfl, .eq rfl, trivial⟩⟩, trivial⟩, ⟨⟨rfl, .eq rfl⟩, trivial⟩⟩⟩
theorem zgE (n : Int) (s_ : Int × Int × List Int) (r_ : Int × List Int) (h : runL (zba n) s_ = some r_) : zbK Tryz.prog (lEnv Tryz.prog cfg 135 1).nt 1 (.loop (zbe Tryz.prog 135 0)) (zcL n s_) (zcK n r_).1 (zcK n r_).2 :=
 zbA h (zhh n) (by intro r_; rcases r_ with ⟨r1, r2⟩ <;> simp [zcK])
noncomputable def zaD (n k n2 : Int) (l : List Int) : Option (Int × List Int) :=
 (zf1 k).bind fun n3 =>
 (runL (zba n) ((isub .i64 n3 1), n2, l)).bind fun (n4, l_) =>
 some (n4, l_)
theorem zbd (n k n2 : Int) (l : List Int) (r_ : Int × List Int) (h : zaD n k n2 l = some r_) : Runs Tryz.prog 135 [(.one (.ref 0 0)), (.one (.pv (.int .u64 n))), (.one (.pv (.int .i64 k)))] [[(.own 0 0 (l).length false), (.pv (.int .i64 n2))]] [(.ints .u8 l)] (zh6 n k n2 l r_) := by
 unfold zaD at h
 obtain ⟨n3, h1, h⟩ := zae h
 obtain ⟨⟨n4, l_⟩, h2, h⟩ := zae h
 have h := zaf h
 subst h
 have t_ := tF (rfl : false = false) <| tR (zhF k _ h1) <| tL (zgE n _ _ h2) <| tN
 exact zag (C := cfg) (sc := t_.ev) (.k0 t_.pf (by kernel_rfl))
def zfE (i : Bool) (i2 : zad) (n : Int) (l : List Int) : Int × List Int → Res
 | (r1, r2) => ([], [[(.own 0 0 (r2).length false), (.pv (.int .i64 r1))]], [(.ints .u8 r2)])
noncomputable def zdN (rec_code_PutID_2 : Bool → zad → Int → List Int → Option (Int × List Int)) (i : Bool) (i2 : zad) (n : Int) (l : List Int) : Option (Int × List Int) :=
 (zeK i i2).bind fun (b, t) =>
 (zd5 i i2).bind fun (b2, t2) =>
 (zbq i i2).bind fun b3 =>
 bif b3 then
  (zaD 0 2 n l).bind fun (n2, l_) =>
  (zaD 0 1 n2 l_).bind fun (n3, l_2) =>
  some (n3, l_2)
 else
  (zcB i i2).bind fun _ =>
  bif i then
   (zaD 0 2 n l).bind fun (n2, l_) =>
   (zaD 1 1 n2 l_).bind fun (n3, l_2) =>
   some (n3, l_2)
  else
   (zbq b t).bind fun b4 =>
   bif b4 then
    (zaD 1 2 n l).bind fun (n2, l_) =>
    (rec_code_PutID_2 b2 t2 n2 l_).bind fun (n3, l_2) =>
    some (n3, l_2)
   else
    (zbq b2 t2).bind fun b5 =>
    bif b5 then
     (zaD 2 2 n l).bind fun (n2, l_) =>
     (rec_code_PutID_2 b t n2 l_).bind fun (n3, l_2) =>
     some (n3, l_2)
    else
     (zaD 3 2 n l).bind fun (n2, l_) =>
     (rec_code_PutID_2 b t n2 l_).bind fun (n3, l_2) =>
     (rec_code_PutID_2 b2 t2 n3 l_2).bind fun (n4, l_3) =>
     some (n4, l_3)
theorem zjt (rec_code_PutID_2 : Bool → zad → Int → List Int → Option (Int × List Int)) (hrec_code_PutID_2 : ∀ i i2 n l r_, rec_code_PutID_2 i i2 n l = some r_ → Runs Tryz.prog 116 [(.one (.ref 0 0)), (.agg [(.pv (.bool i)), (.pv (zad.pv i2))])] [[(.own 0 0 (l).length false), (.pv (.int .i64 n))]] [(.ints .u8 l)] (zfE i i2 n l r_)) (i : Bool) (i2 : zad) (n : Int) (l : List Int) (r_ : Int × List Int) (h : zdN rec_code_PutID_2 i i2 n l = some r_) : Runs Tryz.prog 116 [(.one (.ref 0 0)), (.agg [(.pv (.bool i)), (.pv (zad.pv i2))])] [[(.own 0 0 (l).length false), (.pv (.int .i64 n))]] [(.ints .u8 l)] (zfE i i2 n l r_) := by
 unfold zdN at h
 obtain ⟨⟨b, t⟩, h1, h⟩ := zae h
 obtain ⟨⟨b2, t2⟩, h2, h⟩ := zae h
 obtain ⟨b3, h3, h⟩ := zae h
 have p3_ := fun {sc_ : List Ev} {Q_ : Prop} (t_ : Tell sc_ Q_) => tR (za9 i i2 _ h1) <| tR (za9 i i2 _ h1) <| tR (za9 i i2 _ h1) <| tR (za9 i i2 _ h1) <| tR (za9 i i2 _ h1) <| tR (za9 i i2 _ h1) <| tR (za9 i i2 _ h1) <| tR (zcd i i2 _ h2) <| tR (zcd i i2 _ h2) <| tR (zcd i i2 _ h2) <| tR (za9 i i2 _ h1) <| tR (zcd i i2 _ h2) <| tR (zap i i2 _ h3) <| t_
 rcases zaj h with ⟨h4, h⟩ | ⟨h4, h⟩
 ·obtain ⟨⟨n2, l_⟩, h5, h⟩ := zae h
  obtain ⟨⟨n3, l_2⟩, h6, h⟩ := zae h
  have h := zaf h
  subst h
  have t_ := p3_ <| tT h4 <| tR (zbd 0 2 n l _ h5) <| tR (zbd 0 1 n2 l_ _ h6) <| tN
  exact zag (C := cfg) (sc := t_.ev) (.k1 t_.pf (by kernel_rfl) (by kernel_rfl))
 ·obtain ⟨_, h5, h⟩ := zae h
  rcases zaj h with ⟨h6, h⟩ | ⟨h6, h⟩
  ·obtain ⟨⟨n2, l_⟩, h7, h⟩ := zae h
   obtain ⟨⟨n3, l_2⟩, h8, h⟩ := zae h
   have h := zaf h
   subst h
   have t_ := p3_ <| tF h4 <| tR (zaG i i2 _ h5) <| tT h6 <| tR (zbd 0 2 n l _ h7) <| tR (zbd 1 1 n2 l_ _ h8) <| tN
   exact zag (C := cfg) (sc := t_.ev) (.k1 t_.pf (by kernel_rfl) (by kernel_rfl))
  ·obtain ⟨b4, h7, h⟩ := zae h
   rcases zaj h with ⟨h8, h⟩ | ⟨h8, h⟩
   ·obtain ⟨⟨n2, l_⟩, h9, h⟩ := zae h
    obtain ⟨⟨n3, l_2⟩, h10, h⟩ := zae h
    have h := zaf h
    subst h
    have t_ := p3_ <| tF h4 <| tR (zaG i i2 _ h5) <| tF h6 <| tR (zap b t _ h7) <| tT h8 <| tR (zbd 1 2 n l _ h9) <| tR (hrec_code_PutID_2 b2 t2 n2 l_ _ h10) <| tN
    exact zag (C := cfg) (sc := t_.ev) (.k1 t_.pf (by kernel_rfl) (by kernel_rfl))
   ·obtain ⟨b5, h9, h⟩ := zae h
    rcases zaj h with ⟨h10, h⟩ | ⟨h10, h⟩
    ·obtain ⟨⟨n2, l_⟩, h11, h⟩ := zae h
     obtain ⟨⟨n3, l_2⟩, h12, h⟩ := zae h
     have h := zaf h
     subst h
     have t_ := p3_ <| tF h4 <| tR (zaG i i2 _ h5) <| tF h6 <| tR (zap b t _ h7) <| tF h8 <| tR (zap b2 t2 _ h9) <| tT h10 <| tR (zbd 2 2 n l _ h11) <| tR (hrec_code_PutID_2 b t n2 l_ _ h12) <| tN
     exact zag (C := cfg) (sc := t_.ev) (.k1 t_.pf (by kernel_rfl) (by kernel_rfl))
    ·obtain ⟨⟨n2, l_⟩, h11, h⟩ := zae h
     obtain ⟨⟨n3, l_2⟩, h12, h⟩ := zae h
     obtain ⟨⟨n4, l_3⟩, h13, h⟩ := zae h
     have h := zaf h
     subst h
     have t_ := p3_ <| tF h4 <| tR (zaG i i2 _ h5) <| tF h6 <| tR (zap b t _ h7) <| tF h8 <| tR (zap b2 t2 _ h9) <| tF h10 <| tR (zbd 3 2 n l _ h11) <| tR (hrec_code_PutID_2 b t n2 l_ _ h12) <| tR (hrec_code_PutID_2 b2 t2 n3 l_2 _ h13) <| tN
     exact zag (C := cfg) (sc := t_.ev) (.k1 t_.pf (by kernel_rfl) (by kernel_rfl))
noncomputable def zcc : Nat → Bool → zad → Int → List Int → Option (Int × List Int)
 | 0, _, _, _, _ => none
 | N + 1, i, i2, n, l => zdN (zcc N) i i2 n l
theorem zdq : ∀ (N : Nat) (i : Bool) (i2 : zad) (n : Int) (l : List Int) (r_ : Int × List Int), zcc N i i2 n l = some r_ → Runs Tryz.prog 116 [(.one (.ref 0 0)), (.agg [(.pv (.bool i)), (.pv (zad.pv i2))])] [[(.own 0 0 (l).length false), (.pv (.int .i64 n))]] [(.ints .u8 l)] (zfE i i2 n l r_)
 | 0, _, _, _, _, _, h => by cases h
 | N + 1, i, i2, n, l, r_, h => zjt (zcc N) (zdq N) i i2 n l r_ h
noncomputable def zgP (N : Nat) (i : Bool) (i2 : zad) (n : Int) : Option (Int × List Int) :=
 (zeK i i2).bind fun (b, t) =>
 (zd5 i i2).bind fun (b2, t2) =>
 (zbq i i2).bind fun b3 =>
 bif b3 then
  (zb2 0 2 n).bind fun (n2, l_) =>
  (zaD 0 1 n2 l_).bind fun (n3, l_2) =>
  some (n3, l_2)
 else
  (zcB i i2).bind fun _ =>
  bif i then
   (zb2 0 2 n).bind fun (n2, l_) =>
   (zaD 1 1 n2 l_).bind fun (n3, l_2) =>
   some (n3, l_2)
  else
   (zbq b t).bind fun b4 =>
   bif b4 then
    (zb2 1 2 n).bind fun (n2, l_) =>
    (zcc N b2 t2 n2 l_).bind fun (n3, l_2) =>
    some (n3, l_2)
   else
    (zbq b2 t2).bind fun b5 =>
    bif b5 then
     (zb2 2 2 n).bind fun (n2, l_) =>
     (zcc N b t n2 l_).bind fun (n3, l_2) =>
     some (n3, l_2)
    else
     (zb2 3 2 n).bind fun (n2, l_) =>
     (zcc N b t n2 l_).bind fun (n3, l_2) =>
     (zcc N b2 t2 n3 l_2).bind fun (n4, l_3) =>
     some (n4, l_3)
theorem zlV (N : Nat) (i : Bool) (i2 : zad) (n : Int) (r_ : Int × List Int) (h : zgP N i i2 n = some r_) : Runs Tryz.prog 116 [(.one (.ref 0 0)), (.agg [(.pv (.bool i)), (.pv (zad.pv i2))])] [[(.pv .nils), (.pv (.int .i64 n))]] [] (zna i i2 n r_) := by
 unfold zgP at h
 obtain ⟨⟨b, t⟩, h1, h⟩ := zae h
 obtain ⟨⟨b2, t2⟩, h2, h⟩ := zae h
 obtain ⟨b3, h3, h⟩ := zae h
 have p3_ := fun {sc_ : List Ev} {Q_ : Prop} (t_ : Tell sc_ Q_) => tR (za9 i i2 _ h1) <| tR (za9 i i2 _ h1) <| tR (za9 i i2 _ h1) <| tR (za9 i i2 _ h1) <| tR (za9 i i2 _ h1) <| tR (za9 i i2 _ h1) <| tR (za9 i i2 _ h1) <| tR (zcd i i2 _ h2) <| tR (zcd i i2 _ h2) <| tR (zcd i i2 _ h2) <| tR (za9 i i2 _ h1) <| tR (zcd i i2 _ h2) <| tR (zap i i2 _ h3) <| t_
 rcases zaj h with ⟨h4, h⟩ | ⟨h4, h⟩
 ·obtain ⟨⟨n2, l_⟩, h5, h⟩ := zae h
  obtain ⟨⟨n3, l_2⟩, h6, h⟩ := zae h
  have h := zaf h
  subst h
  have t_ := p3_ <| tT h4 <| tR (zcG 0 2 n _ h5) <| tR (zbd 0 1 n2 l_ _ h6) <| tN
  exact zag (C := cfg) (sc := t_.ev) (.k1 t_.pf (by kernel_rfl) (by kernel_rfl))
 ·obtain ⟨_, h5, h⟩ := zae h
  rcases zaj h with ⟨h6, h⟩ | ⟨h6, h⟩
  ·obtain ⟨⟨n2, l_⟩, h7, h⟩ := zae h
   obtain ⟨⟨n3, l_2⟩, h8, h⟩ := zae h
   have h := zaf h
   subst h
   have t_ := p3_ <| tF h4 <| tR (zaG i i2 _ h5) <| tT h6 <| tR (zcG 0 2 n _ h7) <| tR (zbd 1 1 n2 l_ _ h8) <| tN
   exact zag (C := cfg) (sc := t_.ev) (.k1 t_.pf (by kernel_rfl) (by kernel_rfl))
  ·obtain ⟨b4, h7, h⟩ := zae h
   rcases zaj h with ⟨h8, h⟩ | ⟨h8, h⟩
   ·obtain ⟨⟨n2, l_⟩, h9, h⟩ := zae h
    obtain ⟨⟨n3, l_2⟩, h10, h⟩ := zae h
    have h := zaf h
    subst h
    have t_ := p3_ <| tF h4 <| tR (zaG i i2 _ h5) <| tF h6 <| tR (zap b t _ h7) <| tT h8 <| tR (zcG 1 2 n _ h9) <| tR (zdq N b2 t2 n2 l_ _ h10) <| tN
    exact zag (C := cfg) (sc := t_.ev) (.k1 t_.pf (by kernel_rfl) (by kernel_rfl))
   ·obtain ⟨b5, h9, h⟩ := zae h
    rcases zaj h with ⟨h10, h⟩ | ⟨h10, h⟩
    ·obtain ⟨⟨n2, l_⟩, h11, h⟩ := zae h
     obtain ⟨⟨n3, l_2⟩, h12, h⟩ := zae h
     have h := zaf h
     subst h
     have t_ := p3_ <| tF h4 <| tR (zaG i i2 _ h5) <| tF h6 <| tR (zap b t _ h7) <| tF h8 <| tR (zap b2 t2 _ h9) <| tT h10 <| tR (zcG 2 2 n _ h11) <| tR (zdq N b t n2 l_ _ h12) <| tN
     exact zag (C := cfg) (sc := t_.ev) (.k1 t_.pf (by kernel_rfl) (by kernel_rfl))
    ·obtain ⟨⟨n2, l_⟩, h11, h⟩ := zae h
     obtain ⟨⟨n3, l_2⟩, h12, h⟩ := zae h
     obtain ⟨⟨n4, l_3⟩, h13, h⟩ := zae h
     have h := zaf h
     subst h
     have t_ := p3_ <| tF h4 <| tR (zaG i i2 _ h5) <| tF h6 <| tR (zap b t _ h7) <| tF h8 <| tR (zap b2 t2 _ h9) <| tF h10 <| tR (zcG 3 2 n _ h11) <| tR (zdq N b t n2 l_ _ h12) <| tR (zdq N b2 t2 n3 l_2 _ h13) <| tN
     exact zag (C := cfg) (sc := t_.ev) (.k1 t_.pf (by kernel_rfl) (by kernel_rfl))
def zh5 (n : Int) (l : List Int) : Unit → Res
 | _ => ([(.one (.pv (.ints .u8 l false)))], [[(.pv (.ints .u8 l false)), (.pv (.int .i64 n))]], [])
noncomputable def zec (n : Int) (l : List Int) : Option (Unit) :=
 bif fits ((List.take (l).length l)).length then
 some ()
 else none
theorem zhR (n : Int) (l : List Int) (r_ : Unit) (h : zec n l = some r_) : Runs Tryz.prog 117 [(.one (.ref 0 0))] [[(.own 0 0 (l).length false), (.pv (.int .i64 n))]] [(.ints .u8 l)] (zh5 n l r_) := by
 unfold zec at h
 obtain ⟨h1, h⟩ := zar h
 have h := zaf h
 subst h
 have t_ := tF (rfl : false = false) <| tR (zlo (l := (List.take (l).length l)) (t := false) h1) <| tN
 exact Runs.out (zag (C := cfg) (res := ([(.one (.pv (.ints .u8 (List.take (l).length l) false)))], [[(.pv (.ints .u8 (List.take (l).length l) false)), (.pv (.int .i64 n))]], [])) (sc := t_.ev) (.k0 t_.pf (by kernel_rfl))) ⟨.pv (.ints (by first | rfl | (simp only [List.take_length]; done) | (simp; done) | (simp only [List.map_take, List.map_drop, List.map_append, List.take_length, List.nil_append]; done) | (simp only [List.length_map, List.take_length, List.length_append, List.drop_zero, List.map_append, List.map_take, List.map_drop, List.map_replicate, List.map_cons, List.map_nil, List.append_nil, List.nil_append]; done))), trivial⟩ ⟨⟨.pv (.ints (by first | rfl | (simp only [List.take_length]; done) | (simp; done) | (simp only [List.map_take, List.map_drop, List.map_append, List.take_length, List.nil_append]; done) | (simp only [List.length_map, List.take_length, List.length_append, List.drop_zero, List.map_append, List.map_take, List.map_drop, List.map_replicate, List.map_cons, List.map_nil, List.append_nil, List.nil_append]; done))), .eq rfl, trivial⟩, trivial⟩ trivial rfl
noncomputable def zlU (N : Nat) (i : Bool) (i2 : zad) : Option (List Int) :=
 (zfo).bind fun _ =>
 (zgP N i i2 0).bind fun (n, l_) =>
 (zec n l_).bind fun _ =>
 some l_
theorem zoT (N : Nat) (i : Bool) (i2 : zad) (r_ : List Int) (h : zlU N i i2 = some r_) : Runs Tryz.prog 83 [(.agg [(.pv (.bool i)), (.pv (zad.pv i2))])] [] [] (zpR i i2 r_) := by
 unfold zlU at h
 obtain ⟨_, h1, h⟩ := zae h
 obtain ⟨⟨n, l_⟩, h2, h⟩ := zae h
 obtain ⟨_, h3, h⟩ := zae h
 have h := zaf h
 subst h
 have t_ := tR (zjp _ h1) <| tR (zlV N i i2 0 _ h2) <| tR (zhR n l_ _ h3) <| tN
 exact zag (C := cfg) (sc := t_.ev) (.k0 t_.pf (by kernel_rfl))
def zoJ (p : List Int) (s : ByteArray) : List Int → Res
 | r1 => ([(.one (.own 0 0 (r1).length false))], [], [(.ints .u8 r1)])
noncomputable def zkG (p : List Int) (s : ByteArray) : Option (List Int) :=
 (zdo p (IntKind.u64.wrap (s.size : Int))).bind fun l_ =>
 bif fits ((l_ ++ (zc6 s))).length then
 some (l_ ++ (zc6 s))
 else none
theorem znw (p : List Int) (s : ByteArray) (r_ : List Int) (h : zkG p s = some r_) : Runs Tryz.prog 82 [(.one (.pv (.ints .u8 p false))), (.one (.pv (.str s)))] [] [] (zoJ p s r_) := by
 unfold zkG at h
 obtain ⟨l_, h1, h⟩ := zae h
 obtain ⟨h2, h⟩ := zar h
 have h := zaf h
 subst h
 have t_ := tR (za5 p (IntKind.u64.wrap (s.size : Int)) _ h1) <| tO (show (Nat.beq (l_).length (l_).length) = true from Nat.beq_refl _) <| tO h2 <| tN
 exact zag (C := cfg) (sc := t_.ev) (.k0 t_.pf (by kernel_rfl))
noncomputable def zfu (N : Nat) (p : List Int) (g g2 g3 : Int) (g4 : Bool) (g5 : zad) : Option (List Int) :=
 (zdo p g).bind fun l_ =>
 (zdo l_ (IntKind.u64.wrap g2)).bind fun l_2 =>
 (zdo l_2 (IntKind.u64.wrap g3)).bind fun l_3 =>
 (zlU N g4 g5).bind fun l_4 =>
 (zkG l_3 (Ev.strOf l_4)).bind fun l_5 =>
 some l_5
theorem zkK (N : Nat) (p : List Int) (g g2 g3 : Int) (g4 : Bool) (g5 : zad) (r_ : List Int) (h : zfu N p g g2 g3 g4 g5 = some r_) : Runs Tryz.prog 47 [(.one (.pv (.ints .u8 p false))), (.agg [(.pv (.int .u64 g)), (.pv (.int .i64 g2)), (.pv (.int .i64 g3)), (.pv (.bool g4)), (.pv (zad.pv g5))])] [] [] (zlq p g g2 g3 g4 g5 r_) := by
 unfold zfu at h
 obtain ⟨l_, h1, h⟩ := zae h
 obtain ⟨l_2, h2, h⟩ := zae h
 obtain ⟨l_3, h3, h⟩ := zae h
 obtain ⟨l_4, h4, h⟩ := zae h
 obtain ⟨l_5, h5, h⟩ := zae h
 have h := zaf h
 subst h
 have t_ := tR (za5 p g _ h1) <| tR (za5 p g _ h1) <| tR (za5 p g _ h1) <| tR (Runs.coe (as' := [(.one (.pv (.ints .u8 (List.take (l_).length l_) false))), (.one (.pv (.int .u64 (IntKind.u64.wrap g2))))]) (objs' := []) (rows' := []) (za5 l_ (IntKind.u64.wrap g2) _ h2) ⟨.pv (.ints (by first | rfl | (simp only [List.take_length]; done) | (simp; done) | (simp only [List.map_take, List.map_drop, List.map_append, List.take_length, List.nil_append]; done) | (simp only [List.length_map, List.take_length, List.length_append, List.drop_zero, List.map_append, List.map_take, List.map_drop, List.map_replicate, List.map_cons, List.map_nil, List.append_nil, List.nil_append]; done))), .eq rfl, trivial⟩ trivial trivial) <| tR (za5 p g _ h1) <| tR (Runs.coe (as' := [(.one (.pv (.ints .u8 (List.take (l_).length l_) false))), (.one (.pv (.int .u64 (IntKind.u64.wrap g2))))]) (objs' := []) (rows' := []) (za5 l_ (IntKind.u64.wrap g2) _ h2) ⟨.pv (.ints (by first | rfl | (simp only [List.take_length]; done) | (simp; done) | (simp only [List.map_take, List.map_drop, List.map_append, List.take_length, List.nil_append]; done) | (simp only [List.length_map, List.take_length, List.length_append, List.drop_zero, List.map_append, List.map_take, List.map_drop, List.map_replicate, List.map_cons, List.map_nil, List.append_nil, List.nil_append]; done))), .eq rfl, trivial⟩ trivial trivial) <| tR (Runs.coe (as' := [(.one (.pv (.ints .u8 (List.take (l_2).length l_2) false))), (.one (.pv (.int .u64 (IntKind.u64.wrap g3))))]) (objs' := []) (rows' := []) (za5 l_2 (IntKind.u64.wrap g3) _ h3) ⟨.pv (.ints (by first | rfl | (simp only [List.take_length]; done) | (simp; done) | (simp only [List.map_take, List.map_drop, List.map_append, List.take_length, List.nil_append]; done) | (simp only [List.length_map, List.take_length, List.length_append, List.drop_zero, List.map_append, List.map_take, List.map_drop, List.map_replicate, List.map_cons, List.map_nil, List.append_nil, List.nil_append]; done))), .eq rfl, trivial⟩ trivial trivial) <| tR (zoT N g4 g5 _ h4) <| tR (Runs.coe (as' := [(.one (.pv (.ints .u8 (List.take (l_3).length l_3) false))), (.one (.pv (.str (Ev.strOf l_4))))]) (objs' := []) (rows' := []) (znw l_3 (Ev.strOf l_4) _ h5) ⟨.pv (.ints (by first | rfl | (simp only [List.take_length]; done) | (simp; done) | (simp only [List.map_take, List.map_drop, List.map_append, List.take_length, List.nil_append]; done) | (simp only [List.length_map, List.take_length, List.length_append, List.drop_zero, List.map_append, List.map_take, List.map_drop, List.map_replicate, List.map_cons, List.map_nil, List.append_nil, List.nil_append]; done))), .eq rfl, trivial⟩ trivial trivial) <| tN
 exact zag (C := cfg) (sc := t_.ev) (.k1 t_.pf (by kernel_rfl) (by kernel_rfl))
def zdQ (r : List zaa) (n n2 n3 : Int) (r2 : List zaa) (m : List (Int × Int)) (m2 : List ((Int × Int) × Int)) : Int × List Int → St
 | (n4, l) => ⟨[(0, (.av (.one (.ref 0 0)))), (3, (.av (.one (.own 0 0 (l).length false)))), (33, (.av (.one (.pv (.recs 5 (List.map zaa.pv r) false))))), (34, (.av (.one (.pv (.int .i64 n))))), (35, (.av (.one (.pv (.int .i64 n4)))))], [(0, [(.pv (.int .i64 n2)), (.pv (.int .u64 n3)), (.pv (.recs 5 (List.map zaa.pv r2) false)), (.mp 1), (.mp 2)]), (1, [(.maph (.int .i64) false (List.map M_int_int.pv m) [])]), (2, [(.maph (.st [.i64, .u64]) false (List.map M_deed_Mark_int.pv m2) [])])], [(0, (.live (.ints .u8 l)))]⟩
def zcU (r : List zaa) (n n2 n3 : Int) (r2 : List zaa) (m : List (Int × Int)) (m2 : List ((Int × Int) × Int)) : List Int → Ex × St
 | r1 => ((.exit 0), ⟨[(0, (.av (.one (.ref 0 0)))), (3, (.av (.one (.own 0 0 (r1).length false))))], [(0, [(.pv (.int .i64 n2)), (.pv (.int .u64 n3)), (.pv (.recs 5 (List.map zaa.pv r2) false)), (.mp 1), (.mp 2)]), (1, [(.maph (.int .i64) false (List.map M_int_int.pv m) [])]), (2, [(.maph (.st [.i64, .u64]) false (List.map M_deed_Mark_int.pv m2) [])])], [(0, (.live (.ints .u8 r1)))]⟩)
noncomputable def zbs (N : Nat) (r : List zaa) (n n2 n3 : Int) (r2 : List zaa) (m : List (Int × Int)) (m2 : List ((Int × Int) × Int)) : Int × List Int → Option ((Int × List Int) ⊕ (List Int))
 | (n4, l) =>
 bif (decide ((n4 : Int) < n)) then
  bif decide ((0 : Int) ≤ n4) && decide ((n4 : Int) < (((List.map zaa.pv r)).length : Int)) then
  (r[(n4).toNat]?).bind fun e_ => match e_ with
  | .mk n5 n6 n7 b t =>
  (zfu N l n5 n6 n7 b t).bind fun l_ =>
  some (.inl ((iadd .i64 n4 1), l_))
  else none
 else
  some (.inr l)
theorem zhU (N : Nat) (r : List zaa) (n n2 n3 : Int) (r2 : List zaa) (m : List (Int × Int)) (m2 : List ((Int × Int) × Int)) (s_ : Int × List Int) (z_ : (Int × List Int) ⊕ (List Int)) (h : zbs N r n n2 n3 r2 m m2 s_ = some z_) : zbQ Tryz.prog cfg 24 3 (zbe Tryz.prog 24 0) (zdQ r n n2 n3 r2 m m2) (zcU r n n2 n3 r2 m m2) s_ z_ := by
 rcases s_ with ⟨n4, l⟩
 rcases zaj h with ⟨h1, h⟩ | ⟨h1, h⟩
 ·obtain ⟨h2, h⟩ := zar h
  obtain ⟨⟨n5, n6, n7, b, t⟩, h3, h⟩ := zae h
  obtain ⟨l_, h4, h⟩ := zae h
  have h := zaf h
  subst h
  have t_ := tT h1 <| tO h2 <| tE (.el [(.int .u64 n5), (.int .i64 n6), (.int .i64 n7), (.bool b), (zad.pv t)]) <| tO (zdi (f := zaa.pv) h3) <| tR (Runs.coe (as' := [(.one (.pv (.ints .u8 (List.take (l).length l) false))), (.agg [(.pv (.int .u64 n5)), (.pv (.int .i64 n6)), (.pv (.int .i64 n7)), (.pv (.bool b)), (.pv (zad.pv t))])]) (objs' := []) (rows' := []) (zkK N l n5 n6 n7 b t _ h4) ⟨.pv (.ints (by first | rfl | (simp only [List.take_length]; done) | (simp; done) | (simp only [List.map_take, List.map_drop, List.map_append, List.take_length, List.nil_append]; done) | (simp only [List.length_map, List.take_length, List.length_append, List.drop_zero, List.map_append, List.map_take, List.map_drop, List.map_replicate, List.map_cons, List.map_nil, List.append_nil, List.nil_append]; done))), ⟨.eq rfl, .eq rfl, .eq rfl, .eq rfl, .eq rfl, trivial⟩, trivial⟩ trivial trivial) <| tN
  exact ⟨t_.ev, zdQ r n n2 n3 r2 m m2 ((iadd .i64 n4 1), l_), .k0 t_.pf (by kernel_rfl), .same (by kernel_rfl)⟩
 ·have h := zaf h
  subst h
  have t_ := tF h1 <| tN
  exact ⟨t_.ev, ⟨[(36, (.av (.one (.pv (.bool false))))), (0, (.av (.one (.ref 0 0)))), (3, (.av (.one (.own 0 0 (l).length false)))), (33, (.av (.one (.pv (.recs 5 (List.map zaa.pv r) false))))), (34, (.av (.one (.pv (.int .i64 n))))), (35, (.av (.one (.pv (.int .i64 n4))))), (36, (.av (.one (.pv (.bool (decide ((n4 : Int) < n)))))))], [(0, [(.pv (.int .i64 n2)), (.pv (.int .u64 n3)), (.pv (.recs 5 (List.map zaa.pv r2) false)), (.mp 1), (.mp 2)]), (1, [(.maph (.int .i64) false (List.map M_int_int.pv m) [])]), (2, [(.maph (.st [.i64, .u64]) false (List.map M_deed_Mark_int.pv m2) [])])], [(0, (.live (.ints .u8 l)))]⟩, .k0 t_.pf (by kernel_rfl), ⟨⟨⟨_, rfl, .eq rfl⟩, ⟨_, rfl, .eq rfl⟩, trivial⟩, ⟨⟨rfl, ⟨.eq rfl, .eq rfl, .eq rfl, .eq rfl, .eq rfl, trivial⟩⟩, ⟨rfl, ⟨.eq rfl, trivial⟩⟩, ⟨rfl, ⟨.eq rfl, trivial⟩⟩, trivial⟩, ⟨⟨rfl, .eq rfl⟩, trivial⟩⟩⟩
theorem zgQ (N : Nat) (r : List zaa) (n n2 n3 : Int) (r2 : List zaa) (m : List (Int × Int)) (m2 : List ((Int × Int) × Int)) (s_ : Int × List Int) (r_ : List Int) (h : runL (zbs N r n n2 n3 r2 m m2) s_ = some r_) : zbK Tryz.prog (lEnv Tryz.prog cfg 24 3).nt 3 (.loop (zbe Tryz.prog 24 0)) (zdQ r n n2 n3 r2 m m2 s_) (zcU r n n2 n3 r2 m m2 r_).1 (zcU r n n2 n3 r2 m m2 r_).2 :=
 zbA h (zhU N r n n2 n3 r2 m m2) (by intro r_; rcases r_ with r1 <;> simp [zcU])
def zjP (m : List (Int × Int)) : Unit → Res
 | _ => ([(.one (.fn 86 [(.ref 1 0)]))], [[(.maph (.int .i64) false (List.map M_int_int.pv m) [])], [(.mp 0)]], [])
noncomputable def zeW (m : List (Int × Int)) : Option (Unit) :=
 some ()
theorem zjc (m : List (Int × Int)) (r_ : Unit) (h : zeW m = some r_) : Runs Tryz.prog 49 [(.one (.mp 0))] [[(.maph (.int .i64) false (List.map M_int_int.pv m) [])]] [] (zjP m r_) := by
 unfold zeW at h
 have h := zaf h
 subst h
 have t_ := tN
 exact zag (C := cfg) (sc := t_.ev) (.k0 t_.pf (by kernel_rfl))
def zdR (n n2 n3 : Int) (r : List zaa) (m : List (Int × Int)) (m2 : List ((Int × Int) × Int)) (l2 : List Int) : Int × List Int → St
 | (n4, l) => ⟨[(0, (.av (.one (.ref 0 0)))), (3, (.av (.one (.own 0 0 (l).length false)))), (56, (.av (.one (.own 1 0 (l2).length false)))), (57, (.av (.one (.pv (.int .i64 n))))), (58, (.av (.one (.pv (.int .i64 n4)))))], [(0, [(.pv (.int .i64 n2)), (.pv (.int .u64 n3)), (.pv (.recs 5 (List.map zaa.pv r) false)), (.mp 1), (.mp 2)]), (1, [(.maph (.int .i64) false (List.map M_int_int.pv m) [])]), (2, [(.maph (.st [.i64, .u64]) false (List.map M_deed_Mark_int.pv m2) [])])], [(0, (.live (.ints .u8 l))), (1, (.live (.ints .i64 l2)))]⟩
def zcV (n n2 n3 : Int) (r : List zaa) (m : List (Int × Int)) (m2 : List ((Int × Int) × Int)) (l2 : List Int) : List Int → Ex × St
 | r1 => ((.exit 2), ⟨[(0, (.av (.one (.ref 0 0)))), (3, (.av (.one (.own 0 0 (r1).length false))))], [(0, [(.pv (.int .i64 n2)), (.pv (.int .u64 n3)), (.pv (.recs 5 (List.map zaa.pv r) false)), (.mp 1), (.mp 2)]), (1, [(.maph (.int .i64) false (List.map M_int_int.pv m) [])]), (2, [(.maph (.st [.i64, .u64]) false (List.map M_deed_Mark_int.pv m2) [])])], [(0, (.live (.ints .u8 r1))), (1, (.live (.ints .i64 l2)))]⟩)
noncomputable def zbt (n n2 n3 : Int) (r : List zaa) (m : List (Int × Int)) (m2 : List ((Int × Int) × Int)) (l2 : List Int) : Int × List Int → Option ((Int × List Int) ⊕ (List Int))
 | (n4, l) =>
 bif (decide ((n4 : Int) < n)) then
  bif decide ((0 : Int) ≤ n4) && decide ((n4 : Int) < ((l2).length : Int)) then
  (zdo l (IntKind.u64.wrap (l2.getD (0 + (n4).toNat) 0))).bind fun l_ =>
  some (.inl ((iadd .i64 n4 1), l_))
  else none
 else
  some (.inr l)
theorem zhV (n n2 n3 : Int) (r : List zaa) (m : List (Int × Int)) (m2 : List ((Int × Int) × Int)) (l2 : List Int) (s_ : Int × List Int) (z_ : (Int × List Int) ⊕ (List Int)) (h : zbt n n2 n3 r m m2 l2 s_ = some z_) : zbQ Tryz.prog cfg 24 3 (zbe Tryz.prog 24 1) (zdR n n2 n3 r m m2 l2) (zcV n n2 n3 r m m2 l2) s_ z_ := by
 rcases s_ with ⟨n4, l⟩
 rcases zaj h with ⟨h1, h⟩ | ⟨h1, h⟩
 ·obtain ⟨h2, h⟩ := zar h
  obtain ⟨l_, h3, h⟩ := zae h
  have h := zaf h
  subst h
  have t_ := tT h1 <| tO h2 <| tR (Runs.coe (as' := [(.one (.pv (.ints .u8 (List.take (l).length l) false))), (.one (.pv (.int .u64 (IntKind.u64.wrap (l2.getD (0 + (n4).toNat) 0)))))]) (objs' := []) (rows' := []) (za5 l (IntKind.u64.wrap (l2.getD (0 + (n4).toNat) 0)) _ h3) ⟨.pv (.ints (by first | rfl | (simp only [List.take_length]; done) | (simp; done) | (simp only [List.map_take, List.map_drop, List.map_append, List.take_length, List.nil_append]; done) | (simp only [List.length_map, List.take_length, List.length_append, List.drop_zero, List.map_append, List.map_take, List.map_drop, List.map_replicate, List.map_cons, List.map_nil, List.append_nil, List.nil_append]; done))), .eq rfl, trivial⟩ trivial trivial) <| tN
  exact ⟨t_.ev, zdR n n2 n3 r m m2 l2 ((iadd .i64 n4 1), l_), .k0 t_.pf (by kernel_rfl), .same (by kernel_rfl)⟩
 ·have h := zaf h
  subst h
  have t_ := tF h1 <| tN
  exact ⟨t_.ev, ⟨[(59, (.av (.one (.pv (.bool false))))), (0, (.av (.one (.ref 0 0)))), (3, (.av (.one (.own 0 0 (l).length false)))), (56, (.av (.one (.own 1 0 (l2).length false)))), (57, (.av (.one (.pv (.int .i64 n))))), (58, (.av (.one (.pv (.int .i64 n4))))), (59, (.av (.one (.pv (.bool (decide ((n4 : Int) < n)))))))], [(0, [(.pv (.int .i64 n2)), (.pv (.int .u64 n3)), (.pv (.recs 5 (List.map zaa.pv r) false)), (.mp 1), (.mp 2)]), (1, [(.maph (.int .i64) false (List.map M_int_int.pv m) [])]), (2, [(.maph (.st [.i64, .u64]) false (List.map M_deed_Mark_int.pv m2) [])])], [(0, (.live (.ints .u8 l))), (1, (.live (.ints .i64 l2)))]⟩, .k0 t_.pf (by kernel_rfl), ⟨⟨⟨_, rfl, .eq rfl⟩, ⟨_, rfl, .eq rfl⟩, trivial⟩, ⟨⟨rfl, ⟨.eq rfl, .eq rfl, .eq rfl, .eq rfl, .eq rfl, trivial⟩⟩, ⟨rfl, ⟨.eq rfl, trivial⟩⟩, ⟨rfl, ⟨.eq rfl, trivial⟩⟩, trivial⟩, ⟨⟨rfl, .eq rfl⟩, ⟨rfl, .eq rfl⟩, trivial⟩⟩⟩
theorem zgR (n n2 n3 : Int) (r : List zaa) (m : List (Int × Int)) (m2 : List ((Int × Int) × Int)) (l2 : List Int) (s_ : Int × List Int) (r_ : List Int) (h : runL (zbt n n2 n3 r m m2 l2) s_ = some r_) : zbK Tryz.prog (lEnv Tryz.prog cfg 24 3).nt 3 (.loop (zbe Tryz.prog 24 1)) (zdR n n2 n3 r m m2 l2 s_) (zcV n n2 n3 r m m2 l2 r_).1 (zcV n n2 n3 r m m2 l2 r_).2 :=
 zbA h (zhV n n2 n3 r m m2 l2) (by intro r_; rcases r_ with r1 <;> simp [zcV])
def zdS (n n2 n3 : Int) (r : List zaa) (m : List (Int × Int)) (m2 : List ((Int × Int) × Int)) (r2 : List zal) : Int × List Int → St
 | (n4, l) => ⟨[(3, (.av (.one (.own 0 0 (l).length false)))), (76, (.av (.one (.own 1 0 ((List.map zal.pv r2)).length false)))), (77, (.av (.one (.pv (.int .i64 n))))), (78, (.av (.one (.pv (.int .i64 n4)))))], [(0, [(.pv (.int .i64 n2)), (.pv (.int .u64 n3)), (.pv (.recs 5 (List.map zaa.pv r) false)), (.mp 1), (.mp 2)]), (1, [(.maph (.int .i64) false (List.map M_int_int.pv m) [])]), (2, [(.maph (.st [.i64, .u64]) false (List.map M_deed_Mark_int.pv m2) [])])], [(0, (.live (.ints .u8 l))), (1, (.live (.recs 2 (List.map zal.pv r2))))]⟩
def zcW (n n2 n3 : Int) (r : List zaa) (m : List (Int × Int)) (m2 : List ((Int × Int) × Int)) (r2 : List zal) : List Int → Ex × St
 | r1 => ((.exit 4), ⟨[(3, (.av (.one (.own 0 0 (r1).length false))))], [(0, [(.pv (.int .i64 n2)), (.pv (.int .u64 n3)), (.pv (.recs 5 (List.map zaa.pv r) false)), (.mp 1), (.mp 2)]), (1, [(.maph (.int .i64) false (List.map M_int_int.pv m) [])]), (2, [(.maph (.st [.i64, .u64]) false (List.map M_deed_Mark_int.pv m2) [])])], [(0, (.live (.ints .u8 r1))), (1, (.live (.recs 2 (List.map zal.pv r2))))]⟩)
noncomputable def zbu (n n2 n3 : Int) (r : List zaa) (m : List (Int × Int)) (m2 : List ((Int × Int) × Int)) (r2 : List zal) : Int × List Int → Option ((Int × List Int) ⊕ (List Int))
 | (n4, l) =>
 bif (decide ((n4 : Int) < n)) then
  bif decide ((0 : Int) ≤ n4) && decide ((n4 : Int) < (((List.map zal.pv r2)).length : Int)) then
  (r2[(0 + (n4).toNat)]?).bind fun e_ => match e_ with
  | .mk n5 n6 =>
  (zdo l (IntKind.u64.wrap n5)).bind fun l_ =>
  (zdo l_ n6).bind fun l_2 =>
  some (.inl ((iadd .i64 n4 1), l_2))
  else none
 else
  some (.inr l)
theorem zhW (n n2 n3 : Int) (r : List zaa) (m : List (Int × Int)) (m2 : List ((Int × Int) × Int)) (r2 : List zal) (s_ : Int × List Int) (z_ : (Int × List Int) ⊕ (List Int)) (h : zbu n n2 n3 r m m2 r2 s_ = some z_) : zbQ Tryz.prog cfg 24 3 (zbe Tryz.prog 24 2) (zdS n n2 n3 r m m2 r2) (zcW n n2 n3 r m m2 r2) s_ z_ := by
 rcases s_ with ⟨n4, l⟩
 rcases zaj h with ⟨h1, h⟩ | ⟨h1, h⟩
 ·obtain ⟨h2, h⟩ := zar h
  obtain ⟨⟨n5, n6⟩, h3, h⟩ := zae h
  obtain ⟨l_, h4, h⟩ := zae h
  obtain ⟨l_2, h5, h⟩ := zae h
  have h := zaf h
  subst h
  have t_ := tT h1 <| tO h2 <| tE (.el [(.int .i64 n5), (.int .u64 n6)]) <| tO (zdi (f := zal.pv) h3) <| tR (Runs.coe (as' := [(.one (.pv (.ints .u8 (List.take (l).length l) false))), (.one (.pv (.int .u64 (IntKind.u64.wrap n5))))]) (objs' := []) (rows' := []) (za5 l (IntKind.u64.wrap n5) _ h4) ⟨.pv (.ints (by first | rfl | (simp only [List.take_length]; done) | (simp; done) | (simp only [List.map_take, List.map_drop, List.map_append, List.take_length, List.nil_append]; done) | (simp only [List.length_map, List.take_length, List.length_append, List.drop_zero, List.map_append, List.map_take, List.map_drop, List.map_replicate, List.map_cons, List.map_nil, List.append_nil, List.nil_append]; done))), .eq rfl, trivial⟩ trivial trivial) <| tR (Runs.coe (as' := [(.one (.pv (.ints .u8 (List.take (l).length l) false))), (.one (.pv (.int .u64 (IntKind.u64.wrap n5))))]) (objs' := []) (rows' := []) (za5 l (IntKind.u64.wrap n5) _ h4) ⟨.pv (.ints (by first | rfl | (simp only [List.take_length]; done) | (simp; done) | (simp only [List.map_take, List.map_drop, List.map_append, List.take_length, List.nil_append]; done) | (simp only [List.length_map, List.take_length, List.length_append, List.drop_zero, List.map_append, List.map_take, List.map_drop, List.map_replicate, List.map_cons, List.map_nil, List.append_nil, List.nil_append]; done))), .eq rfl, trivial⟩ trivial trivial) <| tR (Runs.coe (as' := [(.one (.pv (.ints .u8 (List.take (l_).length l_) false))), (.one (.pv (.int .u64 n6)))]) (objs' := []) (rows' := []) (za5 l_ n6 _ h5) ⟨.pv (.ints (by first | rfl | (simp only [List.take_length]; done) | (simp; done) | (simp only [List.map_take, List.map_drop, List.map_append, List.take_length, List.nil_append]; done) | (simp only [List.length_map, List.take_length, List.length_append, List.drop_zero, List.map_append, List.map_take, List.map_drop, List.map_replicate, List.map_cons, List.map_nil, List.append_nil, List.nil_append]; done))), .eq rfl, trivial⟩ trivial trivial) <| tN
  exact ⟨t_.ev, zdS n n2 n3 r m m2 r2 ((iadd .i64 n4 1), l_2), .k1 t_.pf (by kernel_rfl) (by kernel_rfl), .same (by kernel_rfl)⟩
 ·have h := zaf h
  subst h
  have t_ := tF h1 <| tN
  exact ⟨t_.ev, ⟨[(79, (.av (.one (.pv (.bool false))))), (3, (.av (.one (.own 0 0 (l).length false)))), (76, (.av (.one (.own 1 0 ((List.map zal.pv r2)).length false)))), (77, (.av (.one (.pv (.int .i64 n))))), (78, (.av (.one (.pv (.int .i64 n4))))), (79, (.av (.one (.pv (.bool (decide ((n4 : Int) < n)))))))], [(0, [(.pv (.int .i64 n2)), (.pv (.int .u64 n3)), (.pv (.recs 5 (List.map zaa.pv r) false)), (.mp 1), (.mp 2)]), (1, [(.maph (.int .i64) false (List.map M_int_int.pv m) [])]), (2, [(.maph (.st [.i64, .u64]) false (List.map M_deed_Mark_int.pv m2) [])])], [(0, (.live (.ints .u8 l))), (1, (.live (.recs 2 (List.map zal.pv r2))))]⟩, .k0 t_.pf (by kernel_rfl), ⟨⟨⟨_, rfl, .eq rfl⟩, trivial⟩, ⟨⟨rfl, ⟨.eq rfl, .eq rfl, .eq rfl, .eq rfl, .eq rfl, trivial⟩⟩, ⟨rfl, ⟨.eq rfl, trivial⟩⟩, ⟨rfl, ⟨.eq rfl, trivial⟩⟩, trivial⟩, ⟨⟨rfl, .eq rfl⟩, ⟨rfl, .eq rfl⟩, trivial⟩⟩⟩
theorem zgS (n n2 n3 : Int) (r : List zaa) (m : List (Int × Int)) (m2 : List ((Int × Int) × Int)) (r2 : List zal) (s_ : Int × List Int) (r_ : List Int) (h : runL (zbu n n2 n3 r m m2 r2) s_ = some r_) : zbK Tryz.prog (lEnv Tryz.prog cfg 24 3).nt 3 (.loop (zbe Tryz.prog 24 2)) (zdS n n2 n3 r m m2 r2 s_) (zcW n n2 n3 r m m2 r2 r_).1 (zcW n n2 n3 r m m2 r2 r_).2 :=
 zbA h (zhW n n2 n3 r m m2 r2) (by intro r_; rcases r_ with r1 <;> simp [zcW])
noncomputable def zc5 (N : Nat) (n n2 : Int) (r : List zaa) (m : List (Int × Int)) (m2 : List ((Int × Int) × Int)) : Option (List Int) :=
 (zdo [] (IntKind.u64.wrap n)).bind fun l_ =>
 (zdo l_ n2).bind fun l_2 =>
 (zdo l_2 (IntKind.u64.wrap (((List.map zaa.pv r)).length : Int))).bind fun l_3 =>
 (runL (zbs N r (((List.map zaa.pv r)).length : Int) n n2 r m m2) (0, l_3)).bind fun l_4 =>
 (zdo l_4 (IntKind.u64.wrap ((List.map M_int_int.pv m).length : Int))).bind fun l_5 =>
 (zeW m).bind fun _ =>
 (zde m).bind fun l_6 =>
 (runL (zbt ((l_6).length : Int) n n2 r m m2 l_6) (0, l_5)).bind fun l_7 =>
 (zdo l_7 (IntKind.u64.wrap ((List.map M_deed_Mark_int.pv m2).length : Int))).bind fun l_8 =>
 (zcA n n2 r m m2).bind fun r2 =>
 (runL (zbu (((List.map zal.pv r2)).length : Int) n n2 r m m2 r2) (0, l_8)).bind fun l_9 =>
 some l_9
theorem zfs (N : Nat) (n n2 : Int) (r : List zaa) (m : List (Int × Int)) (m2 : List ((Int × Int) × Int)) (r_ : List Int) (h : zc5 N n n2 r m m2 = some r_) : Runs Tryz.prog 24 [(.one (.ref 0 0))] [[(.pv (.int .i64 n)), (.pv (.int .u64 n2)), (.pv (.recs 5 (List.map zaa.pv r) false)), (.mp 1), (.mp 2)], [(.maph (.int .i64) false (List.map M_int_int.pv m) [])], [(.maph (.st [.i64, .u64]) false (List.map M_deed_Mark_int.pv m2) [])]] [] (zi6 n n2 r m m2 r_) := by
 unfold zc5 at h
 obtain ⟨l_, h1, h⟩ := zae h
 obtain ⟨l_2, h2, h⟩ := zae h
 obtain ⟨l_3, h3, h⟩ := zae h
 obtain ⟨l_4, h4, h⟩ := zae h
 obtain ⟨l_5, h5, h⟩ := zae h
 obtain ⟨_, h6, h⟩ := zae h
 obtain ⟨l_6, h7, h⟩ := zae h
 obtain ⟨l_7, h8, h⟩ := zae h
 obtain ⟨l_8, h9, h⟩ := zae h
 obtain ⟨r2, h10, h⟩ := zae h
 obtain ⟨l_9, h11, h⟩ := zae h
 have h := zaf h
 subst h
 have t_ := tF (rfl : false = false) <| tR (Runs.coe (as' := [(.one (.pv .nils)), (.one (.pv (.int .u64 (IntKind.u64.wrap n))))]) (objs' := []) (rows' := []) (za5 [] (IntKind.u64.wrap n) _ h1) ⟨.pv (.nilsI), .eq rfl, trivial⟩ trivial trivial) <| tR (Runs.coe (as' := [(.one (.pv .nils)), (.one (.pv (.int .u64 (IntKind.u64.wrap n))))]) (objs' := []) (rows' := []) (za5 [] (IntKind.u64.wrap n) _ h1) ⟨.pv (.nilsI), .eq rfl, trivial⟩ trivial trivial) <| tR (Runs.coe (as' := [(.one (.pv (.ints .u8 (List.take (l_).length l_) false))), (.one (.pv (.int .u64 n2)))]) (objs' := []) (rows' := []) (za5 l_ n2 _ h2) ⟨.pv (.ints (by first | rfl | (simp only [List.take_length]; done) | (simp; done) | (simp only [List.map_take, List.map_drop, List.map_append, List.take_length, List.nil_append]; done) | (simp only [List.length_map, List.take_length, List.length_append, List.drop_zero, List.map_append, List.map_take, List.map_drop, List.map_replicate, List.map_cons, List.map_nil, List.append_nil, List.nil_append]; done))), .eq rfl, trivial⟩ trivial trivial) <| tR (Runs.coe (as' := [(.one (.pv .nils)), (.one (.pv (.int .u64 (IntKind.u64.wrap n))))]) (objs' := []) (rows' := []) (za5 [] (IntKind.u64.wrap n) _ h1) ⟨.pv (.nilsI), .eq rfl, trivial⟩ trivial trivial) <| tR (Runs.coe (as' := [(.one (.pv .nils)), (.one (.pv (.int .u64 (IntKind.u64.wrap n))))]) (objs' := []) (rows' := []) (za5 [] (IntKind.u64.wrap n) _ h1) ⟨.pv (.nilsI), .eq rfl, trivial⟩ trivial trivial) <| tR (Runs.coe (as' := [(.one (.pv (.ints .u8 (List.take (l_).length l_) false))), (.one (.pv (.int .u64 n2)))]) (objs' := []) (rows' := []) (za5 l_ n2 _ h2) ⟨.pv (.ints (by first | rfl | (simp only [List.take_length]; done) | (simp; done) | (simp only [List.map_take, List.map_drop, List.map_append, List.take_length, List.nil_append]; done) | (simp only [List.length_map, List.take_length, List.length_append, List.drop_zero, List.map_append, List.map_take, List.map_drop, List.map_replicate, List.map_cons, List.map_nil, List.append_nil, List.nil_append]; done))), .eq rfl, trivial⟩ trivial trivial) <| tR (Runs.coe (as' := [(.one (.pv (.ints .u8 (List.take (l_2).length l_2) false))), (.one (.pv (.int .u64 (IntKind.u64.wrap (((List.map zaa.pv r)).length : Int)))))]) (objs' := []) (rows' := []) (za5 l_2 (IntKind.u64.wrap (((List.map zaa.pv r)).length : Int)) _ h3) ⟨.pv (.ints (by first | rfl | (simp only [List.take_length]; done) | (simp; done) | (simp only [List.map_take, List.map_drop, List.map_append, List.take_length, List.nil_append]; done) | (simp only [List.length_map, List.take_length, List.length_append, List.drop_zero, List.map_append, List.map_take, List.map_drop, List.map_replicate, List.map_cons, List.map_nil, List.append_nil, List.nil_append]; done))), .eq rfl, trivial⟩ trivial trivial) <| tL (zgQ N r (((List.map zaa.pv r)).length : Int) n n2 r m m2 _ _ h4) <| tR (Runs.coe (as' := [(.one (.pv (.ints .u8 (List.take (l_4).length l_4) false))), (.one (.pv (.int .u64 (IntKind.u64.wrap ((List.map M_int_int.pv m).length : Int)))))]) (objs' := []) (rows' := []) (za5 l_4 (IntKind.u64.wrap ((List.map M_int_int.pv m).length : Int)) _ h5) ⟨.pv (.ints (by first | rfl | (simp only [List.take_length]; done) | (simp; done) | (simp only [List.map_take, List.map_drop, List.map_append, List.take_length, List.nil_append]; done) | (simp only [List.length_map, List.take_length, List.length_append, List.drop_zero, List.map_append, List.map_take, List.map_drop, List.map_replicate, List.map_cons, List.map_nil, List.append_nil, List.nil_append]; done))), .eq rfl, trivial⟩ trivial trivial) <| tR (zjc m _ h6) <| tR (zhC m _ h7) <| tL (zgR ((l_6).length : Int) n n2 r m m2 l_6 _ _ h8) <| tR (Runs.coe (as' := [(.one (.pv (.ints .u8 (List.take (l_7).length l_7) false))), (.one (.pv (.int .u64 (IntKind.u64.wrap ((List.map M_deed_Mark_int.pv m2).length : Int)))))]) (objs' := []) (rows' := []) (za5 l_7 (IntKind.u64.wrap ((List.map M_deed_Mark_int.pv m2).length : Int)) _ h9) ⟨.pv (.ints (by first | rfl | (simp only [List.take_length]; done) | (simp; done) | (simp only [List.map_take, List.map_drop, List.map_append, List.take_length, List.nil_append]; done) | (simp only [List.length_map, List.take_length, List.length_append, List.drop_zero, List.map_append, List.map_take, List.map_drop, List.map_replicate, List.map_cons, List.map_nil, List.append_nil, List.nil_append]; done))), .eq rfl, trivial⟩ trivial trivial) <| tR (zd2 n n2 r m m2 _ h10) <| tL (zgS (((List.map zal.pv r2)).length : Int) n n2 r m m2 r2 _ _ h11) <| tN
 exact zag (C := cfg) (sc := t_.ev) (.k1 t_.pf (by kernel_rfl) (by kernel_rfl))
def znn (n n2 : Int) (r : List zab) (l : List Int) (r2 : List zac) : List Int → Res
 | r1 => ([(.one (.own 0 0 (r1).length false))], [[(.pv (.int .i64 n)), (.pv (.int .u64 n2)), (.pv (.recs 4 (List.map zab.pv r) false)), (.pv (.ints .i64 l false)), (.pv (.recs 2 (List.map zac.pv r2) false))]], [(.ints .u8 r1)])
end Go.Proofs.YtjjcmgdgifcmgaaGreat
