/- What functions compute, and that they do. -/
import Derived.Test.YtjjcmgdgifcmgaaGreatA3
set_option linter.unusedVariables false
set_option linter.unusedSimpArgs false
set_option maxRecDepth 100000
namespace Go.Proofs.YtjjcmgdgifcmgaaGreat
open Go.Ev
def zdd (l : List Int) (n n2 n3 : Int) (r : List zaa) (l2 : List Int) (r2 : List zac) : Bool × Int → St
 | (ok, n4) => ⟨[(1, (.av (.one (.ref 0 0)))), (6, (.av (.one (.pv (.bool ok))))), (74, (.av (.one (.pv (.ints .i64 l false))))), (75, (.av (.one (.pv (.int .i64 n))))), (76, (.av (.one (.pv (.int .i64 n4)))))], [(0, [(.pv (.int .u64 n2)), (.pv (.int .u64 n3)), (.pv (.recs 5 (List.map zaa.pv r) false)), (.pv (.ints .i64 l2 false)), (.pv (.recs 2 (List.map zac.pv r2) false))])], []⟩
def zdc (l : List Int) (n n2 n3 : Int) (r : List zaa) (l2 : List Int) (r2 : List zac) : Bool → Ex × St
 | r1 => ((.exit 4), ⟨[(1, (.av (.one (.ref 0 0)))), (6, (.av (.one (.pv (.bool r1)))))], [(0, [(.pv (.int .u64 n2)), (.pv (.int .u64 n3)), (.pv (.recs 5 (List.map zaa.pv r) false)), (.pv (.ints .i64 l2 false)), (.pv (.recs 2 (List.map zac.pv r2) false))])], []⟩)
noncomputable def zbq (l : List Int) (n n2 n3 : Int) (r : List zaa) (l2 : List Int) (r2 : List zac) : Bool × Int → Option ((Bool × Int) ⊕ (Bool))
 | (ok, n4) =>
 bif (decide ((n4 : Int) < n)) then
  bif decide ((0 : Int) ≤ n4) && decide ((n4 : Int) < ((l).length : Int)) then
  bif ok then
   (zdm n2 n3 r l2 r2 (l.getD (n4).toNat 0)).bind fun b =>
   some (.inl (b, (iadd .i64 n4 1)))
  else
   some (.inl (false, (iadd .i64 n4 1)))
  else none
 else
  some (.inr ok)
theorem zje (l : List Int) (n n2 n3 : Int) (r : List zaa) (l2 : List Int) (r2 : List zac) (s_ : Bool × Int) (z_ : (Bool × Int) ⊕ (Bool)) (h : zbq l n n2 n3 r l2 r2 s_ = some z_) : zaP Tryz.prog cfg 63 0 (zax Tryz.prog 63 2) (zdd l n n2 n3 r l2 r2) (zdc l n n2 n3 r l2 r2) s_ z_ := by
 rcases s_ with ⟨ok, n4⟩
 rcases zaj h with ⟨h1, h⟩ | ⟨h1, h⟩
 ·obtain ⟨h2, h⟩ := zaq h
  rcases zaj h with ⟨h3, h⟩ | ⟨h3, h⟩
  ·obtain ⟨b, h4, h⟩ := zaf h
   have h := zad h
   subst h
   have t_ := tT h1 <| tO h2 <| tT h3 <| tR (zdw n2 n3 r l2 r2 (l.getD (n4).toNat 0) _ h4) <| tN
   exact ⟨t_.ev, zdd l n n2 n3 r l2 r2 (b, (iadd .i64 n4 1)), .k0 t_.pf (by kernel_rfl), .same (by kernel_rfl)⟩
  ·have h := zad h
   subst h
   have t_ := tT h1 <| tO h2 <| tF h3 <| tN
   exact ⟨t_.ev, zdd l n n2 n3 r l2 r2 (false, (iadd .i64 n4 1)), .k0 t_.pf (by kernel_rfl), .same (by kernel_rfl)⟩
 ·have h := zad h
  subst h
  have t_ := tF h1 <| tN
  exact ⟨t_.ev, ⟨[(77, (.av (.one (.pv (.bool false))))), (1, (.av (.one (.ref 0 0)))), (6, (.av (.one (.pv (.bool ok))))), (74, (.av (.one (.pv (.ints .i64 l false))))), (75, (.av (.one (.pv (.int .i64 n))))), (76, (.av (.one (.pv (.int .i64 n4))))), (77, (.av (.one (.pv (.bool (decide ((n4 : Int) < n)))))))], [(0, [(.pv (.int .u64 n2)), (.pv (.int .u64 n3)), (.pv (.recs 5 (List.map zaa.pv r) false)), (.pv (.ints .i64 l2 false)), (.pv (.recs 2 (List.map zac.pv r2) false))])], []⟩, .k0 t_.pf (by kernel_rfl), ⟨⟨⟨_, rfl, .eq rfl⟩, ⟨_, rfl, .eq rfl⟩, trivial⟩, ⟨⟨rfl, ⟨.eq rfl, .eq rfl, .eq rfl, .eq rfl, .eq rfl, trivial⟩⟩, trivial⟩, trivial⟩⟩
theorem zh2 (l : List Int) (n n2 n3 : Int) (r : List zaa) (l2 : List Int) (r2 : List zac) (s_ : Bool × Int) (r_ : Bool) (h : runL (zbq l n n2 n3 r l2 r2) s_ = some r_) : zaT Tryz.prog (lEnv Tryz.prog cfg 63 0).nt 0 (.loop (zax Tryz.prog 63 2)) (zdd l n n2 n3 r l2 r2 s_) (zdc l n n2 n3 r l2 r2 r_).1 (zdc l n n2 n3 r l2 r2 r_).2 :=
 zaJ h (zje l n n2 n3 r l2 r2) (by intro r_; rcases r_ with r1 <;> simp [zdc])
def zbT (r : List zac) (n n2 n3 : Int) (r2 : List zaa) (l : List Int) (r3 : List zac) : Bool × Int → St
 | (ok, n4) => ⟨[(1, (.av (.one (.ref 0 0)))), (6, (.av (.one (.pv (.bool ok))))), (88, (.av (.one (.pv (.recs 2 (List.map zac.pv r) false))))), (89, (.av (.one (.pv (.int .i64 n))))), (90, (.av (.one (.pv (.int .i64 n4)))))], [(0, [(.pv (.int .u64 n2)), (.pv (.int .u64 n3)), (.pv (.recs 5 (List.map zaa.pv r2) false)), (.pv (.ints .i64 l false)), (.pv (.recs 2 (List.map zac.pv r3) false))])], []⟩
def zde (r : List zac) (n n2 n3 : Int) (r2 : List zaa) (l : List Int) (r3 : List zac) : Bool → Ex × St
 | r1 => ((.exit 6), ⟨[(6, (.av (.one (.pv (.bool r1)))))], [(0, [(.pv (.int .u64 n2)), (.pv (.int .u64 n3)), (.pv (.recs 5 (List.map zaa.pv r2) false)), (.pv (.ints .i64 l false)), (.pv (.recs 2 (List.map zac.pv r3) false))])], []⟩)
noncomputable def zbr (r : List zac) (n n2 n3 : Int) (r2 : List zaa) (l : List Int) (r3 : List zac) : Bool × Int → Option ((Bool × Int) ⊕ (Bool))
 | (ok, n4) =>
 bif (decide ((n4 : Int) < n)) then
  bif decide ((0 : Int) ≤ n4) && decide ((n4 : Int) < (((List.map zac.pv r)).length : Int)) then
  (r[(n4).toNat]?).bind fun e_ => match e_ with
  | .mk n5 n6 =>
  bif ok then
   (zdm n2 n3 r2 l r3 n5).bind fun b =>
   bif b then
    bif (decide ((1 : Int) ≤ n6)) then
     some (.inl ((decide ((n6 : Int) < 4611686018427387904)), (iadd .i64 n4 1)))
    else
     some (.inl (false, (iadd .i64 n4 1)))
   else
    some (.inl (false, (iadd .i64 n4 1)))
  else
   some (.inl (false, (iadd .i64 n4 1)))
  else none
 else
  some (.inr ok)
theorem zjf (r : List zac) (n n2 n3 : Int) (r2 : List zaa) (l : List Int) (r3 : List zac) (s_ : Bool × Int) (z_ : (Bool × Int) ⊕ (Bool)) (h : zbr r n n2 n3 r2 l r3 s_ = some z_) : zaP Tryz.prog cfg 63 0 (zax Tryz.prog 63 3) (zbT r n n2 n3 r2 l r3) (zde r n n2 n3 r2 l r3) s_ z_ := by
 rcases s_ with ⟨ok, n4⟩
 rcases zaj h with ⟨h1, h⟩ | ⟨h1, h⟩
 ·obtain ⟨h2, h⟩ := zaq h
  obtain ⟨⟨n5, n6⟩, h3, h⟩ := zaf h
  rcases zaj h with ⟨h4, h⟩ | ⟨h4, h⟩
  ·obtain ⟨b, h5, h⟩ := zaf h
   rcases zaj h with ⟨h6, h⟩ | ⟨h6, h⟩
   ·rcases zaj h with ⟨h7, h⟩ | ⟨h7, h⟩
    ·have h := zad h
     subst h
     have t_ := tT h1 <| tO h2 <| tE (.el [(.int .i64 n5), (.int .u64 n6)]) <| tO (zc0 (f := zac.pv) h3) <| tT h4 <| tR (zdw n2 n3 r2 l r3 n5 _ h5) <| tT h6 <| tT h7 <| tN
     exact ⟨t_.ev, zbT r n n2 n3 r2 l r3 ((decide ((n6 : Int) < 4611686018427387904)), (iadd .i64 n4 1)), .k0 t_.pf (by kernel_rfl), .same (by kernel_rfl)⟩
    ·have h := zad h
     subst h
     have t_ := tT h1 <| tO h2 <| tE (.el [(.int .i64 n5), (.int .u64 n6)]) <| tO (zc0 (f := zac.pv) h3) <| tT h4 <| tR (zdw n2 n3 r2 l r3 n5 _ h5) <| tT h6 <| tF h7 <| tN
     exact ⟨t_.ev, zbT r n n2 n3 r2 l r3 (false, (iadd .i64 n4 1)), .k0 t_.pf (by kernel_rfl), .same (by kernel_rfl)⟩
   ·have h := zad h
    subst h
    have t_ := tT h1 <| tO h2 <| tE (.el [(.int .i64 n5), (.int .u64 n6)]) <| tO (zc0 (f := zac.pv) h3) <| tT h4 <| tR (zdw n2 n3 r2 l r3 n5 _ h5) <| tF h6 <| tF (rfl : false = false) <| tN
    exact ⟨t_.ev, zbT r n n2 n3 r2 l r3 (false, (iadd .i64 n4 1)), .k0 t_.pf (by kernel_rfl), .same (by kernel_rfl)⟩
  ·have h := zad h
   subst h
   have t_ := tT h1 <| tO h2 <| tE (.el [(.int .i64 n5), (.int .u64 n6)]) <| tO (zc0 (f := zac.pv) h3) <| tF h4 <| tF (rfl : false = false) <| tF (rfl : false = false) <| tN
   exact ⟨t_.ev, zbT r n n2 n3 r2 l r3 (false, (iadd .i64 n4 1)), .k0 t_.pf (by kernel_rfl), .same (by kernel_rfl)⟩
 ·have h := zad h
  subst h
  have t_ := tF h1 <| tN
  exact ⟨t_.ev, ⟨[(91, (.av (.one (.pv (.bool false))))), (1, (.av (.one (.ref 0 0)))), (6, (.av (.one (.pv (.bool ok))))), (88, (.av (.one (.pv (.recs 2 (List.map zac.pv r) false))))), (89, (.av (.one (.pv (.int .i64 n))))), (90, (.av (.one (.pv (.int .i64 n4))))), (91, (.av (.one (.pv (.bool (decide ((n4 : Int) < n)))))))], [(0, [(.pv (.int .u64 n2)), (.pv (.int .u64 n3)), (.pv (.recs 5 (List.map zaa.pv r2) false)), (.pv (.ints .i64 l false)), (.pv (.recs 2 (List.map zac.pv r3) false))])], []⟩, .k0 t_.pf (by kernel_rfl), ⟨⟨⟨_, rfl, .eq rfl⟩, trivial⟩, ⟨⟨rfl, ⟨.eq rfl, .eq rfl, .eq rfl, .eq rfl, .eq rfl, trivial⟩⟩, trivial⟩, trivial⟩⟩
theorem zh4 (r : List zac) (n n2 n3 : Int) (r2 : List zaa) (l : List Int) (r3 : List zac) (s_ : Bool × Int) (r_ : Bool) (h : runL (zbr r n n2 n3 r2 l r3) s_ = some r_) : zaT Tryz.prog (lEnv Tryz.prog cfg 63 0).nt 0 (.loop (zax Tryz.prog 63 3)) (zbT r n n2 n3 r2 l r3 s_) (zde r n n2 n3 r2 l r3 r_).1 (zde r n n2 n3 r2 l r3 r_).2 :=
 zaJ h (zjf r n n2 n3 r2 l r3) (by intro r_; rcases r_ with r1 <;> simp [zde])
def zdL (r : List zaa) (n n2 n3 : Int) (r2 : List zaa) (l : List Int) (r3 : List zac) : Int → St
 | n4 => ⟨[(1, (.av (.one (.ref 0 0)))), (6, (.av (.one (.pv (.bool false))))), (60, (.av (.one (.pv (.recs 5 (List.map zaa.pv r) false))))), (61, (.av (.one (.pv (.int .i64 n))))), (62, (.av (.one (.pv (.int .i64 n4)))))], [(0, [(.pv (.int .u64 n2)), (.pv (.int .u64 n3)), (.pv (.recs 5 (List.map zaa.pv r2) false)), (.pv (.ints .i64 l false)), (.pv (.recs 2 (List.map zac.pv r3) false))])], []⟩
def zcD (r : List zaa) (n n2 n3 : Int) (r2 : List zaa) (l : List Int) (r3 : List zac) : Unit → Ex × St
 | _ => ((.exit 2), ⟨[(1, (.av (.one (.ref 0 0)))), (6, (.av (.one (.pv (.bool false)))))], [(0, [(.pv (.int .u64 n2)), (.pv (.int .u64 n3)), (.pv (.recs 5 (List.map zaa.pv r2) false)), (.pv (.ints .i64 l false)), (.pv (.recs 2 (List.map zac.pv r3) false))])], []⟩)
noncomputable def zaG (r : List zaa) (n n2 n3 : Int) (r2 : List zaa) (l : List Int) (r3 : List zac) : Int → Option ((Int) ⊕ (Unit))
 | n4 =>
 bif (decide ((n4 : Int) < n)) then
  bif decide ((0 : Int) ≤ n4) && decide ((n4 : Int) < (((List.map zaa.pv r)).length : Int)) then
  (r[(n4).toNat]?).bind fun e_ => match e_ with
  | .mk n5 n6 n7 b t =>
  some (.inl (iadd .i64 n4 1))
  else none
 else
  some (.inr ())
theorem zhZ (r : List zaa) (n n2 n3 : Int) (r2 : List zaa) (l : List Int) (r3 : List zac) (n4 : Int) (z_ : (Int) ⊕ (Unit)) (h : zaG r n n2 n3 r2 l r3 n4 = some z_) : zaP Tryz.prog cfg 63 0 (zax Tryz.prog 63 1) (zdL r n n2 n3 r2 l r3) (zcD r n n2 n3 r2 l r3) n4 z_ := by
 rcases zaj h with ⟨h1, h⟩ | ⟨h1, h⟩
 ·obtain ⟨h2, h⟩ := zaq h
  obtain ⟨⟨n5, n6, n7, b, t⟩, h3, h⟩ := zaf h
  have h := zad h
  subst h
  have t_ := tT h1 <| tO h2 <| tE (.el [(.int .u64 n5), (.int .i64 n6), (.int .i64 n7), (.bool b), (zab.pv t)]) <| tO (zc0 (f := zaa.pv) h3) <| tF (rfl : false = false) <| tN
  exact ⟨t_.ev, zdL r n n2 n3 r2 l r3 (iadd .i64 n4 1), .k0 t_.pf (by kernel_rfl), .same (by kernel_rfl)⟩
 ·have h := zad h
  subst h
  have t_ := tF h1 <| tN
  exact ⟨t_.ev, ⟨[(63, (.av (.one (.pv (.bool false))))), (1, (.av (.one (.ref 0 0)))), (6, (.av (.one (.pv (.bool false))))), (60, (.av (.one (.pv (.recs 5 (List.map zaa.pv r) false))))), (61, (.av (.one (.pv (.int .i64 n))))), (62, (.av (.one (.pv (.int .i64 n4))))), (63, (.av (.one (.pv (.bool (decide ((n4 : Int) < n)))))))], [(0, [(.pv (.int .u64 n2)), (.pv (.int .u64 n3)), (.pv (.recs 5 (List.map zaa.pv r2) false)), (.pv (.ints .i64 l false)), (.pv (.recs 2 (List.map zac.pv r3) false))])], []⟩, .k0 t_.pf (by kernel_rfl), ⟨⟨⟨_, rfl, .eq rfl⟩, ⟨_, rfl, .eq rfl⟩, trivial⟩, ⟨⟨rfl, ⟨.eq rfl, .eq rfl, .eq rfl, .eq rfl, .eq rfl, trivial⟩⟩, trivial⟩, trivial⟩⟩
theorem zbI (r : List zaa) (n n2 n3 : Int) (r2 : List zaa) (l : List Int) (r3 : List zac) (s_ : Int) (r_ : Unit) (h : runL (zaG r n n2 n3 r2 l r3) s_ = some r_) : zaT Tryz.prog (lEnv Tryz.prog cfg 63 0).nt 0 (.loop (zax Tryz.prog 63 1)) (zdL r n n2 n3 r2 l r3 s_) (zcD r n n2 n3 r2 l r3 r_).1 (zcD r n n2 n3 r2 l r3 r_).2 :=
 zaJ h (zhZ r n n2 n3 r2 l r3) (by intro r_; rcases r_ with _ <;> simp [zcD])
def zdM (l : List Int) (n n2 n3 : Int) (r : List zaa) (l2 : List Int) (r2 : List zac) : Int → St
 | n4 => ⟨[(1, (.av (.one (.ref 0 0)))), (6, (.av (.one (.pv (.bool false))))), (74, (.av (.one (.pv (.ints .i64 l false))))), (75, (.av (.one (.pv (.int .i64 n))))), (76, (.av (.one (.pv (.int .i64 n4)))))], [(0, [(.pv (.int .u64 n2)), (.pv (.int .u64 n3)), (.pv (.recs 5 (List.map zaa.pv r) false)), (.pv (.ints .i64 l2 false)), (.pv (.recs 2 (List.map zac.pv r2) false))])], []⟩
def zcE (l : List Int) (n n2 n3 : Int) (r : List zaa) (l2 : List Int) (r2 : List zac) : Unit → Ex × St
 | _ => ((.exit 4), ⟨[(1, (.av (.one (.ref 0 0)))), (6, (.av (.one (.pv (.bool false)))))], [(0, [(.pv (.int .u64 n2)), (.pv (.int .u64 n3)), (.pv (.recs 5 (List.map zaa.pv r) false)), (.pv (.ints .i64 l2 false)), (.pv (.recs 2 (List.map zac.pv r2) false))])], []⟩)
noncomputable def zaH (l : List Int) (n n2 n3 : Int) (r : List zaa) (l2 : List Int) (r2 : List zac) : Int → Option ((Int) ⊕ (Unit))
 | n4 =>
 bif (decide ((n4 : Int) < n)) then
  bif decide ((0 : Int) ≤ n4) && decide ((n4 : Int) < ((l).length : Int)) then
  some (.inl (iadd .i64 n4 1))
  else none
 else
  some (.inr ())
theorem zh1 (l : List Int) (n n2 n3 : Int) (r : List zaa) (l2 : List Int) (r2 : List zac) (n4 : Int) (z_ : (Int) ⊕ (Unit)) (h : zaH l n n2 n3 r l2 r2 n4 = some z_) : zaP Tryz.prog cfg 63 0 (zax Tryz.prog 63 2) (zdM l n n2 n3 r l2 r2) (zcE l n n2 n3 r l2 r2) n4 z_ := by
 rcases zaj h with ⟨h1, h⟩ | ⟨h1, h⟩
 ·obtain ⟨h2, h⟩ := zaq h
  have h := zad h
  subst h
  have t_ := tT h1 <| tO h2 <| tF (rfl : false = false) <| tN
  exact ⟨t_.ev, zdM l n n2 n3 r l2 r2 (iadd .i64 n4 1), .k0 t_.pf (by kernel_rfl), .same (by kernel_rfl)⟩
 ·have h := zad h
  subst h
  have t_ := tF h1 <| tN
  exact ⟨t_.ev, ⟨[(77, (.av (.one (.pv (.bool false))))), (1, (.av (.one (.ref 0 0)))), (6, (.av (.one (.pv (.bool false))))), (74, (.av (.one (.pv (.ints .i64 l false))))), (75, (.av (.one (.pv (.int .i64 n))))), (76, (.av (.one (.pv (.int .i64 n4))))), (77, (.av (.one (.pv (.bool (decide ((n4 : Int) < n)))))))], [(0, [(.pv (.int .u64 n2)), (.pv (.int .u64 n3)), (.pv (.recs 5 (List.map zaa.pv r) false)), (.pv (.ints .i64 l2 false)), (.pv (.recs 2 (List.map zac.pv r2) false))])], []⟩, .k0 t_.pf (by kernel_rfl), ⟨⟨⟨_, rfl, .eq rfl⟩, ⟨_, rfl, .eq rfl⟩, trivial⟩, ⟨⟨rfl, ⟨.eq rfl, .eq rfl, .eq rfl, .eq rfl, .eq rfl, trivial⟩⟩, trivial⟩, trivial⟩⟩
theorem zbJ (l : List Int) (n n2 n3 : Int) (r : List zaa) (l2 : List Int) (r2 : List zac) (s_ : Int) (r_ : Unit) (h : runL (zaH l n n2 n3 r l2 r2) s_ = some r_) : zaT Tryz.prog (lEnv Tryz.prog cfg 63 0).nt 0 (.loop (zax Tryz.prog 63 2)) (zdM l n n2 n3 r l2 r2 s_) (zcE l n n2 n3 r l2 r2 r_).1 (zcE l n n2 n3 r l2 r2 r_).2 :=
 zaJ h (zh1 l n n2 n3 r l2 r2) (by intro r_; rcases r_ with _ <;> simp [zcE])
def zdN (r : List zac) (n n2 n3 : Int) (r2 : List zaa) (l : List Int) (r3 : List zac) : Int → St
 | n4 => ⟨[(1, (.av (.one (.ref 0 0)))), (6, (.av (.one (.pv (.bool false))))), (88, (.av (.one (.pv (.recs 2 (List.map zac.pv r) false))))), (89, (.av (.one (.pv (.int .i64 n))))), (90, (.av (.one (.pv (.int .i64 n4)))))], [(0, [(.pv (.int .u64 n2)), (.pv (.int .u64 n3)), (.pv (.recs 5 (List.map zaa.pv r2) false)), (.pv (.ints .i64 l false)), (.pv (.recs 2 (List.map zac.pv r3) false))])], []⟩
def zcF (r : List zac) (n n2 n3 : Int) (r2 : List zaa) (l : List Int) (r3 : List zac) : Unit → Ex × St
 | _ => ((.exit 6), ⟨[(6, (.av (.one (.pv (.bool false)))))], [(0, [(.pv (.int .u64 n2)), (.pv (.int .u64 n3)), (.pv (.recs 5 (List.map zaa.pv r2) false)), (.pv (.ints .i64 l false)), (.pv (.recs 2 (List.map zac.pv r3) false))])], []⟩)
noncomputable def zaI (r : List zac) (n n2 n3 : Int) (r2 : List zaa) (l : List Int) (r3 : List zac) : Int → Option ((Int) ⊕ (Unit))
 | n4 =>
 bif (decide ((n4 : Int) < n)) then
  bif decide ((0 : Int) ≤ n4) && decide ((n4 : Int) < (((List.map zac.pv r)).length : Int)) then
  (r[(n4).toNat]?).bind fun e_ => match e_ with
  | .mk n5 n6 =>
  some (.inl (iadd .i64 n4 1))
  else none
 else
  some (.inr ())
theorem zh3 (r : List zac) (n n2 n3 : Int) (r2 : List zaa) (l : List Int) (r3 : List zac) (n4 : Int) (z_ : (Int) ⊕ (Unit)) (h : zaI r n n2 n3 r2 l r3 n4 = some z_) : zaP Tryz.prog cfg 63 0 (zax Tryz.prog 63 3) (zdN r n n2 n3 r2 l r3) (zcF r n n2 n3 r2 l r3) n4 z_ := by
 rcases zaj h with ⟨h1, h⟩ | ⟨h1, h⟩
 ·obtain ⟨h2, h⟩ := zaq h
  obtain ⟨⟨n5, n6⟩, h3, h⟩ := zaf h
  have h := zad h
  subst h
  have t_ := tT h1 <| tO h2 <| tE (.el [(.int .i64 n5), (.int .u64 n6)]) <| tO (zc0 (f := zac.pv) h3) <| tF (rfl : false = false) <| tF (rfl : false = false) <| tF (rfl : false = false) <| tN
  exact ⟨t_.ev, zdN r n n2 n3 r2 l r3 (iadd .i64 n4 1), .k0 t_.pf (by kernel_rfl), .same (by kernel_rfl)⟩
 ·have h := zad h
  subst h
  have t_ := tF h1 <| tN
  exact ⟨t_.ev, ⟨[(91, (.av (.one (.pv (.bool false))))), (1, (.av (.one (.ref 0 0)))), (6, (.av (.one (.pv (.bool false))))), (88, (.av (.one (.pv (.recs 2 (List.map zac.pv r) false))))), (89, (.av (.one (.pv (.int .i64 n))))), (90, (.av (.one (.pv (.int .i64 n4))))), (91, (.av (.one (.pv (.bool (decide ((n4 : Int) < n)))))))], [(0, [(.pv (.int .u64 n2)), (.pv (.int .u64 n3)), (.pv (.recs 5 (List.map zaa.pv r2) false)), (.pv (.ints .i64 l false)), (.pv (.recs 2 (List.map zac.pv r3) false))])], []⟩, .k0 t_.pf (by kernel_rfl), ⟨⟨⟨_, rfl, .eq rfl⟩, trivial⟩, ⟨⟨rfl, ⟨.eq rfl, .eq rfl, .eq rfl, .eq rfl, .eq rfl, trivial⟩⟩, trivial⟩, trivial⟩⟩
theorem zbK (r : List zac) (n n2 n3 : Int) (r2 : List zaa) (l : List Int) (r3 : List zac) (s_ : Int) (r_ : Unit) (h : runL (zaI r n n2 n3 r2 l r3) s_ = some r_) : zaT Tryz.prog (lEnv Tryz.prog cfg 63 0).nt 0 (.loop (zax Tryz.prog 63 3)) (zdN r n n2 n3 r2 l r3 s_) (zcF r n n2 n3 r2 l r3 r_).1 (zcF r n n2 n3 r2 l r3 r_).2 :=
 zaJ h (zh3 r n n2 n3 r2 l r3) (by intro r_; rcases r_ with _ <;> simp [zcF])
noncomputable def zdn (p p2 : Int) (p3 : List zaa) (p4 : List Int) (p5 : List zac) : Option (Bool) :=
 (runL (zaZ p3 (((List.map zaa.pv p3)).length : Int) p p2 p3 p4 p5) (0, [])).bind fun m_ =>
 bif (decide ((p : Int) < 12)) then
  bif (decide ((p2 : Int) < 4611686018427387904)) then
   bif (decide ((((List.map M_int_int.pv m_).length : Int) : Int) = (((List.map zaa.pv p3)).length : Int))) then
    (zcR p3).bind fun b =>
    bif b then
     (ze1 p4).bind fun b2 =>
     bif b2 then
      (zcS p5).bind fun b3 =>
      (runL (zbp p3 (((List.map zaa.pv p3)).length : Int) p p2 p3 p4 p5) (b3, 0)).bind fun b4 =>
      (runL (zbq p4 ((p4).length : Int) p p2 p3 p4 p5) (b4, 0)).bind fun b5 =>
      (runL (zbr p5 (((List.map zac.pv p5)).length : Int) p p2 p3 p4 p5) (b5, 0)).bind fun b6 =>
      some b6
     else
      (runL (zaG p3 (((List.map zaa.pv p3)).length : Int) p p2 p3 p4 p5) 0).bind fun _ =>
      (runL (zaH p4 ((p4).length : Int) p p2 p3 p4 p5) 0).bind fun _ =>
      (runL (zaI p5 (((List.map zac.pv p5)).length : Int) p p2 p3 p4 p5) 0).bind fun _ =>
      some false
    else
     (runL (zaG p3 (((List.map zaa.pv p3)).length : Int) p p2 p3 p4 p5) 0).bind fun _ =>
     (runL (zaH p4 ((p4).length : Int) p p2 p3 p4 p5) 0).bind fun _ =>
     (runL (zaI p5 (((List.map zac.pv p5)).length : Int) p p2 p3 p4 p5) 0).bind fun _ =>
     some false
   else
    (runL (zaG p3 (((List.map zaa.pv p3)).length : Int) p p2 p3 p4 p5) 0).bind fun _ =>
    (runL (zaH p4 ((p4).length : Int) p p2 p3 p4 p5) 0).bind fun _ =>
    (runL (zaI p5 (((List.map zac.pv p5)).length : Int) p p2 p3 p4 p5) 0).bind fun _ =>
    some false
  else
   (runL (zaG p3 (((List.map zaa.pv p3)).length : Int) p p2 p3 p4 p5) 0).bind fun _ =>
   (runL (zaH p4 ((p4).length : Int) p p2 p3 p4 p5) 0).bind fun _ =>
   (runL (zaI p5 (((List.map zac.pv p5)).length : Int) p p2 p3 p4 p5) 0).bind fun _ =>
   some false
 else
  (runL (zaG p3 (((List.map zaa.pv p3)).length : Int) p p2 p3 p4 p5) 0).bind fun _ =>
  (runL (zaH p4 ((p4).length : Int) p p2 p3 p4 p5) 0).bind fun _ =>
  (runL (zaI p5 (((List.map zac.pv p5)).length : Int) p p2 p3 p4 p5) 0).bind fun _ =>
  some false
theorem zjy (p p2 : Int) (p3 : List zaa) (p4 : List Int) (p5 : List zac) (r_ : Bool) (h : zdn p p2 p3 p4 p5 = some r_) : Runs Tryz.prog 63 [(.agg [(.pv (.int .u64 p)), (.pv (.int .u64 p2)), (.pv (.recs 5 (List.map zaa.pv p3) false)), (.pv (.ints .i64 p4 false)), (.pv (.recs 2 (List.map zac.pv p5) false))])] [] [] (zki p p2 p3 p4 p5 r_) := by
 unfold zdn at h
 obtain ⟨m_, h1, h⟩ := zaf h
 have q_1 := (zaT.coe (s0 := ⟨[(1, (.av (.one (.ref 0 0)))), (3, (.av (.one (.mp 1)))), (15, (.av (.one (.pv (.recs 5 (List.map zaa.pv p3) false))))), (16, (.av (.one (.pv (.int .i64 (((List.map zaa.pv p3)).length : Int)))))), (17, (.av (.one (.pv (.int .i64 0)))))], [(0, [(.pv (.int .u64 p)), (.pv (.int .u64 p2)), (.pv (.recs 5 (List.map zaa.pv p3) false)), (.pv (.ints .i64 p4 false)), (.pv (.recs 2 (List.map zac.pv p5) false))]), (1, [(.maph (.int .i64) false [] [])])], []⟩) (zhY p3 (((List.map zaa.pv p3)).length : Int) p p2 p3 p4 p5 _ _ h1) ⟨⟨⟨_, rfl, .eq rfl⟩, ⟨_, rfl, .eq rfl⟩, ⟨_, rfl, .eq rfl⟩, ⟨_, rfl, .eq rfl⟩, ⟨_, rfl, .eq rfl⟩, trivial⟩, ⟨⟨rfl, ⟨.eq rfl, .eq rfl, .eq rfl, .eq rfl, .eq rfl, trivial⟩⟩, ⟨rfl, ⟨.maph (WkEs.to (WkEs.refl _) (by first | rfl | (simp only [M_deed_Mark_int.set, M_int_int.set]; done) | (simp only [M_deed_Mark_int.set, M_int_int.set, kset, kdel]; rfl))), trivial⟩⟩, trivial⟩, trivial⟩)
 rcases zaj h with ⟨h2, h⟩ | ⟨h2, h⟩
 ·rcases zaj h with ⟨h3, h⟩ | ⟨h3, h⟩
  ·rcases zaj h with ⟨h4, h⟩ | ⟨h4, h⟩
   ·obtain ⟨b, h5, h⟩ := zaf h
    rcases zaj h with ⟨h6, h⟩ | ⟨h6, h⟩
    ·obtain ⟨b2, h7, h⟩ := zaf h
     rcases zaj h with ⟨h8, h⟩ | ⟨h8, h⟩
     ·obtain ⟨b3, h9, h⟩ := zaf h
      obtain ⟨b4, h10, h⟩ := zaf h
      obtain ⟨b5, h11, h⟩ := zaf h
      obtain ⟨b6, h12, h⟩ := zaf h
      have h := zad h
      subst h
      have t_ := tL q_1 <| tT h2 <| tT h3 <| tT h4 <| tR (zdB p3 _ h5) <| tT h6 <| tR (zg4 p4 _ h7) <| tT h8 <| tR (zhG p5 _ h9) <| tL (zh0 p3 (((List.map zaa.pv p3)).length : Int) p p2 p3 p4 p5 _ _ h10) <| tL (zh2 p4 ((p4).length : Int) p p2 p3 p4 p5 _ _ h11) <| tL (zh4 p5 (((List.map zac.pv p5)).length : Int) p p2 p3 p4 p5 _ _ h12) <| tN
      exact zah (C := cfg) (sc := t_.ev) (.k0 t_.pf (by kernel_rfl))
     ·obtain ⟨_, h9, h⟩ := zaf h
      obtain ⟨_, h10, h⟩ := zaf h
      obtain ⟨_, h11, h⟩ := zaf h
      have h := zad h
      subst h
      have t_ := tL q_1 <| tT h2 <| tT h3 <| tT h4 <| tR (zdB p3 _ h5) <| tT h6 <| tR (zg4 p4 _ h7) <| tF h8 <| tL (zbI p3 (((List.map zaa.pv p3)).length : Int) p p2 p3 p4 p5 _ _ h9) <| tL (zbJ p4 ((p4).length : Int) p p2 p3 p4 p5 _ _ h10) <| tL (zbK p5 (((List.map zac.pv p5)).length : Int) p p2 p3 p4 p5 _ _ h11) <| tN
      exact zah (C := cfg) (sc := t_.ev) (.k0 t_.pf (by kernel_rfl))
    ·obtain ⟨_, h7, h⟩ := zaf h
     obtain ⟨_, h8, h⟩ := zaf h
     obtain ⟨_, h9, h⟩ := zaf h
     have h := zad h
     subst h
     have t_ := tL q_1 <| tT h2 <| tT h3 <| tT h4 <| tR (zdB p3 _ h5) <| tF h6 <| tF (rfl : false = false) <| tL (zbI p3 (((List.map zaa.pv p3)).length : Int) p p2 p3 p4 p5 _ _ h7) <| tL (zbJ p4 ((p4).length : Int) p p2 p3 p4 p5 _ _ h8) <| tL (zbK p5 (((List.map zac.pv p5)).length : Int) p p2 p3 p4 p5 _ _ h9) <| tN
     exact zah (C := cfg) (sc := t_.ev) (.k0 t_.pf (by kernel_rfl))
   ·obtain ⟨_, h5, h⟩ := zaf h
    obtain ⟨_, h6, h⟩ := zaf h
    obtain ⟨_, h7, h⟩ := zaf h
    have h := zad h
    subst h
    have t_ := tL q_1 <| tT h2 <| tT h3 <| tF h4 <| tF (rfl : false = false) <| tF (rfl : false = false) <| tL (zbI p3 (((List.map zaa.pv p3)).length : Int) p p2 p3 p4 p5 _ _ h5) <| tL (zbJ p4 ((p4).length : Int) p p2 p3 p4 p5 _ _ h6) <| tL (zbK p5 (((List.map zac.pv p5)).length : Int) p p2 p3 p4 p5 _ _ h7) <| tN
    exact zah (C := cfg) (sc := t_.ev) (.k0 t_.pf (by kernel_rfl))
  ·obtain ⟨_, h4, h⟩ := zaf h
   obtain ⟨_, h5, h⟩ := zaf h
   obtain ⟨_, h6, h⟩ := zaf h
   have h := zad h
   subst h
   have t_ := tL q_1 <| tT h2 <| tF h3 <| tF (rfl : false = false) <| tF (rfl : false = false) <| tF (rfl : false = false) <| tL (zbI p3 (((List.map zaa.pv p3)).length : Int) p p2 p3 p4 p5 _ _ h4) <| tL (zbJ p4 ((p4).length : Int) p p2 p3 p4 p5 _ _ h5) <| tL (zbK p5 (((List.map zac.pv p5)).length : Int) p p2 p3 p4 p5 _ _ h6) <| tN
   exact zah (C := cfg) (sc := t_.ev) (.k0 t_.pf (by kernel_rfl))
 ·obtain ⟨_, h3, h⟩ := zaf h
  obtain ⟨_, h4, h⟩ := zaf h
  obtain ⟨_, h5, h⟩ := zaf h
  have h := zad h
  subst h
  have t_ := tL q_1 <| tF h2 <| tF (rfl : false = false) <| tF (rfl : false = false) <| tF (rfl : false = false) <| tF (rfl : false = false) <| tL (zbI p3 (((List.map zaa.pv p3)).length : Int) p p2 p3 p4 p5 _ _ h3) <| tL (zbJ p4 ((p4).length : Int) p p2 p3 p4 p5 _ _ h4) <| tL (zbK p5 (((List.map zac.pv p5)).length : Int) p p2 p3 p4 p5 _ _ h5) <| tN
  exact zah (C := cfg) (sc := t_.ev) (.k0 t_.pf (by kernel_rfl))
def zjw (l : List Int) (n n2 n3 : Int) (r : List zaa) (l2 : List Int) (r2 : List zac) (n4 n5 : Int) (r3 : List zaa) : Int × List (Int × Int) → St
 | (n6, m) => ⟨[(5, (.av (.one (.ref 0 0)))), (7, (.av (.one (.ref 1 0)))), (52, (.av (.one (.pv (.ints .i64 l false))))), (53, (.av (.one (.pv (.int .i64 n))))), (54, (.av (.one (.pv (.int .i64 n6)))))], [(0, [(.pv (.int .u64 n2)), (.pv (.int .u64 n3)), (.pv (.recs 5 (List.map zaa.pv r) false)), (.pv (.ints .i64 l2 false)), (.pv (.recs 2 (List.map zac.pv r2) false))]), (1, [(.pv (.int .i64 n4)), (.pv (.int .u64 n5)), (.pv (.recs 5 (List.map zaa.pv r3) false)), (.mp 2), (.mp 3)]), (2, [(.maph (.int .i64) false (List.map M_int_int.pv m) [])]), (3, [(.maph (.st [.i64, .u64]) false (List.map M_deed_Mark_int.pv []) [])])], []⟩
def zfs (l : List Int) (n n2 n3 : Int) (r : List zaa) (l2 : List Int) (r2 : List zac) (n4 n5 : Int) (r3 : List zaa) : List (Int × Int) → Ex × St
 | r1 => ((.exit 0), ⟨[(5, (.av (.one (.ref 0 0)))), (7, (.av (.one (.ref 1 0))))], [(0, [(.pv (.int .u64 n2)), (.pv (.int .u64 n3)), (.pv (.recs 5 (List.map zaa.pv r) false)), (.pv (.ints .i64 l2 false)), (.pv (.recs 2 (List.map zac.pv r2) false))]), (1, [(.pv (.int .i64 n4)), (.pv (.int .u64 n5)), (.pv (.recs 5 (List.map zaa.pv r3) false)), (.mp 2), (.mp 3)]), (2, [(.maph (.int .i64) false (List.map M_int_int.pv r1) [])]), (3, [(.maph (.st [.i64, .u64]) false (List.map M_deed_Mark_int.pv []) [])])], []⟩)
noncomputable def zbz (l : List Int) (n n2 n3 : Int) (r : List zaa) (l2 : List Int) (r2 : List zac) (n4 n5 : Int) (r3 : List zaa) : Int × List (Int × Int) → Option ((Int × List (Int × Int)) ⊕ (List (Int × Int)))
 | (n6, m) =>
 bif (decide ((n6 : Int) < n)) then
  bif decide ((0 : Int) ≤ n6) && decide ((n6 : Int) < ((l).length : Int)) then
  match (mget (l.getD (n6).toNat 0) m) with
  | .some n7 =>
   some (.inl ((iadd .i64 n6 1), (mset (l.getD (n6).toNat 0) (iadd .i64 n7 1) m)))
  | .none =>
   some (.inl ((iadd .i64 n6 1), (mset (l.getD (n6).toNat 0) 1 m)))
  else none
 else
  some (.inr m)
theorem znx (l : List Int) (n n2 n3 : Int) (r : List zaa) (l2 : List Int) (r2 : List zac) (n4 n5 : Int) (r3 : List zaa) (s_ : Int × List (Int × Int)) (z_ : (Int × List (Int × Int)) ⊕ (List (Int × Int))) (h : zbz l n n2 n3 r l2 r2 n4 n5 r3 s_ = some z_) : zaP Tryz.prog cfg 28 0 (zax Tryz.prog 28 0) (zjw l n n2 n3 r l2 r2 n4 n5 r3) (zfs l n n2 n3 r l2 r2 n4 n5 r3) s_ z_ := by
 rcases s_ with ⟨n6, m⟩
 rcases zaj h with ⟨h1, h⟩ | ⟨h1, h⟩
 ·obtain ⟨h2, h⟩ := zaq h
  cases h3 : (mget (l.getD (n6).toNat 0) m) with
  | some n7 =>
   simp only [h3] at h
   have h := zad h
   subst h
   have t_ := tT h1 <| tO h2 <| tT (show kget [(.int .i64 (l.getD (n6).toNat 0))] (List.map M_int_int.pv m) = some [(.int .i64 n7)] from by first | (simp only [M_deed_Mark_int.set, M_int_int.set, M_deed_Mark_int.get, M_int_int.get, h3, Option.map_some, Option.map_none]; done) | (simp only [M_deed_Mark_int.set, M_int_int.set, M_deed_Mark_int.get, M_int_int.get, h3, Option.map_some, Option.map_none]; rfl) | (rw [← List.map_nil]; simp only [M_deed_Mark_int.set, M_int_int.set, M_deed_Mark_int.get, M_int_int.get, h3, Option.map_some, Option.map_none]; rfl)) <| tE (.el [(.int .i64 n7)]) <| tN
   exact ⟨t_.ev, ⟨[(5, (.av (.one (.ref 0 0)))), (7, (.av (.one (.ref 1 0)))), (52, (.av (.one (.pv (.ints .i64 l false))))), (53, (.av (.one (.pv (.int .i64 n))))), (54, (.av (.one (.pv (.int .i64 (iadd .i64 n6 1))))))], [(0, [(.pv (.int .u64 n2)), (.pv (.int .u64 n3)), (.pv (.recs 5 (List.map zaa.pv r) false)), (.pv (.ints .i64 l2 false)), (.pv (.recs 2 (List.map zac.pv r2) false))]), (1, [(.pv (.int .i64 n4)), (.pv (.int .u64 n5)), (.pv (.recs 5 (List.map zaa.pv r3) false)), (.mp 2), (.mp 3)]), (2, [(.maph (.int .i64) false (kset [(.int .i64 (l.getD (n6).toNat 0))] [(.int .i64 (iadd .i64 n7 1))] (List.map M_int_int.pv m)) [])]), (3, [(.maph (.st [.i64, .u64]) false (List.map M_deed_Mark_int.pv []) [])])], []⟩, .k0 t_.pf (by kernel_rfl), ⟨⟨⟨_, rfl, .eq rfl⟩, ⟨_, rfl, .eq rfl⟩, ⟨_, rfl, .eq rfl⟩, ⟨_, rfl, .eq rfl⟩, ⟨_, rfl, .eq rfl⟩, trivial⟩, ⟨⟨rfl, ⟨.eq rfl, .eq rfl, .eq rfl, .eq rfl, .eq rfl, trivial⟩⟩, ⟨rfl, ⟨.eq rfl, .eq rfl, .eq rfl, .eq rfl, .eq rfl, trivial⟩⟩, ⟨rfl, ⟨.maph (WkEs.to (WkEs.set (.cons (.eq rfl) (.nil)) (WkEs.refl _)) (by first | rfl | (simp only [M_deed_Mark_int.set, M_int_int.set]; done) | (simp only [M_deed_Mark_int.set, M_int_int.set, kset, kdel]; rfl))), trivial⟩⟩, ⟨rfl, ⟨.eq rfl, trivial⟩⟩, trivial⟩, trivial⟩⟩
  | none =>
   simp only [h3] at h
   have h := zad h
   subst h
   have t_ := tT h1 <| tO h2 <| tF (show kget [(.int .i64 (l.getD (n6).toNat 0))] (List.map M_int_int.pv m) = none from by first | (simp only [M_deed_Mark_int.set, M_int_int.set, M_deed_Mark_int.get, M_int_int.get, h3, Option.map_some, Option.map_none]; done) | (simp only [M_deed_Mark_int.set, M_int_int.set, M_deed_Mark_int.get, M_int_int.get, h3, Option.map_some, Option.map_none]; rfl) | (rw [← List.map_nil]; simp only [M_deed_Mark_int.set, M_int_int.set, M_deed_Mark_int.get, M_int_int.get, h3, Option.map_some, Option.map_none]; rfl)) <| tN
   exact ⟨t_.ev, ⟨[(5, (.av (.one (.ref 0 0)))), (7, (.av (.one (.ref 1 0)))), (52, (.av (.one (.pv (.ints .i64 l false))))), (53, (.av (.one (.pv (.int .i64 n))))), (54, (.av (.one (.pv (.int .i64 (iadd .i64 n6 1))))))], [(0, [(.pv (.int .u64 n2)), (.pv (.int .u64 n3)), (.pv (.recs 5 (List.map zaa.pv r) false)), (.pv (.ints .i64 l2 false)), (.pv (.recs 2 (List.map zac.pv r2) false))]), (1, [(.pv (.int .i64 n4)), (.pv (.int .u64 n5)), (.pv (.recs 5 (List.map zaa.pv r3) false)), (.mp 2), (.mp 3)]), (2, [(.maph (.int .i64) false (kset [(.int .i64 (l.getD (n6).toNat 0))] [(.int .i64 1)] (List.map M_int_int.pv m)) [])]), (3, [(.maph (.st [.i64, .u64]) false (List.map M_deed_Mark_int.pv []) [])])], []⟩, .k0 t_.pf (by kernel_rfl), ⟨⟨⟨_, rfl, .eq rfl⟩, ⟨_, rfl, .eq rfl⟩, ⟨_, rfl, .eq rfl⟩, ⟨_, rfl, .eq rfl⟩, ⟨_, rfl, .eq rfl⟩, trivial⟩, ⟨⟨rfl, ⟨.eq rfl, .eq rfl, .eq rfl, .eq rfl, .eq rfl, trivial⟩⟩, ⟨rfl, ⟨.eq rfl, .eq rfl, .eq rfl, .eq rfl, .eq rfl, trivial⟩⟩, ⟨rfl, ⟨.maph (WkEs.to (WkEs.set (.cons (.eq rfl) (.nil)) (WkEs.refl _)) (by first | rfl | (simp only [M_deed_Mark_int.set, M_int_int.set]; done) | (simp only [M_deed_Mark_int.set, M_int_int.set, kset, kdel]; rfl))), trivial⟩⟩, ⟨rfl, ⟨.eq rfl, trivial⟩⟩, trivial⟩, trivial⟩⟩
 ·have h := zad h
  subst h
  have t_ := tF h1 <| tN
  exact ⟨t_.ev, ⟨[(55, (.av (.one (.pv (.bool false))))), (5, (.av (.one (.ref 0 0)))), (7, (.av (.one (.ref 1 0)))), (52, (.av (.one (.pv (.ints .i64 l false))))), (53, (.av (.one (.pv (.int .i64 n))))), (54, (.av (.one (.pv (.int .i64 n6))))), (55, (.av (.one (.pv (.bool (decide ((n6 : Int) < n)))))))], [(0, [(.pv (.int .u64 n2)), (.pv (.int .u64 n3)), (.pv (.recs 5 (List.map zaa.pv r) false)), (.pv (.ints .i64 l2 false)), (.pv (.recs 2 (List.map zac.pv r2) false))]), (1, [(.pv (.int .i64 n4)), (.pv (.int .u64 n5)), (.pv (.recs 5 (List.map zaa.pv r3) false)), (.mp 2), (.mp 3)]), (2, [(.maph (.int .i64) false (List.map M_int_int.pv m) [])]), (3, [(.maph (.st [.i64, .u64]) false (List.map M_deed_Mark_int.pv []) [])])], []⟩, .k0 t_.pf (by kernel_rfl), ⟨⟨⟨_, rfl, .eq rfl⟩, ⟨_, rfl, .eq rfl⟩, trivial⟩, ⟨⟨rfl, ⟨.eq rfl, .eq rfl, .eq rfl, .eq rfl, .eq rfl, trivial⟩⟩, ⟨rfl, ⟨.eq rfl, .eq rfl, .eq rfl, .eq rfl, .eq rfl, trivial⟩⟩, ⟨rfl, ⟨.eq rfl, trivial⟩⟩, ⟨rfl, ⟨.eq rfl, trivial⟩⟩, trivial⟩, trivial⟩⟩
theorem zlV (l : List Int) (n n2 n3 : Int) (r : List zaa) (l2 : List Int) (r2 : List zac) (n4 n5 : Int) (r3 : List zaa) (s_ : Int × List (Int × Int)) (r_ : List (Int × Int)) (h : runL (zbz l n n2 n3 r l2 r2 n4 n5 r3) s_ = some r_) : zaT Tryz.prog (lEnv Tryz.prog cfg 28 0).nt 0 (.loop (zax Tryz.prog 28 0)) (zjw l n n2 n3 r l2 r2 n4 n5 r3 s_) (zfs l n n2 n3 r l2 r2 n4 n5 r3 r_).1 (zfs l n n2 n3 r l2 r2 n4 n5 r3 r_).2 :=
 zaJ h (znx l n n2 n3 r l2 r2 n4 n5 r3) (by intro r_; rcases r_ with r1 <;> simp [zfs])
def zjx (r : List zac) (n n2 n3 : Int) (r2 : List zaa) (m : List (Int × Int)) : Int × List ((Int × Int) × Int) → St
 | (n4, m2) => ⟨[(7, (.av (.one (.ref 0 0)))), (67, (.av (.one (.pv (.recs 2 (List.map zac.pv r) false))))), (68, (.av (.one (.pv (.int .i64 n))))), (69, (.av (.one (.pv (.int .i64 n4)))))], [(0, [(.pv (.int .i64 n2)), (.pv (.int .u64 n3)), (.pv (.recs 5 (List.map zaa.pv r2) false)), (.mp 1), (.mp 2)]), (1, [(.maph (.int .i64) false (List.map M_int_int.pv m) [])]), (2, [(.maph (.st [.i64, .u64]) false (List.map M_deed_Mark_int.pv m2) [])])], []⟩
def zft (r : List zac) (n n2 n3 : Int) (r2 : List zaa) (m : List (Int × Int)) : List ((Int × Int) × Int) → Ex × St
 | r1 => ((.exit 2), ⟨[(7, (.av (.one (.ref 0 0))))], [(0, [(.pv (.int .i64 n2)), (.pv (.int .u64 n3)), (.pv (.recs 5 (List.map zaa.pv r2) false)), (.mp 1), (.mp 2)]), (1, [(.maph (.int .i64) false (List.map M_int_int.pv m) [])]), (2, [(.maph (.st [.i64, .u64]) false (List.map M_deed_Mark_int.pv r1) [])])], []⟩)
noncomputable def zbA (r : List zac) (n n2 n3 : Int) (r2 : List zaa) (m : List (Int × Int)) : Int × List ((Int × Int) × Int) → Option ((Int × List ((Int × Int) × Int)) ⊕ (List ((Int × Int) × Int)))
 | (n4, m2) =>
 bif (decide ((n4 : Int) < n)) then
  bif decide ((0 : Int) ≤ n4) && decide ((n4 : Int) < (((List.map zac.pv r)).length : Int)) then
  (r[(n4).toNat]?).bind fun e_ => match e_ with
  | .mk n5 n6 =>
  match (mget (n5, n6) m2) with
  | .some n7 =>
   some (.inl ((iadd .i64 n4 1), (mset (n5, n6) (iadd .i64 n7 1) (mset (n5, n6) n7 m2))))
  | .none =>
   some (.inl ((iadd .i64 n4 1), (mset (n5, n6) 1 (mset (n5, n6) 0 m2))))
  else none
 else
  some (.inr m2)
theorem zny (r : List zac) (n n2 n3 : Int) (r2 : List zaa) (m : List (Int × Int)) (s_ : Int × List ((Int × Int) × Int)) (z_ : (Int × List ((Int × Int) × Int)) ⊕ (List ((Int × Int) × Int))) (h : zbA r n n2 n3 r2 m s_ = some z_) : zaP Tryz.prog cfg 28 0 (zax Tryz.prog 28 1) (zjx r n n2 n3 r2 m) (zft r n n2 n3 r2 m) s_ z_ := by
 rcases s_ with ⟨n4, m2⟩
 rcases zaj h with ⟨h1, h⟩ | ⟨h1, h⟩
 ·obtain ⟨h2, h⟩ := zaq h
  obtain ⟨⟨n5, n6⟩, h3, h⟩ := zaf h
  cases h4 : (mget (n5, n6) m2) with
  | some n7 =>
   simp only [h4] at h
   have h := zad h
   subst h
   have t_ := tT h1 <| tO h2 <| tE (.el [(.int .i64 n5), (.int .u64 n6)]) <| tO (zc0 (f := zac.pv) h3) <| tT (show kget [(.int .i64 n5), (.int .u64 n6)] (List.map M_deed_Mark_int.pv m2) = some [(.int .i64 n7)] from by first | (simp only [M_deed_Mark_int.set, M_int_int.set, M_deed_Mark_int.get, M_int_int.get, h4, Option.map_some, Option.map_none]; done) | (simp only [M_deed_Mark_int.set, M_int_int.set, M_deed_Mark_int.get, M_int_int.get, h4, Option.map_some, Option.map_none]; rfl) | (rw [← List.map_nil]; simp only [M_deed_Mark_int.set, M_int_int.set, M_deed_Mark_int.get, M_int_int.get, h4, Option.map_some, Option.map_none]; rfl)) <| tE (.el [(.int .i64 n7)]) <| tT (show kget [(.int .i64 n5), (.int .u64 n6)] (List.map M_deed_Mark_int.pv m2) = some [(.int .i64 n7)] from by first | (simp only [M_deed_Mark_int.set, M_int_int.set, M_deed_Mark_int.get, M_int_int.get, h4, Option.map_some, Option.map_none]; done) | (simp only [M_deed_Mark_int.set, M_int_int.set, M_deed_Mark_int.get, M_int_int.get, h4, Option.map_some, Option.map_none]; rfl) | (rw [← List.map_nil]; simp only [M_deed_Mark_int.set, M_int_int.set, M_deed_Mark_int.get, M_int_int.get, h4, Option.map_some, Option.map_none]; rfl)) <| tE (.el [(.int .i64 n7)]) <| tT (show kget [(.int .i64 n5), (.int .u64 n6)] (List.map M_deed_Mark_int.pv m2) = some [(.int .i64 n7)] from by first | (simp only [M_deed_Mark_int.set, M_int_int.set, M_deed_Mark_int.get, M_int_int.get, h4, Option.map_some, Option.map_none]; done) | (simp only [M_deed_Mark_int.set, M_int_int.set, M_deed_Mark_int.get, M_int_int.get, h4, Option.map_some, Option.map_none]; rfl) | (rw [← List.map_nil]; simp only [M_deed_Mark_int.set, M_int_int.set, M_deed_Mark_int.get, M_int_int.get, h4, Option.map_some, Option.map_none]; rfl)) <| tE (.el [(.int .i64 n7)]) <| tT (show kget [(.int .i64 n5), (.int .u64 n6)] (kset [(.int .i64 n5), (.int .u64 n6)] [(.int .i64 n7)] (List.map M_deed_Mark_int.pv m2)) = some [(.int .i64 n7)] from by exact znS (by simp [keq]) _ _) <| tE (.el [(.int .i64 n7)]) <| tN
   exact ⟨t_.ev, ⟨[(7, (.av (.one (.ref 0 0)))), (67, (.av (.one (.pv (.recs 2 (List.map zac.pv r) false))))), (68, (.av (.one (.pv (.int .i64 n))))), (69, (.av (.one (.pv (.int .i64 (iadd .i64 n4 1))))))], [(0, [(.pv (.int .i64 n2)), (.pv (.int .u64 n3)), (.pv (.recs 5 (List.map zaa.pv r2) false)), (.mp 1), (.mp 2)]), (1, [(.maph (.int .i64) false (List.map M_int_int.pv m) [])]), (2, [(.maph (.st [.i64, .u64]) false (kset [(.int .i64 n5), (.int .u64 n6)] [(.int .i64 (iadd .i64 n7 1))] (kset [(.int .i64 n5), (.int .u64 n6)] [(.int .i64 n7)] (List.map M_deed_Mark_int.pv m2))) [])])], []⟩, .k1 t_.pf (by kernel_rfl) (by kernel_rfl), ⟨⟨⟨_, rfl, .eq rfl⟩, ⟨_, rfl, .eq rfl⟩, ⟨_, rfl, .eq rfl⟩, ⟨_, rfl, .eq rfl⟩, trivial⟩, ⟨⟨rfl, ⟨.eq rfl, .eq rfl, .eq rfl, .eq rfl, .eq rfl, trivial⟩⟩, ⟨rfl, ⟨.eq rfl, trivial⟩⟩, ⟨rfl, ⟨.maph (WkEs.to (WkEs.set (.cons (.eq rfl) (.nil)) (WkEs.set (.cons (.eq rfl) (.nil)) (WkEs.refl _))) (by first | rfl | (simp only [M_deed_Mark_int.set, M_int_int.set]; done) | (simp only [M_deed_Mark_int.set, M_int_int.set, kset, kdel]; rfl))), trivial⟩⟩, trivial⟩, trivial⟩⟩
  | none =>
   simp only [h4] at h
   have h := zad h
   subst h
   have t_ := tT h1 <| tO h2 <| tE (.el [(.int .i64 n5), (.int .u64 n6)]) <| tO (zc0 (f := zac.pv) h3) <| tF (show kget [(.int .i64 n5), (.int .u64 n6)] (List.map M_deed_Mark_int.pv m2) = none from by first | (simp only [M_deed_Mark_int.set, M_int_int.set, M_deed_Mark_int.get, M_int_int.get, h4, Option.map_some, Option.map_none]; done) | (simp only [M_deed_Mark_int.set, M_int_int.set, M_deed_Mark_int.get, M_int_int.get, h4, Option.map_some, Option.map_none]; rfl) | (rw [← List.map_nil]; simp only [M_deed_Mark_int.set, M_int_int.set, M_deed_Mark_int.get, M_int_int.get, h4, Option.map_some, Option.map_none]; rfl)) <| tF (show kget [(.int .i64 n5), (.int .u64 n6)] (List.map M_deed_Mark_int.pv m2) = none from by first | (simp only [M_deed_Mark_int.set, M_int_int.set, M_deed_Mark_int.get, M_int_int.get, h4, Option.map_some, Option.map_none]; done) | (simp only [M_deed_Mark_int.set, M_int_int.set, M_deed_Mark_int.get, M_int_int.get, h4, Option.map_some, Option.map_none]; rfl) | (rw [← List.map_nil]; simp only [M_deed_Mark_int.set, M_int_int.set, M_deed_Mark_int.get, M_int_int.get, h4, Option.map_some, Option.map_none]; rfl)) <| tF (show kget [(.int .i64 n5), (.int .u64 n6)] (List.map M_deed_Mark_int.pv m2) = none from by first | (simp only [M_deed_Mark_int.set, M_int_int.set, M_deed_Mark_int.get, M_int_int.get, h4, Option.map_some, Option.map_none]; done) | (simp only [M_deed_Mark_int.set, M_int_int.set, M_deed_Mark_int.get, M_int_int.get, h4, Option.map_some, Option.map_none]; rfl) | (rw [← List.map_nil]; simp only [M_deed_Mark_int.set, M_int_int.set, M_deed_Mark_int.get, M_int_int.get, h4, Option.map_some, Option.map_none]; rfl)) <| tT (show kget [(.int .i64 n5), (.int .u64 n6)] (kset [(.int .i64 n5), (.int .u64 n6)] [(.int .i64 0)] (List.map M_deed_Mark_int.pv m2)) = some [(.int .i64 0)] from by exact znS (by simp [keq]) _ _) <| tE (.el [(.int .i64 0)]) <| tN
   exact ⟨t_.ev, ⟨[(7, (.av (.one (.ref 0 0)))), (67, (.av (.one (.pv (.recs 2 (List.map zac.pv r) false))))), (68, (.av (.one (.pv (.int .i64 n))))), (69, (.av (.one (.pv (.int .i64 (iadd .i64 n4 1))))))], [(0, [(.pv (.int .i64 n2)), (.pv (.int .u64 n3)), (.pv (.recs 5 (List.map zaa.pv r2) false)), (.mp 1), (.mp 2)]), (1, [(.maph (.int .i64) false (List.map M_int_int.pv m) [])]), (2, [(.maph (.st [.i64, .u64]) false (kset [(.int .i64 n5), (.int .u64 n6)] [(.int .i64 1)] (kset [(.int .i64 n5), (.int .u64 n6)] [(.int .i64 0)] (List.map M_deed_Mark_int.pv m2))) [])])], []⟩, .k1 t_.pf (by kernel_rfl) (by kernel_rfl), ⟨⟨⟨_, rfl, .eq rfl⟩, ⟨_, rfl, .eq rfl⟩, ⟨_, rfl, .eq rfl⟩, ⟨_, rfl, .eq rfl⟩, trivial⟩, ⟨⟨rfl, ⟨.eq rfl, .eq rfl, .eq rfl, .eq rfl, .eq rfl, trivial⟩⟩, ⟨rfl, ⟨.eq rfl, trivial⟩⟩, ⟨rfl, ⟨.maph (WkEs.to (WkEs.set (.cons (.eq rfl) (.nil)) (WkEs.set (.cons (.eq rfl) (.nil)) (WkEs.refl _))) (by first | rfl | (simp only [M_deed_Mark_int.set, M_int_int.set]; done) | (simp only [M_deed_Mark_int.set, M_int_int.set, kset, kdel]; rfl))), trivial⟩⟩, trivial⟩, trivial⟩⟩
 ·have h := zad h
  subst h
  have t_ := tF h1 <| tN
  exact ⟨t_.ev, ⟨[(70, (.av (.one (.pv (.bool false))))), (7, (.av (.one (.ref 0 0)))), (67, (.av (.one (.pv (.recs 2 (List.map zac.pv r) false))))), (68, (.av (.one (.pv (.int .i64 n))))), (69, (.av (.one (.pv (.int .i64 n4))))), (70, (.av (.one (.pv (.bool (decide ((n4 : Int) < n)))))))], [(0, [(.pv (.int .i64 n2)), (.pv (.int .u64 n3)), (.pv (.recs 5 (List.map zaa.pv r2) false)), (.mp 1), (.mp 2)]), (1, [(.maph (.int .i64) false (List.map M_int_int.pv m) [])]), (2, [(.maph (.st [.i64, .u64]) false (List.map M_deed_Mark_int.pv m2) [])])], []⟩, .k0 t_.pf (by kernel_rfl), ⟨⟨⟨_, rfl, .eq rfl⟩, trivial⟩, ⟨⟨rfl, ⟨.eq rfl, .eq rfl, .eq rfl, .eq rfl, .eq rfl, trivial⟩⟩, ⟨rfl, ⟨.eq rfl, trivial⟩⟩, ⟨rfl, ⟨.eq rfl, trivial⟩⟩, trivial⟩, trivial⟩⟩
theorem zlW (r : List zac) (n n2 n3 : Int) (r2 : List zaa) (m : List (Int × Int)) (s_ : Int × List ((Int × Int) × Int)) (r_ : List ((Int × Int) × Int)) (h : runL (zbA r n n2 n3 r2 m) s_ = some r_) : zaT Tryz.prog (lEnv Tryz.prog cfg 28 0).nt 0 (.loop (zax Tryz.prog 28 1)) (zjx r n n2 n3 r2 m s_) (zft r n n2 n3 r2 m r_).1 (zft r n n2 n3 r2 m r_).2 :=
 zaJ h (zny r n n2 n3 r2 m) (by intro r_; rcases r_ with r1 <;> simp [zft])
noncomputable def zg2 (N : Nat) (b : List Int) : Option ((Int × Int × List zaa × List (Int × Int) × List ((Int × Int) × Int)) ⊕ (Int)) :=
 (zoQ b).bind fun _ =>
 (zdY b 0).bind fun (n, l_, n2) =>
 (zcw l_ n2).bind fun (n3, l_2, n4) =>
 (zh7 N l_2 n4 (IntKind.u64.wrap n) n3).bind fun (l_3, n5, r) =>
 (zgw l_3 n5 (IntKind.u64.wrap n) n3 r [] []).bind fun (l_4, n6, l_5) =>
 (zgx l_4 n6 (IntKind.u64.wrap n) n3 r l_5 []).bind fun (l_6, n7, r2) =>
 (zhm l_6 n7).bind fun (n8, n9) =>
 bif (decide ((n8 : Int) = 0)) then
  (zdn (IntKind.u64.wrap n) n3 (List.take ((List.map zaa.pv r)).length r) l_5 (List.take ((List.map zac.pv r2)).length r2)).bind fun b2 =>
  bif b2 then
   (zjV (IntKind.i64.wrap (IntKind.u64.wrap n))).bind fun _ =>
   (runL (zbz l_5 (((List.take (l_5).length l_5)).length : Int) (IntKind.u64.wrap n) n3 (List.take ((List.map zaa.pv r)).length r) l_5 (List.take ((List.map zac.pv r2)).length r2) (IntKind.i64.wrap (IntKind.u64.wrap n)) n3 (List.take ((List.map zaa.pv r)).length r)) (0, [])).bind fun m_ =>
   (runL (zbA (List.take ((List.map zac.pv r2)).length r2) (((List.map zac.pv (List.take ((List.map zac.pv r2)).length r2))).length : Int) (IntKind.i64.wrap (IntKind.u64.wrap n)) n3 (List.take ((List.map zaa.pv r)).length r) m_) (0, [])).bind fun m_2 =>
   some (.inl ((IntKind.i64.wrap (IntKind.u64.wrap n)), n3, (List.take ((List.map zaa.pv r)).length r), m_, m_2))
  else
   some (.inr 6)
 else
  some (.inr n8)
theorem zkq (N : Nat) (b : List Int) (r_ : (Int × Int × List zaa × List (Int × Int) × List ((Int × Int) × Int)) ⊕ (Int)) (h : zg2 N b = some r_) : Runs Tryz.prog 28 [(.one (.pv (.ints .u8 b false)))] [] [] (zpU b r_) := by
 unfold zg2 at h
 obtain ⟨_, h1, h⟩ := zaf h
 obtain ⟨⟨n, l_, n2⟩, h2, h⟩ := zaf h
 obtain ⟨⟨n3, l_2, n4⟩, h3, h⟩ := zaf h
 obtain ⟨⟨l_3, n5, r⟩, h4, h⟩ := zaf h
 have q_4 := (znA N l_2 n4 (IntKind.u64.wrap n) n3 _ h4)
 obtain ⟨⟨l_4, n6, l_5⟩, h5, h⟩ := zaf h
 have q_5 := (Runs.coe (as' := [(.one (.ref 0 0)), (.one (.fn 60 [(.ref 1 0), (.ref 2 0)]))]) (objs' := [[(.pv (.ints .u8 l_3 false)), (.pv (.int .i64 n5))], [(.pv (.int .u64 (IntKind.u64.wrap n))), (.pv (.int .u64 n3)), (.own 0 0 ((List.map zaa.pv r)).length false), (.own 1 0 0 false), (.own 2 0 ((List.map zac.pv [])).length false)], [(.ref 0 0)]]) (rows' := [(.recs 5 (List.map zaa.pv r)), (.ints .i64 []), (.recs 2 (List.map zac.pv []))]) (zlX l_3 n5 (IntKind.u64.wrap n) n3 r [] [] _ h5) ⟨.eq rfl, .eq rfl, trivial⟩ ⟨⟨.eq rfl, .eq rfl, trivial⟩, ⟨.eq rfl, .eq rfl, .eq rfl, .own (by first | rfl | (simp only [List.take_length]; done) | (simp; done) | (simp only [List.map_take, List.map_drop, List.map_append, List.take_length, List.nil_append]; done) | (simp only [List.length_map, List.take_length, List.length_append, List.drop_zero, List.map_append, List.map_take, List.map_drop, List.map_replicate, List.map_cons, List.map_nil, List.append_nil, List.nil_append]; done)), .eq rfl, trivial⟩, ⟨.eq rfl, trivial⟩, trivial⟩ ⟨.eq rfl, .eq rfl, .eq rfl, trivial⟩)
 obtain ⟨⟨l_6, n7, r2⟩, h6, h⟩ := zaf h
 have q_6 := (zlY l_4 n6 (IntKind.u64.wrap n) n3 r l_5 [] _ h6)
 obtain ⟨⟨n8, n9⟩, h7, h⟩ := zaf h
 rcases zaj h with ⟨h8, h⟩ | ⟨h8, h⟩
 ·obtain ⟨b2, h9, h⟩ := zaf h
  have q_9 := (Runs.coe (as' := [(.agg [(.pv (.int .u64 (IntKind.u64.wrap n))), (.pv (.int .u64 n3)), (.pv (.recs 5 (List.take ((List.map zaa.pv r)).length (List.map zaa.pv r)) false)), (.pv (.ints .i64 (List.take (l_5).length l_5) false)), (.pv (.recs 2 (List.take ((List.map zac.pv r2)).length (List.map zac.pv r2)) false))])]) (objs' := []) (rows' := []) (zjy (IntKind.u64.wrap n) n3 (List.take ((List.map zaa.pv r)).length r) l_5 (List.take ((List.map zac.pv r2)).length r2) _ h9) ⟨⟨.eq rfl, .eq rfl, .pv (.recsT (.eq (by first | rfl | (simp only [List.take_length]; done) | (simp; done) | (simp only [List.map_take, List.map_drop, List.map_append, List.take_length, List.nil_append]; done) | (simp only [List.length_map, List.take_length, List.length_append, List.drop_zero, List.map_append, List.map_take, List.map_drop, List.map_replicate, List.map_cons, List.map_nil, List.append_nil, List.nil_append]; done)))), .pv (.ints (by first | rfl | (simp only [List.take_length]; done) | (simp; done) | (simp only [List.map_take, List.map_drop, List.map_append, List.take_length, List.nil_append]; done) | (simp only [List.length_map, List.take_length, List.length_append, List.drop_zero, List.map_append, List.map_take, List.map_drop, List.map_replicate, List.map_cons, List.map_nil, List.append_nil, List.nil_append]; done))), .pv (.recsT (.eq (by first | rfl | (simp only [List.take_length]; done) | (simp; done) | (simp only [List.map_take, List.map_drop, List.map_append, List.take_length, List.nil_append]; done) | (simp only [List.length_map, List.take_length, List.length_append, List.drop_zero, List.map_append, List.map_take, List.map_drop, List.map_replicate, List.map_cons, List.map_nil, List.append_nil, List.nil_append]; done)))), trivial⟩, trivial⟩ trivial trivial)
  have p9_ := fun {sc_ : List Ev} {Q_ : Prop} (t_ : Tell sc_ Q_) => tR (zmF b _ h1) <| tR (zaB b 0 _ h2) <| tR (zaB b 0 _ h2) <| tR (zaB b 0 _ h2) <| tR (zaB b 0 _ h2) <| tR (zau l_ n2 _ h3) <| tR (zau l_ n2 _ h3) <| tR q_4 <| tR q_5 <| tR q_6 <| tR (zi1 l_6 n7 _ h7) <| tF (zan h8) <| tR q_9 <| t_
  rcases zaj h with ⟨h10, h⟩ | ⟨h10, h⟩
  ·obtain ⟨_, h11, h⟩ := zaf h
   obtain ⟨m_, h12, h⟩ := zaf h
   obtain ⟨m_2, h13, h⟩ := zaf h
   have h := zad h
   subst h
   have t_ := p9_ <| tF (zan h10) <| tR (zdX (IntKind.i64.wrap (IntKind.u64.wrap n)) _ h11) <| tL (zaT.coe (s0 := ⟨[(5, (.av (.one (.ref 0 0)))), (7, (.av (.one (.ref 1 0)))), (52, (.av (.one (.pv (.ints .i64 (List.take (l_5).length l_5) false))))), (53, (.av (.one (.pv (.int .i64 (((List.take (l_5).length l_5)).length : Int)))))), (54, (.av (.one (.pv (.int .i64 0)))))], [(0, [(.pv (.int .u64 (IntKind.u64.wrap n))), (.pv (.int .u64 n3)), (.pv (.recs 5 (List.take ((List.map zaa.pv r)).length (List.map zaa.pv r)) false)), (.pv (.ints .i64 (List.take (l_5).length l_5) false)), (.pv (.recs 2 (List.take ((List.map zac.pv r2)).length (List.map zac.pv r2)) false))]), (1, [(.pv (.int .i64 (IntKind.i64.wrap (IntKind.u64.wrap n)))), (.pv (.int .u64 n3)), (.pv (.recs 5 (List.take ((List.map zaa.pv r)).length (List.map zaa.pv r)) false)), (.mp 2), (.mp 3)]), (2, [(.maph (.int .i64) false (List.map M_int_int.pv []) [])]), (3, [(.maph (.st [.i64, .u64]) false (List.map M_deed_Mark_int.pv []) [])])], []⟩) (zlV l_5 (((List.take (l_5).length l_5)).length : Int) (IntKind.u64.wrap n) n3 (List.take ((List.map zaa.pv r)).length r) l_5 (List.take ((List.map zac.pv r2)).length r2) (IntKind.i64.wrap (IntKind.u64.wrap n)) n3 (List.take ((List.map zaa.pv r)).length r) _ _ h12) ⟨⟨⟨_, rfl, .eq rfl⟩, ⟨_, rfl, .eq rfl⟩, ⟨_, rfl, .pv (.ints (by first | rfl | (simp only [List.take_length]; done) | (simp; done) | (simp only [List.map_take, List.map_drop, List.map_append, List.take_length, List.nil_append]; done) | (simp only [List.length_map, List.take_length, List.length_append, List.drop_zero, List.map_append, List.map_take, List.map_drop, List.map_replicate, List.map_cons, List.map_nil, List.append_nil, List.nil_append]; done)))⟩, ⟨_, rfl, .eq rfl⟩, ⟨_, rfl, .eq rfl⟩, trivial⟩, ⟨⟨rfl, ⟨.eq rfl, .eq rfl, .pv (.recsT (.eq (by first | rfl | (simp only [List.take_length]; done) | (simp; done) | (simp only [List.map_take, List.map_drop, List.map_append, List.take_length, List.nil_append]; done) | (simp only [List.length_map, List.take_length, List.length_append, List.drop_zero, List.map_append, List.map_take, List.map_drop, List.map_replicate, List.map_cons, List.map_nil, List.append_nil, List.nil_append]; done)))), .pv (.ints (by first | rfl | (simp only [List.take_length]; done) | (simp; done) | (simp only [List.map_take, List.map_drop, List.map_append, List.take_length, List.nil_append]; done) | (simp only [List.length_map, List.take_length, List.length_append, List.drop_zero, List.map_append, List.map_take, List.map_drop, List.map_replicate, List.map_cons, List.map_nil, List.append_nil, List.nil_append]; done))), .pv (.recsT (.eq (by first | rfl | (simp only [List.take_length]; done) | (simp; done) | (simp only [List.map_take, List.map_drop, List.map_append, List.take_length, List.nil_append]; done) | (simp only [List.length_map, List.take_length, List.length_append, List.drop_zero, List.map_append, List.map_take, List.map_drop, List.map_replicate, List.map_cons, List.map_nil, List.append_nil, List.nil_append]; done)))), trivial⟩⟩, ⟨rfl, ⟨.eq rfl, .eq rfl, .pv (.recsT (.eq (by first | rfl | (simp only [List.take_length]; done) | (simp; done) | (simp only [List.map_take, List.map_drop, List.map_append, List.take_length, List.nil_append]; done) | (simp only [List.length_map, List.take_length, List.length_append, List.drop_zero, List.map_append, List.map_take, List.map_drop, List.map_replicate, List.map_cons, List.map_nil, List.append_nil, List.nil_append]; done)))), .eq rfl, .eq rfl, trivial⟩⟩, ⟨rfl, ⟨.eq rfl, trivial⟩⟩, ⟨rfl, ⟨.eq rfl, trivial⟩⟩, trivial⟩, trivial⟩) <| tL (zlW (List.take ((List.map zac.pv r2)).length r2) (((List.map zac.pv (List.take ((List.map zac.pv r2)).length r2))).length : Int) (IntKind.i64.wrap (IntKind.u64.wrap n)) n3 (List.take ((List.map zaa.pv r)).length r) m_ _ _ h13) <| tN
   exact zah (C := cfg) (sc := t_.ev) (.k1 t_.pf (by kernel_rfl) (by kernel_rfl))
  ·have h := zad h
   subst h
   have t_ := p9_ <| tT (za7 h10) <| tN
   exact zah (C := cfg) (sc := t_.ev) (.k1 t_.pf (by kernel_rfl) (by kernel_rfl))
 ·have h := zad h
  subst h
  have t_ := tR (zmF b _ h1) <| tR (zaB b 0 _ h2) <| tR (zaB b 0 _ h2) <| tR (zaB b 0 _ h2) <| tR (zaB b 0 _ h2) <| tR (zau l_ n2 _ h3) <| tR (zau l_ n2 _ h3) <| tR q_4 <| tR q_5 <| tR q_6 <| tR (zi1 l_6 n7 _ h7) <| tT (za7 h8) <| tN
  exact zah (C := cfg) (sc := t_.ev) (.k1 t_.pf (by kernel_rfl) (by kernel_rfl))
def zqd (p : List Int) : (Int × Int × List zae × List Int × List zag) ⊕ (Int) → Res
 | .inl (r1, r2, r3, r4, r5) => ([(.one (.ref 0 0)), (.one (.pv (.int .i64 0)))], [[(.pv (.int .i64 r1)), (.pv (.int .u64 r2)), (.pv (.recs 4 (List.map zae.pv r3) false)), (.pv (.ints .i64 r4 false)), (.pv (.recs 2 (List.map zag.pv r5) false))]], [])
 | .inr r1 => ([(.one (.pv .nilp)), (.one (.pv (.int .i64 r1)))], [], [])
def zn7 (l : List Int) (n n2 : Int) : Int × Int × Int → Res
 | (r1, r2, r3) => ([(.one (.pv (.int .i64 r1)))], [[(.pv (.ints .u8 l false)), (.pv (.int .i64 r2)), (.pv (.int .i64 r3))]], [])
def znV (l : List Int) (n n2 : Int) : Int × Int × Int → Res
 | (r1, r2, r3) => ([(.one (.pv (.int .u64 r1)))], [[(.pv (.ints .u8 l false)), (.pv (.int .i64 r2)), (.pv (.int .i64 r3))]], [])
def znX (p : List Int) (at_ : Int) : Int × Int → Res
 | (r1, r2) => ([(.one (.pv (.int .u64 r1))), (.one (.pv (.int .i64 r2)))], [], [])
def zf3 (p : List Int) (at_ : Int) : Int → St
 | k => ⟨[(0, (.av (.one (.pv (.ints .u8 p false))))), (1, (.av (.one (.pv (.int .i64 at_))))), (6, (.av (.one (.pv (.int .i64 k)))))], [], []⟩
def zeO (p : List Int) (at_ : Int) : Int → Ex × St
 | r1 => ((.exit 0), ⟨[(0, (.av (.one (.pv (.ints .u8 p false))))), (1, (.av (.one (.pv (.int .i64 at_))))), (6, (.av (.one (.pv (.int .i64 r1)))))], [], []⟩)
noncomputable def zbu (p : List Int) (at_ : Int) : Int → Option ((Int) ⊕ (Int))
 | k =>
 bif (decide ((k : Int) < ((p).length : Int))) then
  bif (decide ((k : Int) < (iadd .i64 at_ 9))) then
   bif decide ((0 : Int) ≤ k) && decide ((k : Int) < ((p).length : Int)) then
   bif (decide ((127 : Int) < (p.getD (k).toNat 0))) then
    some (.inl (iadd .i64 k 1))
   else
    some (.inr k)
   else none
  else
   some (.inr k)
 else
  some (.inr k)
theorem zl9 (p : List Int) (at_ k : Int) (z_ : (Int) ⊕ (Int)) (h : zbu p at_ k = some z_) : zaP Tryz.prog cfg 106 0 (zax Tryz.prog 106 0) (zf3 p at_) (zeO p at_) k z_ := by
 rcases zaj h with ⟨h1, h⟩ | ⟨h1, h⟩
 ·rcases zaj h with ⟨h2, h⟩ | ⟨h2, h⟩
  ·obtain ⟨h3, h⟩ := zaq h
   rcases zaj h with ⟨h4, h⟩ | ⟨h4, h⟩
   ·have h := zad h
    subst h
    have t_ := tT h1 <| tT h2 <| tO h3 <| tT h4 <| tN
    exact ⟨t_.ev, zf3 p at_ (iadd .i64 k 1), .k0 t_.pf (by kernel_rfl), .same (by kernel_rfl)⟩
   ·have h := zad h
    subst h
    have t_ := tT h1 <| tT h2 <| tO h3 <| tF h4 <| tN
    exact ⟨t_.ev, ⟨[(26, (.av (.one (.pv (.bool false))))), (0, (.av (.one (.pv (.ints .u8 p false))))), (1, (.av (.one (.pv (.int .i64 at_))))), (6, (.av (.one (.pv (.int .i64 k))))), (26, (.av (.one (.pv (.bool (decide ((127 : Int) < (p.getD (k).toNat 0))))))))], [], []⟩, .k0 t_.pf (by kernel_rfl), ⟨⟨⟨_, rfl, .eq rfl⟩, ⟨_, rfl, .eq rfl⟩, ⟨_, rfl, .eq rfl⟩, trivial⟩, trivial, trivial⟩⟩
  ·have h := zad h
   subst h
   have t_ := tT h1 <| tF h2 <| tF (rfl : false = false) <| tN
   exact ⟨t_.ev, ⟨[(26, (.av (.one (.pv (.bool false))))), (0, (.av (.one (.pv (.ints .u8 p false))))), (1, (.av (.one (.pv (.int .i64 at_))))), (6, (.av (.one (.pv (.int .i64 k))))), (26, (.av (.one (.pv (.bool false)))))], [], []⟩, .k0 t_.pf (by kernel_rfl), ⟨⟨⟨_, rfl, .eq rfl⟩, ⟨_, rfl, .eq rfl⟩, ⟨_, rfl, .eq rfl⟩, trivial⟩, trivial, trivial⟩⟩
 ·have h := zad h
  subst h
  have t_ := tF h1 <| tF (rfl : false = false) <| tF (rfl : false = false) <| tN
  exact ⟨t_.ev, ⟨[(26, (.av (.one (.pv (.bool false))))), (0, (.av (.one (.pv (.ints .u8 p false))))), (1, (.av (.one (.pv (.int .i64 at_))))), (6, (.av (.one (.pv (.int .i64 k))))), (26, (.av (.one (.pv (.bool false)))))], [], []⟩, .k0 t_.pf (by kernel_rfl), ⟨⟨⟨_, rfl, .eq rfl⟩, ⟨_, rfl, .eq rfl⟩, ⟨_, rfl, .eq rfl⟩, trivial⟩, trivial, trivial⟩⟩
theorem zbt (p : List Int) (at_ s_ r_ : Int) (h : runL (zbu p at_) s_ = some r_) : zaT Tryz.prog (lEnv Tryz.prog cfg 106 0).nt 0 (.loop (zax Tryz.prog 106 0)) (zf3 p at_ s_) (zeO p at_ r_).1 (zeO p at_ r_).2 :=
 zaJ h (zl9 p at_) (by intro r_; rcases r_ with r1 <;> simp [zeO])
def zf4 (p : List Int) (at_ k : Int) : Int × Int → St
 | (n, i) => ⟨[(0, (.av (.one (.pv (.ints .u8 p false))))), (1, (.av (.one (.pv (.int .i64 at_))))), (6, (.av (.one (.pv (.int .i64 k))))), (7, (.av (.one (.pv (.int .u64 n))))), (8, (.av (.one (.pv (.int .i64 i)))))], [], []⟩
def zeP (p : List Int) (at_ k : Int) : Int → Ex × St
 | r1 => ((.exit 2), ⟨[(1, (.av (.one (.pv (.int .i64 at_))))), (6, (.av (.one (.pv (.int .i64 k))))), (7, (.av (.one (.pv (.int .u64 r1)))))], [], []⟩)
noncomputable def zbg (p : List Int) (at_ k : Int) : Int × Int → Option ((Int × Int) ⊕ (Int))
 | (n, i) =>
 bif (decide ((at_ : Int) ≤ i)) then
  bif decide ((0 : Int) ≤ i) && decide ((i : Int) < ((p).length : Int)) then
  some (.inl ((iadd .u64 (imul .u64 128 n) (IntKind.u64.wrap (irem .u8 (p.getD (i).toNat 0) 128))), (isub .i64 i 1)))
  else none
 else
  some (.inr n)
theorem zma (p : List Int) (at_ k : Int) (s_ : Int × Int) (z_ : (Int × Int) ⊕ (Int)) (h : zbg p at_ k s_ = some z_) : zaP Tryz.prog cfg 106 0 (zax Tryz.prog 106 1) (zf4 p at_ k) (zeP p at_ k) s_ z_ := by
 rcases s_ with ⟨n, i⟩
 rcases zaj h with ⟨h1, h⟩ | ⟨h1, h⟩
 ·obtain ⟨h2, h⟩ := zaq h
  have h := zad h
  subst h
  have t_ := tT h1 <| tO h2 <| tO (rfl : true = true) <| tN
  exact ⟨t_.ev, zf4 p at_ k ((iadd .u64 (imul .u64 128 n) (IntKind.u64.wrap (irem .u8 (p.getD (i).toNat 0) 128))), (isub .i64 i 1)), .k0 t_.pf (by kernel_rfl), .same (by kernel_rfl)⟩
 ·have h := zad h
  subst h
  have t_ := tF h1 <| tN
  exact ⟨t_.ev, ⟨[(61, (.av (.one (.pv (.bool false))))), (0, (.av (.one (.pv (.ints .u8 p false))))), (1, (.av (.one (.pv (.int .i64 at_))))), (6, (.av (.one (.pv (.int .i64 k))))), (7, (.av (.one (.pv (.int .u64 n))))), (8, (.av (.one (.pv (.int .i64 i))))), (61, (.av (.one (.pv (.bool (decide ((at_ : Int) ≤ i)))))))], [], []⟩, .k0 t_.pf (by kernel_rfl), ⟨⟨⟨_, rfl, .eq rfl⟩, ⟨_, rfl, .eq rfl⟩, ⟨_, rfl, .eq rfl⟩, trivial⟩, trivial, trivial⟩⟩
theorem zd1 (p : List Int) (at_ k : Int) (s_ : Int × Int) (r_ : Int) (h : runL (zbg p at_ k) s_ = some r_) : zaT Tryz.prog (lEnv Tryz.prog cfg 106 0).nt 0 (.loop (zax Tryz.prog 106 1)) (zf4 p at_ k s_) (zeP p at_ k r_).1 (zeP p at_ k r_).2 :=
 zaJ h (zma p at_ k) (by intro r_; rcases r_ with r1 <;> simp [zeP])
noncomputable def zf2 (p : List Int) (at_ : Int) : Option (Int × Int) :=
 (runL (zbu p at_) at_).bind fun n =>
 bif (decide ((((p).length : Int) : Int) ≤ n)) then
  some (0, 0)
 else
  bif (decide ((n : Int) = (iadd .i64 at_ 9))) then
   bif decide ((0 : Int) ≤ n) && decide ((n : Int) < ((p).length : Int)) then
   bif (decide ((1 : Int) < (p.getD (n).toNat 0))) then
    some (0, 0)
   else
    bif (decide ((at_ : Int) < n)) then
     bif (decide (((p.getD (n).toNat 0) : Int) = 0)) then
      some (0, 0)
     else
      (runL (zbg p at_ n) (0, n)).bind fun n2 =>
      some (n2, (iadd .i64 (isub .i64 n at_) 1))
    else
     (runL (zbg p at_ n) (0, n)).bind fun n2 =>
     some (n2, (iadd .i64 (isub .i64 n at_) 1))
   else none
  else
   bif (decide ((at_ : Int) < n)) then
    bif decide ((0 : Int) ≤ n) && decide ((n : Int) < ((p).length : Int)) then
    bif (decide (((p.getD (n).toNat 0) : Int) = 0)) then
     some (0, 0)
    else
     (runL (zbg p at_ n) (0, n)).bind fun n2 =>
     some (n2, (iadd .i64 (isub .i64 n at_) 1))
    else none
   else
    (runL (zbg p at_ n) (0, n)).bind fun n2 =>
    some (n2, (iadd .i64 (isub .i64 n at_) 1))
theorem zcL (p : List Int) (at_ : Int) (r_ : Int × Int) (h : zf2 p at_ = some r_) : Runs Tryz.prog 106 [(.one (.pv (.ints .u8 p false))), (.one (.pv (.int .i64 at_)))] [] [] (znX p at_ r_) := by
 unfold zf2 at h
 obtain ⟨n, h1, h⟩ := zaf h
 rcases zaj h with ⟨h2, h⟩ | ⟨h2, h⟩
 ·have h := zad h
  subst h
  have t_ := tL (zbt p at_ _ _ h1) <| tT h2 <| tT (rfl : true = true) <| tT (rfl : true = true) <| tN
  exact zah (C := cfg) (sc := t_.ev) (.k0 t_.pf (by kernel_rfl))
 ·rcases zaj h with ⟨h3, h⟩ | ⟨h3, h⟩
  ·obtain ⟨h4, h⟩ := zaq h
   rcases zaj h with ⟨h5, h⟩ | ⟨h5, h⟩
   ·have h := zad h
    subst h
    have t_ := tL (zbt p at_ _ _ h1) <| tF h2 <| tT h3 <| tO h4 <| tT h5 <| tT (rfl : true = true) <| tN
    exact zah (C := cfg) (sc := t_.ev) (.k0 t_.pf (by kernel_rfl))
   ·rcases zaj h with ⟨h6, h⟩ | ⟨h6, h⟩
    ·rcases zaj h with ⟨h7, h⟩ | ⟨h7, h⟩
     ·have h := zad h
      subst h
      have t_ := tL (zbt p at_ _ _ h1) <| tF h2 <| tT h3 <| tO h4 <| tF h5 <| tT h6 <| tO h4 <| tT h7 <| tN
      exact zah (C := cfg) (sc := t_.ev) (.k0 t_.pf (by kernel_rfl))
     ·obtain ⟨n2, h8, h⟩ := zaf h
      have h := zad h
      subst h
      have t_ := tL (zbt p at_ _ _ h1) <| tF h2 <| tT h3 <| tO h4 <| tF h5 <| tT h6 <| tO h4 <| tF h7 <| tL (zd1 p at_ n _ _ h8) <| tN
      exact zah (C := cfg) (sc := t_.ev) (.k0 t_.pf (by kernel_rfl))
    ·obtain ⟨n2, h7, h⟩ := zaf h
     have h := zad h
     subst h
     have t_ := tL (zbt p at_ _ _ h1) <| tF h2 <| tT h3 <| tO h4 <| tF h5 <| tF h6 <| tF (rfl : false = false) <| tL (zd1 p at_ n _ _ h7) <| tN
     exact zah (C := cfg) (sc := t_.ev) (.k0 t_.pf (by kernel_rfl))
  ·rcases zaj h with ⟨h4, h⟩ | ⟨h4, h⟩
   ·obtain ⟨h5, h⟩ := zaq h
    rcases zaj h with ⟨h6, h⟩ | ⟨h6, h⟩
    ·have h := zad h
     subst h
     have t_ := tL (zbt p at_ _ _ h1) <| tF h2 <| tF h3 <| tF (rfl : false = false) <| tT h4 <| tO h5 <| tT h6 <| tN
     exact zah (C := cfg) (sc := t_.ev) (.k0 t_.pf (by kernel_rfl))
    ·obtain ⟨n2, h7, h⟩ := zaf h
     have h := zad h
     subst h
     have t_ := tL (zbt p at_ _ _ h1) <| tF h2 <| tF h3 <| tF (rfl : false = false) <| tT h4 <| tO h5 <| tF h6 <| tL (zd1 p at_ n _ _ h7) <| tN
     exact zah (C := cfg) (sc := t_.ev) (.k0 t_.pf (by kernel_rfl))
   ·obtain ⟨n2, h5, h⟩ := zaf h
    have h := zad h
    subst h
    have t_ := tL (zbt p at_ _ _ h1) <| tF h2 <| tF h3 <| tF (rfl : false = false) <| tF h4 <| tF (rfl : false = false) <| tL (zd1 p at_ n _ _ h5) <| tN
    exact zah (C := cfg) (sc := t_.ev) (.k0 t_.pf (by kernel_rfl))
noncomputable def zcc (l : List Int) (n n2 : Int) : Option (Int × Int × Int) :=
 bif (decide ((n2 : Int) = 0)) then
  (zf2 l n).bind fun (n3, n4) =>
  bif (decide ((n4 : Int) = 0)) then
   some (n3, (iadd .i64 n n4), 6)
  else
   some (n3, (iadd .i64 n n4), n2)
 else
  some (0, n, n2)
theorem zbi (l : List Int) (n n2 : Int) (r_ : Int × Int × Int) (h : zcc l n n2 = some r_) : Runs Tryz.prog 65 [(.one (.ref 0 0))] [[(.pv (.ints .u8 l false)), (.pv (.int .i64 n)), (.pv (.int .i64 n2))]] [] (znV l n n2 r_) := by
 unfold zcc at h
 rcases zaj h with ⟨h1, h⟩ | ⟨h1, h⟩
 ·obtain ⟨⟨n3, n4⟩, h2, h⟩ := zaf h
  rcases zaj h with ⟨h3, h⟩ | ⟨h3, h⟩
  ·have h := zad h
   subst h
   have t_ := tF (zan h1) <| tR (zcL l n _ h2) <| tT h3 <| tN
   exact zah (C := cfg) (sc := t_.ev) (.k1 t_.pf (by kernel_rfl) (by kernel_rfl))
  ·have h := zad h
   subst h
   have t_ := tF (zan h1) <| tR (zcL l n _ h2) <| tF h3 <| tN
   exact zah (C := cfg) (sc := t_.ev) (.k1 t_.pf (by kernel_rfl) (by kernel_rfl))
 ·have h := zad h
  subst h
  have t_ := tT (za7 h1) <| tN
  exact zah (C := cfg) (sc := t_.ev) (.k0 t_.pf (by kernel_rfl))
def zqa (e : Int) (l : List Int) (n n2 : Int) : Int → Res
 | r1 => ([], [[(.pv (.ints .u8 l false)), (.pv (.int .i64 n)), (.pv (.int .i64 r1))]], [])
noncomputable def zic (e : Int) (l : List Int) (n n2 : Int) : Option (Int) :=
 bif (decide ((n2 : Int) = 0)) then
  some e
 else
  some n2
theorem zks (e : Int) (l : List Int) (n n2 r_ : Int) (h : zic e l n n2 = some r_) : Runs Tryz.prog 105 [(.one (.ref 0 0)), (.one (.pv (.int .i64 e)))] [[(.pv (.ints .u8 l false)), (.pv (.int .i64 n)), (.pv (.int .i64 n2))]] [] (zqa e l n n2 r_) := by
 unfold zic at h
 rcases zaj h with ⟨h1, h⟩ | ⟨h1, h⟩
 ·have h := zad h
  subst h
  have t_ := tT h1 <| tN
  exact zah (C := cfg) (sc := t_.ev) (.k0 t_.pf (by kernel_rfl))
 ·have h := zad h
  subst h
  have t_ := tF h1 <| tN
  exact zah (C := cfg) (sc := t_.ev) (.k0 t_.pf (by kernel_rfl))
noncomputable def zdD (l : List Int) (n n2 : Int) : Option (Int × Int × Int) :=
 (zcc l n n2).bind fun (n3, n4, n5) =>
 bif (decide ((2147483648 : Int) ≤ n3)) then
  (zic 6 l n4 n5).bind fun n6 =>
  some (0, n4, n6)
 else
  some ((IntKind.i64.wrap n3), n4, n5)
theorem zbw (l : List Int) (n n2 : Int) (r_ : Int × Int × Int) (h : zdD l n n2 = some r_) : Runs Tryz.prog 64 [(.one (.ref 0 0))] [[(.pv (.ints .u8 l false)), (.pv (.int .i64 n)), (.pv (.int .i64 n2))]] [] (zn7 l n n2 r_) := by
 unfold zdD at h
 obtain ⟨⟨n3, n4, n5⟩, h1, h⟩ := zaf h
 rcases zaj h with ⟨h2, h⟩ | ⟨h2, h⟩
 ·obtain ⟨n6, h3, h⟩ := zaf h
  have h := zad h
  subst h
  have t_ := tR (zbi l n n2 _ h1) <| tT h2 <| tR (zks 6 l n4 n5 _ h3) <| tN
  exact zah (C := cfg) (sc := t_.ev) (.k0 t_.pf (by kernel_rfl))
 ·have h := zad h
  subst h
  have t_ := tR (zbi l n n2 _ h1) <| tF h2 <| tN
  exact zah (C := cfg) (sc := t_.ev) (.k0 t_.pf (by kernel_rfl))
def zm1 (l : List Int) (n n2 : Int) : Int × Int × Int × zai × Int × Int → Res
 | (r1, r2, r3, r4, r5, r6) => ([(.agg [(.pv (.int .u64 r1)), (.pv (.int .i64 r2)), (.pv (.int .i64 r3)), (.pv (zai.pv r4))])], [[(.pv (.ints .u8 l false)), (.pv (.int .i64 r5)), (.pv (.int .i64 r6))]], [])
def zmZ (most : Int) (l : List Int) (n n2 : Int) : ByteArray × Int × Int → Res
 | (r1, r2, r3) => ([(.one (.pv (.str r1)))], [[(.pv (.ints .u8 l false)), (.pv (.int .i64 r2)), (.pv (.int .i64 r3))]], [])
noncomputable def zfi (most : Int) (l : List Int) (n n2 : Int) : Option (ByteArray × Int × Int) :=
 bif (decide ((n2 : Int) = 0)) then
  (zf2 l n).bind fun (n3, n4) =>
  bif (decide ((n4 : Int) = 0)) then
   some ((⟨#[]⟩ : ByteArray), n, 6)
  else
   bif (decide ((most : Int) < 0)) then
    some ((⟨#[]⟩ : ByteArray), n, 9)
   else
    bif (decide (((IntKind.u64.wrap most) : Int) < n3)) then
     some ((⟨#[]⟩ : ByteArray), n, 9)
    else
     bif (decide (((IntKind.u64.wrap (isub .i64 (isub .i64 ((l).length : Int) n) n4)) : Int) < n3)) then
      some ((⟨#[]⟩ : ByteArray), n, 6)
     else
      bif decide ((0 : Int) ≤ (isub .i64 (iadd .i64 n (iadd .i64 n4 (IntKind.i64.wrap n3))) (IntKind.i64.wrap n3))) && decide (((isub .i64 (iadd .i64 n (iadd .i64 n4 (IntKind.i64.wrap n3))) (IntKind.i64.wrap n3)) : Int) ≤ (iadd .i64 n (iadd .i64 n4 (IntKind.i64.wrap n3)))) && decide (((iadd .i64 n (iadd .i64 n4 (IntKind.i64.wrap n3))) : Int) ≤ ((l).length : Int)) && decide (((iadd .i64 n (iadd .i64 n4 (IntKind.i64.wrap n3))) : Int) = (iadd .i64 n (iadd .i64 n4 (IntKind.i64.wrap n3)))) then
      some ((Ev.strOf (List.take ((iadd .i64 n (iadd .i64 n4 (IntKind.i64.wrap n3))) - (isub .i64 (iadd .i64 n (iadd .i64 n4 (IntKind.i64.wrap n3))) (IntKind.i64.wrap n3))).toNat (List.drop ((isub .i64 (iadd .i64 n (iadd .i64 n4 (IntKind.i64.wrap n3))) (IntKind.i64.wrap n3))).toNat l))), (iadd .i64 n (iadd .i64 n4 (IntKind.i64.wrap n3))), n2)
      else none
 else
  some ((⟨#[]⟩ : ByteArray), n, n2)
theorem zf1 (most : Int) (l : List Int) (n n2 : Int) (r_ : ByteArray × Int × Int) (h : zfi most l n n2 = some r_) : Runs Tryz.prog 107 [(.one (.ref 0 0)), (.one (.pv (.int .i64 most)))] [[(.pv (.ints .u8 l false)), (.pv (.int .i64 n)), (.pv (.int .i64 n2))]] [] (zmZ most l n n2 r_) := by
 unfold zfi at h
 rcases zaj h with ⟨h1, h⟩ | ⟨h1, h⟩
 ·obtain ⟨⟨n3, n4⟩, h2, h⟩ := zaf h
  rcases zaj h with ⟨h3, h⟩ | ⟨h3, h⟩
  ·have h := zad h
   subst h
   have t_ := tF (zan h1) <| tR (zcL l n _ h2) <| tT h3 <| tN
   exact zah (C := cfg) (sc := t_.ev) (.k1 t_.pf (by kernel_rfl) (by kernel_rfl))
  ·rcases zaj h with ⟨h4, h⟩ | ⟨h4, h⟩
   ·have h := zad h
    subst h
    have t_ := tF (zan h1) <| tR (zcL l n _ h2) <| tF h3 <| tT h4 <| tT (rfl : true = true) <| tN
    exact zah (C := cfg) (sc := t_.ev) (.k1 t_.pf (by kernel_rfl) (by kernel_rfl))
   ·rcases zaj h with ⟨h5, h⟩ | ⟨h5, h⟩
    ·have h := zad h
     subst h
     have t_ := tF (zan h1) <| tR (zcL l n _ h2) <| tF h3 <| tF h4 <| tT h5 <| tN
     exact zah (C := cfg) (sc := t_.ev) (.k1 t_.pf (by kernel_rfl) (by kernel_rfl))
    ·rcases zaj h with ⟨h6, h⟩ | ⟨h6, h⟩
     ·have h := zad h
      subst h
      have t_ := tF (zan h1) <| tR (zcL l n _ h2) <| tF h3 <| tF h4 <| tF h5 <| tT h6 <| tN
      exact zah (C := cfg) (sc := t_.ev) (.k1 t_.pf (by kernel_rfl) (by kernel_rfl))
     ·obtain ⟨h7, h⟩ := zaq h
      have h := zad h
      subst h
      have t_ := tF (zan h1) <| tR (zcL l n _ h2) <| tF h3 <| tF h4 <| tF h5 <| tF h6 <| tO h7 <| tN
      exact zah (C := cfg) (sc := t_.ev) (.k1 t_.pf (by kernel_rfl) (by kernel_rfl))
 ·have h := zad h
  subst h
  have t_ := tT (za7 h1) <| tN
  exact zah (C := cfg) (sc := t_.ev) (.k0 t_.pf (by kernel_rfl))
def znZ (p : List Int) : zai × Int → Res
 | (r1, r2) => ([(.one (.pv (zai.pv r1))), (.one (.pv (.int .i64 r2)))], [], [])
def zp8 (p : List Int) : List Bool → Res
 | r1 => ([(.one (.own 0 0 (r1).length false))], [], [(.bools r1)])
def zfZ (l : List Int) (n n2 : Int) : Int × Int × List Bool → St
 | (b, k, l2) => ⟨[(3, (.av (.one (.own 0 0 (l2).length false)))), (5, (.av (.one (.pv (.int .u8 b))))), (6, (.av (.one (.pv (.int .i64 k))))), (7, (.av (.one (.pv (.ints .u8 l false))))), (8, (.av (.one (.pv (.int .i64 n))))), (9, (.av (.one (.pv (.int .i64 n2)))))], [], [(0, (.live (.bools l2)))]⟩
def zeN (l : List Int) (n n2 : Int) : List Bool → Ex × St
 | r1 => ((.exit 2), ⟨[(3, (.av (.one (.own 0 0 (r1).length false)))), (7, (.av (.one (.pv (.ints .u8 l false))))), (8, (.av (.one (.pv (.int .i64 n))))), (9, (.av (.one (.pv (.int .i64 n2)))))], [], [(0, (.live (.bools r1)))]⟩)
noncomputable def zbZ (l : List Int) (n n2 : Int) : Int × Int × List Bool → Option ((Int × Int × List Bool) ⊕ (List Bool))
 | (b, k, l2) =>
 bif (decide ((k : Int) < 8)) then
  bif fits ((l2 ++ [(decide ((128 : Int) ≤ b))])).length then
  some (.inl ((imul .u8 b 2), (iadd .i64 k 1), (l2 ++ [(decide ((128 : Int) ≤ b))])))
  else none
 else
  some (.inr l2)
theorem zl8 (l : List Int) (n n2 : Int) (s_ : Int × Int × List Bool) (z_ : (Int × Int × List Bool) ⊕ (List Bool)) (h : zbZ l n n2 s_ = some z_) : zaP Tryz.prog cfg 129 0 (zax Tryz.prog 129 1) (zfZ l n n2) (zeN l n n2) s_ z_ := by
 rcases s_ with ⟨b, k, l2⟩
 rcases zaj h with ⟨h1, h⟩ | ⟨h1, h⟩
 ·obtain ⟨h2, h⟩ := zaq h
  have h := zad h
  subst h
  have t_ := tT h1 <| tO (show (Nat.beq (l2).length (l2).length) = true from Nat.beq_refl _) <| tO h2 <| tN
  exact ⟨t_.ev, zfZ l n n2 ((imul .u8 b 2), (iadd .i64 k 1), (l2 ++ [(decide ((128 : Int) ≤ b))])), .k0 t_.pf (by kernel_rfl), .same (by kernel_rfl)⟩
 ·have h := zad h
  subst h
  have t_ := tF h1 <| tN
  exact ⟨t_.ev, ⟨[(14, (.av (.one (.pv (.bool false))))), (3, (.av (.one (.own 0 0 (l2).length false)))), (5, (.av (.one (.pv (.int .u8 b))))), (6, (.av (.one (.pv (.int .i64 k))))), (7, (.av (.one (.pv (.ints .u8 l false))))), (8, (.av (.one (.pv (.int .i64 n))))), (9, (.av (.one (.pv (.int .i64 n2))))), (14, (.av (.one (.pv (.bool (decide ((k : Int) < 8)))))))], [], [(0, (.live (.bools l2)))]⟩, .k0 t_.pf (by kernel_rfl), ⟨⟨⟨_, rfl, .eq rfl⟩, ⟨_, rfl, .eq rfl⟩, ⟨_, rfl, .eq rfl⟩, ⟨_, rfl, .eq rfl⟩, trivial⟩, trivial, ⟨⟨rfl, .eq rfl⟩, trivial⟩⟩⟩
theorem zkU (l : List Int) (n n2 : Int) (s_ : Int × Int × List Bool) (r_ : List Bool) (h : runL (zbZ l n n2) s_ = some r_) : zaT Tryz.prog (lEnv Tryz.prog cfg 129 0).nt 0 (.loop (zax Tryz.prog 129 1)) (zfZ l n n2 s_) (zeN l n n2 r_).1 (zeN l n n2 r_).2 :=
 zaJ h (zl8 l n n2) (by intro r_; rcases r_ with r1 <;> simp [zeN])
def zha (l : List Int) (n : Int) : Int × List Bool → St
 | (n2, l2) => ⟨[(3, (.av (.one (.own 0 0 (l2).length false)))), (7, (.av (.one (.pv (.ints .u8 l false))))), (8, (.av (.one (.pv (.int .i64 n))))), (9, (.av (.one (.pv (.int .i64 n2)))))], [], [(0, (.live (.bools l2)))]⟩
def zfz (l : List Int) (n : Int) : List Bool → Ex × St
 | r1 => ((.exit 0), ⟨[(3, (.av (.one (.own 0 0 (r1).length false))))], [], [(0, (.live (.bools r1)))]⟩)
noncomputable def zcp (l : List Int) (n : Int) : Int × List Bool → Option ((Int × List Bool) ⊕ (List Bool))
 | (n2, l2) =>
 bif (decide ((n2 : Int) < n)) then
  bif decide ((0 : Int) ≤ n2) && decide ((n2 : Int) < ((l).length : Int)) then
  (runL (zbZ l n n2) ((l.getD (n2).toNat 0), 0, l2)).bind fun l_ =>
  some (.inl ((iadd .i64 n2 1), l_))
  else none
 else
  some (.inr l2)
theorem znT (l : List Int) (n : Int) (s_ : Int × List Bool) (z_ : (Int × List Bool) ⊕ (List Bool)) (h : zcp l n s_ = some z_) : zaP Tryz.prog cfg 129 0 (zax Tryz.prog 129 0) (zha l n) (zfz l n) s_ z_ := by
 rcases s_ with ⟨n2, l2⟩
 rcases zaj h with ⟨h1, h⟩ | ⟨h1, h⟩
 ·obtain ⟨h2, h⟩ := zaq h
  obtain ⟨l_, h3, h⟩ := zaf h
  have h := zad h
  subst h
  have t_ := tT h1 <| tO h2 <| tL (zkU l n n2 _ _ h3) <| tN
  exact ⟨t_.ev, zha l n ((iadd .i64 n2 1), l_), .k0 t_.pf (by kernel_rfl), .same (by kernel_rfl)⟩
 ·have h := zad h
  subst h
  have t_ := tF h1 <| tN
  exact ⟨t_.ev, ⟨[(10, (.av (.one (.pv (.bool false))))), (3, (.av (.one (.own 0 0 (l2).length false)))), (7, (.av (.one (.pv (.ints .u8 l false))))), (8, (.av (.one (.pv (.int .i64 n))))), (9, (.av (.one (.pv (.int .i64 n2))))), (10, (.av (.one (.pv (.bool (decide ((n2 : Int) < n)))))))], [], [(0, (.live (.bools l2)))]⟩, .k0 t_.pf (by kernel_rfl), ⟨⟨⟨_, rfl, .eq rfl⟩, trivial⟩, trivial, ⟨⟨rfl, .eq rfl⟩, trivial⟩⟩⟩
theorem zl7 (l : List Int) (n : Int) (s_ : Int × List Bool) (r_ : List Bool) (h : runL (zcp l n) s_ = some r_) : zaT Tryz.prog (lEnv Tryz.prog cfg 129 0).nt 0 (.loop (zax Tryz.prog 129 0)) (zha l n s_) (zfz l n r_).1 (zfz l n r_).2 :=
 zaJ h (znT l n) (by intro r_; rcases r_ with r1 <;> simp [zfz])
noncomputable def zjD (p : List Int) : Option (List Bool) :=
 (runL (zcp p ((p).length : Int)) (0, [])).bind fun l_ =>
 some l_
theorem zhI (p : List Int) (r_ : List Bool) (h : zjD p = some r_) : Runs Tryz.prog 129 [(.one (.pv (.ints .u8 p false)))] [] [] (zp8 p r_) := by
 unfold zjD at h
 obtain ⟨l_, h1, h⟩ := zaf h
 have h := zad h
 subst h
 have t_ := tL (zaT.coe (s0 := ⟨[(3, (.av (.one (.own 0 0 0 false)))), (7, (.av (.one (.pv (.ints .u8 p false))))), (8, (.av (.one (.pv (.int .i64 ((p).length : Int)))))), (9, (.av (.one (.pv (.int .i64 0)))))], [], [(0, (.live (.bools [])))]⟩) (zl7 p ((p).length : Int) _ _ h1) ⟨⟨⟨_, rfl, .own (by first | rfl | (simp only [List.take_length]; done) | (simp; done) | (simp only [List.map_take, List.map_drop, List.map_append, List.take_length, List.nil_append]; done) | (simp only [List.length_map, List.take_length, List.length_append, List.drop_zero, List.map_append, List.map_take, List.map_drop, List.map_replicate, List.map_cons, List.map_nil, List.append_nil, List.nil_append]; done))⟩, ⟨_, rfl, .eq rfl⟩, ⟨_, rfl, .eq rfl⟩, ⟨_, rfl, .eq rfl⟩, trivial⟩, trivial, ⟨⟨rfl, .eq rfl⟩, trivial⟩⟩) <| tN
 exact zah (C := cfg) (sc := t_.ev) (.k0 t_.pf (by kernel_rfl))
def zm0 (depth n : Int) (l : List Bool) : zai × Int × List Bool × Int → Res
 | (r1, r2, r3, r4) => ([(.one (.pv (zai.pv r1))), (.one (.pv (.int .i64 r2)))], [[(.pv (.bools r3 false)), (.pv (.int .i64 r4))]], [])
def zqV (k n : Int) (l : List Bool) : Int × List Bool × Int → Res
 | (r1, r2, r3) => ([(.one (.pv (.int .u64 r1)))], [[(.pv (.bools r2 false)), (.pv (.int .i64 r3))]], [])
def znU (k : Int) : Int → Res
 | r1 => ([(.one (.pv (.int .i64 r1)))], [], [])
noncomputable def zf0 (k : Int) : Option (Int) :=
 bif (decide ((k : Int) < 0)) then
  some 0
 else
  bif (decide ((64 : Int) < k)) then
   some 64
  else
   some k
theorem zdp (k r_ : Int) (h : zf0 k = some r_) : Runs Tryz.prog 159 [(.one (.pv (.int .i64 k)))] [] [] (znU k r_) := by
 unfold zf0 at h
 rcases zaj h with ⟨h1, h⟩ | ⟨h1, h⟩
 ·have h := zad h
  subst h
  have t_ := tT h1 <| tN
  exact zah (C := cfg) (sc := t_.ev) (.k0 t_.pf (by kernel_rfl))
 ·rcases zaj h with ⟨h2, h⟩ | ⟨h2, h⟩
  ·have h := zad h
   subst h
   have t_ := tF h1 <| tT h2 <| tN
   exact zah (C := cfg) (sc := t_.ev) (.k0 t_.pf (by kernel_rfl))
  ·have h := zad h
   subst h
   have t_ := tF h1 <| tF h2 <| tN
   exact zah (C := cfg) (sc := t_.ev) (.k0 t_.pf (by kernel_rfl))
def zgm (k : Int) (k2 : Nat) (n n2 : Int) (l : List Bool) : Int × Int → St
 | (n3, n4) => ⟨[(0, (.av (.one (.ref 0 0)))), (1, (.av (.one (.pv (.int .i64 k))))), (5, (.av (.one (.pv (.int .u64 n3))))), (30, (.av (.one (.own 0 0 k2 false)))), (31, (.av (.one (.pv (.int .i64 n))))), (32, (.av (.one (.pv (.int .i64 n4)))))], [(0, [(.own 0 0 (l).length false), (.pv (.int .i64 n2))])], [(0, (.live (.bools l)))]⟩
def zgl (k : Int) (k2 : Nat) (n n2 : Int) (l : List Bool) : Int → Ex × St
 | r1 => ((.exit 0), ⟨[(0, (.av (.one (.ref 0 0)))), (1, (.av (.one (.pv (.int .i64 k))))), (5, (.av (.one (.pv (.int .u64 r1)))))], [(0, [(.own 0 0 (l).length false), (.pv (.int .i64 n2))])], [(0, (.live (.bools l)))]⟩)
noncomputable def zcK (k : Int) (k2 : Nat) (n n2 : Int) (l : List Bool) : Int × Int → Option ((Int × Int) ⊕ (Int))
 | (n3, n4) =>
 bif (decide ((n4 : Int) < n)) then
  bif decide ((0 : Int) ≤ n4) && decide ((n4 : Int) < (k2 : Int)) then
  bif (l.getD (0 + (n4).toNat) false) then
   some (.inl ((iadd .u64 (imul .u64 n3 2) 1), (iadd .i64 n4 1)))
  else
   some (.inl ((imul .u64 n3 2), (iadd .i64 n4 1)))
  else none
 else
  some (.inr n3)
theorem zo5 (k : Int) (k2 : Nat) (n n2 : Int) (l : List Bool) (s_ : Int × Int) (z_ : (Int × Int) ⊕ (Int)) (h : zcK k k2 n n2 l s_ = some z_) : zaP Tryz.prog cfg 158 1 (zax Tryz.prog 158 0) (zgm k k2 n n2 l) (zgl k k2 n n2 l) s_ z_ := by
 rcases s_ with ⟨n3, n4⟩
 rcases zaj h with ⟨h1, h⟩ | ⟨h1, h⟩
 ·obtain ⟨h2, h⟩ := zaq h
  rcases zaj h with ⟨h3, h⟩ | ⟨h3, h⟩
  ·have h := zad h
   subst h
   have t_ := tT h1 <| tO h2 <| tT h3 <| tN
   exact ⟨t_.ev, zgm k k2 n n2 l ((iadd .u64 (imul .u64 n3 2) 1), (iadd .i64 n4 1)), .k0 t_.pf (by kernel_rfl), .same (by kernel_rfl)⟩
  ·have h := zad h
   subst h
   have t_ := tT h1 <| tO h2 <| tF h3 <| tN
   exact ⟨t_.ev, zgm k k2 n n2 l ((imul .u64 n3 2), (iadd .i64 n4 1)), .k0 t_.pf (by kernel_rfl), .same (by kernel_rfl)⟩
 ·have h := zad h
  subst h
  have t_ := tF h1 <| tN
  exact ⟨t_.ev, ⟨[(33, (.av (.one (.pv (.bool false))))), (0, (.av (.one (.ref 0 0)))), (1, (.av (.one (.pv (.int .i64 k))))), (5, (.av (.one (.pv (.int .u64 n3))))), (30, (.av (.one (.own 0 0 k2 false)))), (31, (.av (.one (.pv (.int .i64 n))))), (32, (.av (.one (.pv (.int .i64 n4))))), (33, (.av (.one (.pv (.bool (decide ((n4 : Int) < n)))))))], [(0, [(.own 0 0 (l).length false), (.pv (.int .i64 n2))])], [(0, (.live (.bools l)))]⟩, .k0 t_.pf (by kernel_rfl), ⟨⟨⟨_, rfl, .eq rfl⟩, ⟨_, rfl, .eq rfl⟩, ⟨_, rfl, .eq rfl⟩, trivial⟩, ⟨⟨rfl, ⟨.eq rfl, .eq rfl, trivial⟩⟩, trivial⟩, ⟨⟨rfl, .eq rfl⟩, trivial⟩⟩⟩
theorem zmY (k : Int) (k2 : Nat) (n n2 : Int) (l : List Bool) (s_ : Int × Int) (r_ : Int) (h : runL (zcK k k2 n n2 l) s_ = some r_) : zaT Tryz.prog (lEnv Tryz.prog cfg 158 1).nt 1 (.loop (zax Tryz.prog 158 0)) (zgm k k2 n n2 l s_) (zgl k k2 n n2 l r_).1 (zgl k k2 n n2 l r_).2 :=
 zaJ h (zo5 k k2 n n2 l) (by intro r_; rcases r_ with r1 <;> simp [zgl])
noncomputable def zjW (k n : Int) (l : List Bool) : Option (Int × List Bool × Int) :=
 (zf0 k).bind fun n2 =>
 bif (decide ((n : Int) = 0)) then
  bif (decide ((((l).length : Int) : Int) < n2)) then
   some (0, l, 6)
  else
   bif decide ((0 : Int) ≤ 0) && decide ((0 : Int) ≤ n2) && decide ((n2 : Int) ≤ ((l).length : Int)) && decide ((n2 : Int) = n2) then
   (runL (zcK n2 ((n2 - 0).toNat) ((n2 - 0).toNat : Int) n l) (0, 0)).bind fun n3 =>
   bif decide ((0 : Int) ≤ n2) && decide ((n2 : Int) ≤ ((l).length : Int)) && decide ((((l).length : Int) : Int) ≤ ((l).length : Int)) && decide ((((l).length : Int) : Int) = ((l).length : Int)) then
   some (n3, (List.take (((l).length : Int) - n2).toNat (List.drop (0 + (n2).toNat) l)), n)
   else none
   else none
 else
  some (0, l, n)
theorem zaL (k n : Int) (l : List Bool) (r_ : Int × List Bool × Int) (h : zjW k n l = some r_) : Runs Tryz.prog 158 [(.one (.ref 0 0)), (.one (.pv (.int .i64 k)))] [[(.own 0 0 (l).length false), (.pv (.int .i64 n))]] [(.bools l)] (zqV k n l r_) := by
 unfold zjW at h
 obtain ⟨n2, h1, h⟩ := zaf h
 rcases zaj h with ⟨h2, h⟩ | ⟨h2, h⟩
 ·rcases zaj h with ⟨h3, h⟩ | ⟨h3, h⟩
  ·have h := zad h
   subst h
   have t_ := tR (zdp k _ h1) <| tF (zan h2) <| tT h3 <| tN
   exact Runs.out (Runs.shut (zah (C := cfg) (res := ([(.one (.pv (.int .u64 0)))], [[(.own 0 0 (l).length false), (.pv (.int .i64 6))]], [(.bools l)])) (sc := t_.ev) (.k0 t_.pf (by kernel_rfl))) (res' := ([(.one (.pv (.int .u64 0)))], [[(.pv (.bools (List.take (l).length l) false)), (.pv (.int .i64 6))]], [])) [0] (by kernel_rfl)) ⟨.eq rfl, trivial⟩ ⟨⟨.pv (.bools (by first | rfl | (simp only [List.take_length]; done) | (simp; done) | (simp only [List.map_take, List.map_drop, List.map_append, List.take_length, List.nil_append]; done) | (simp only [List.length_map, List.take_length, List.length_append, List.drop_zero, List.map_append, List.map_take, List.map_drop, List.map_replicate, List.map_cons, List.map_nil, List.append_nil, List.nil_append]; done))), .eq rfl, trivial⟩, trivial⟩ trivial rfl
  ·obtain ⟨h4, h⟩ := zaq h
   obtain ⟨n3, h5, h⟩ := zaf h
   obtain ⟨h6, h⟩ := zaq h
   have h := zad h
   subst h
   have t_ := tR (zdp k _ h1) <| tF (zan h2) <| tF h3 <| tO h4 <| tL (zmY n2 ((n2 - 0).toNat) ((n2 - 0).toNat : Int) n l _ _ h5) <| tO h6 <| tN
   have e_ : Runs Tryz.prog 158 [(.one (.ref 0 0)), (.one (.pv (.int .i64 k)))] [[(.own 0 0 (l).length false), (.pv (.int .i64 n))]] [(.bools l)] ([(.one (.pv (.int .u64 n3)))], [[(.own 0 (0 + (n2).toNat) (((l).length : Int) - n2).toNat false), (.pv (.int .i64 n))]], [(.bools l)]) := zah (C := cfg) (sc := t_.ev) (.k0 t_.pf (by kernel_rfl))
   have e_ := e_.shut (res' := ([(.one (.pv (.int .u64 n3)))], [[(.pv (.bools (List.take (((l).length : Int) - n2).toNat (List.drop (0 + (n2).toNat) l)) false)), (.pv (.int .i64 n))]], [])) [0] (by kernel_rfl)
   exact e_
 ·have h := zad h
  subst h
  have t_ := tR (zdp k _ h1) <| tT (za7 h2) <| tN
  exact Runs.out (Runs.shut (zah (C := cfg) (res := ([(.one (.pv (.int .u64 0)))], [[(.own 0 0 (l).length false), (.pv (.int .i64 n))]], [(.bools l)])) (sc := t_.ev) (.k0 t_.pf (by kernel_rfl))) (res' := ([(.one (.pv (.int .u64 0)))], [[(.pv (.bools (List.take (l).length l) false)), (.pv (.int .i64 n))]], [])) [0] (by kernel_rfl)) ⟨.eq rfl, trivial⟩ ⟨⟨.pv (.bools (by first | rfl | (simp only [List.take_length]; done) | (simp; done) | (simp only [List.map_take, List.map_drop, List.map_append, List.take_length, List.nil_append]; done) | (simp only [List.length_map, List.take_length, List.length_append, List.drop_zero, List.map_append, List.map_take, List.map_drop, List.map_replicate, List.map_cons, List.map_nil, List.append_nil, List.nil_append]; done))), .eq rfl, trivial⟩, trivial⟩ trivial rfl
def zo4 (k : Int) (l : List Bool) (n : Int) : Int × List Bool × Int → Res
 | (r1, r2, r3) => ([(.one (.pv (.int .u64 r1)))], [[(.pv (.bools r2 false)), (.pv (.int .i64 r3))]], [])
def zfa (k : Int) (l : List Bool) (n : Int) (l2 : List Bool) (n2 : Int) : Int × Int → St
 | (n3, n4) => ⟨[(0, (.av (.one (.ref 0 0)))), (1, (.av (.one (.pv (.int .i64 k))))), (5, (.av (.one (.pv (.int .u64 n3))))), (30, (.av (.one (.pv (.bools l false))))), (31, (.av (.one (.pv (.int .i64 n))))), (32, (.av (.one (.pv (.int .i64 n4)))))], [(0, [(.pv (.bools l2 false)), (.pv (.int .i64 n2))])], []⟩
def ze9 (k : Int) (l : List Bool) (n : Int) (l2 : List Bool) (n2 : Int) : Int → Ex × St
 | r1 => ((.exit 0), ⟨[(0, (.av (.one (.ref 0 0)))), (1, (.av (.one (.pv (.int .i64 k))))), (5, (.av (.one (.pv (.int .u64 r1)))))], [(0, [(.pv (.bools l2 false)), (.pv (.int .i64 n2))])], []⟩)
noncomputable def zcb (k : Int) (l : List Bool) (n : Int) (l2 : List Bool) (n2 : Int) : Int × Int → Option ((Int × Int) ⊕ (Int))
 | (n3, n4) =>
 bif (decide ((n4 : Int) < n)) then
  bif decide ((0 : Int) ≤ n4) && decide ((n4 : Int) < ((l).length : Int)) then
  bif (l.getD (n4).toNat false) then
   some (.inl ((iadd .u64 (imul .u64 n3 2) 1), (iadd .i64 n4 1)))
  else
   some (.inl ((imul .u64 n3 2), (iadd .i64 n4 1)))
  else none
 else
  some (.inr n3)
theorem zmX (k : Int) (l : List Bool) (n : Int) (l2 : List Bool) (n2 : Int) (s_ : Int × Int) (z_ : (Int × Int) ⊕ (Int)) (h : zcb k l n l2 n2 s_ = some z_) : zaP Tryz.prog cfg 158 1 (zax Tryz.prog 158 0) (zfa k l n l2 n2) (ze9 k l n l2 n2) s_ z_ := by
 rcases s_ with ⟨n3, n4⟩
 rcases zaj h with ⟨h1, h⟩ | ⟨h1, h⟩
 ·obtain ⟨h2, h⟩ := zaq h
  rcases zaj h with ⟨h3, h⟩ | ⟨h3, h⟩
  ·have h := zad h
   subst h
   have t_ := tT h1 <| tO h2 <| tT h3 <| tN
   exact ⟨t_.ev, zfa k l n l2 n2 ((iadd .u64 (imul .u64 n3 2) 1), (iadd .i64 n4 1)), .k0 t_.pf (by kernel_rfl), .same (by kernel_rfl)⟩
  ·have h := zad h
   subst h
   have t_ := tT h1 <| tO h2 <| tF h3 <| tN
   exact ⟨t_.ev, zfa k l n l2 n2 ((imul .u64 n3 2), (iadd .i64 n4 1)), .k0 t_.pf (by kernel_rfl), .same (by kernel_rfl)⟩
 ·have h := zad h
  subst h
  have t_ := tF h1 <| tN
  exact ⟨t_.ev, ⟨[(33, (.av (.one (.pv (.bool false))))), (0, (.av (.one (.ref 0 0)))), (1, (.av (.one (.pv (.int .i64 k))))), (5, (.av (.one (.pv (.int .u64 n3))))), (30, (.av (.one (.pv (.bools l false))))), (31, (.av (.one (.pv (.int .i64 n))))), (32, (.av (.one (.pv (.int .i64 n4))))), (33, (.av (.one (.pv (.bool (decide ((n4 : Int) < n)))))))], [(0, [(.pv (.bools l2 false)), (.pv (.int .i64 n2))])], []⟩, .k0 t_.pf (by kernel_rfl), ⟨⟨⟨_, rfl, .eq rfl⟩, ⟨_, rfl, .eq rfl⟩, ⟨_, rfl, .eq rfl⟩, trivial⟩, ⟨⟨rfl, ⟨.eq rfl, .eq rfl, trivial⟩⟩, trivial⟩, trivial⟩⟩
theorem zlr (k : Int) (l : List Bool) (n : Int) (l2 : List Bool) (n2 : Int) (s_ : Int × Int) (r_ : Int) (h : runL (zcb k l n l2 n2) s_ = some r_) : zaT Tryz.prog (lEnv Tryz.prog cfg 158 1).nt 1 (.loop (zax Tryz.prog 158 0)) (zfa k l n l2 n2 s_) (ze9 k l n l2 n2 r_).1 (ze9 k l n l2 n2 r_).2 :=
 zaJ h (zmX k l n l2 n2) (by intro r_; rcases r_ with r1 <;> simp [ze9])
noncomputable def zdo (k : Int) (l : List Bool) (n : Int) : Option (Int × List Bool × Int) :=
 (zf0 k).bind fun n2 =>
 bif (decide ((n : Int) = 0)) then
  bif (decide ((((l).length : Int) : Int) < n2)) then
   some (0, l, 6)
  else
   bif decide ((0 : Int) ≤ 0) && decide ((0 : Int) ≤ n2) && decide ((n2 : Int) ≤ ((l).length : Int)) && decide ((n2 : Int) = n2) then
   (runL (zcb n2 (List.take (n2 - 0).toNat l) (((List.take (n2 - 0).toNat l)).length : Int) l n) (0, 0)).bind fun n3 =>
   bif decide ((0 : Int) ≤ n2) && decide ((n2 : Int) ≤ ((l).length : Int)) && decide ((((l).length : Int) : Int) ≤ ((l).length : Int)) && decide ((((l).length : Int) : Int) = ((l).length : Int)) then
   some (n3, (List.take (((l).length : Int) - n2).toNat (List.drop (n2).toNat l)), n)
   else none
   else none
 else
  some (0, l, n)
theorem zaw (k : Int) (l : List Bool) (n : Int) (r_ : Int × List Bool × Int) (h : zdo k l n = some r_) : Runs Tryz.prog 158 [(.one (.ref 0 0)), (.one (.pv (.int .i64 k)))] [[(.pv (.bools l false)), (.pv (.int .i64 n))]] [] (zo4 k l n r_) := by
 unfold zdo at h
 obtain ⟨n2, h1, h⟩ := zaf h
 rcases zaj h with ⟨h2, h⟩ | ⟨h2, h⟩
 ·rcases zaj h with ⟨h3, h⟩ | ⟨h3, h⟩
  ·have h := zad h
   subst h
   have t_ := tR (zdp k _ h1) <| tF (zan h2) <| tT h3 <| tN
   exact zah (C := cfg) (sc := t_.ev) (.k0 t_.pf (by kernel_rfl))
  ·obtain ⟨h4, h⟩ := zaq h
   obtain ⟨n3, h5, h⟩ := zaf h
   obtain ⟨h6, h⟩ := zaq h
   have h := zad h
   subst h
   have t_ := tR (zdp k _ h1) <| tF (zan h2) <| tF h3 <| tO h4 <| tL (zlr n2 (List.take (n2 - 0).toNat l) (((List.take (n2 - 0).toNat l)).length : Int) l n _ _ h5) <| tO h6 <| tN
   exact zah (C := cfg) (sc := t_.ev) (.k0 t_.pf (by kernel_rfl))
 ·have h := zad h
  subst h
  have t_ := tR (zdp k _ h1) <| tT (za7 h2) <| tN
  exact zah (C := cfg) (sc := t_.ev) (.k0 t_.pf (by kernel_rfl))
def zie (depth kind : Int) (b : Bool) (l : List Bool) (n : Int) : (zai × List Bool × Int) ⊕ (List Bool × Int) → Ex × St
 | .inl (r1, r2, r3) => (.ret, ⟨[(4, (.av (.one (.pv (zai.pv r1))))), (5, (.av (.one (.pv (.int .i64 0)))))], [(0, [(.pv (.bools r2 false)), (.pv (.int .i64 r3))])], []⟩)
 | .inr (r1, r2) => (.normal, ⟨[(0, (.av (.one (.ref 0 0)))), (1, (.av (.one (.pv (.int .i64 depth))))), (6, (.av (.one (.pv (.int .u64 kind)))))], [(0, [(.pv (.bools r1 false)), (.pv (.int .i64 r2))])], []⟩)
noncomputable def zdC (depth kind : Int) (b : Bool) (l : List Bool) (n : Int) : Option ((zai × List Bool × Int) ⊕ (List Bool × Int)) :=
 bif b then
  (zdo 1 l n).bind fun (n2, l_, n3) =>
  bif (decide ((n3 : Int) = 0)) then
   some (.inl ((zai.mk (IntKind.i64.wrap n2) zai.nil zai.nil), l_, n3))
  else
   some (.inr (l_, n3))
 else
  some (.inr (l, n))
theorem zd2 (depth kind : Int) (b : Bool) (l : List Bool) (n : Int) (r_ : (zai × List Bool × Int) ⊕ (List Bool × Int)) (h : zdC depth kind b l n = some r_) : zaT Tryz.prog (lEnv Tryz.prog cfg 130 1).nt 1 (.cond (.tmp 21) (zgM Tryz.prog 130 21).1 (zgM Tryz.prog 130 21).2) ⟨[(0, (.av (.one (.ref 0 0)))), (1, (.av (.one (.pv (.int .i64 depth))))), (6, (.av (.one (.pv (.int .u64 kind))))), (21, (.av (.one (.pv (.bool b)))))], [(0, [(.pv (.bools l false)), (.pv (.int .i64 n))])], []⟩ (zie depth kind b l n r_).1 (zie depth kind b l n r_).2 := by
 unfold zdC at h
 rcases zaj h with ⟨h1, h⟩ | ⟨h1, h⟩
 ·obtain ⟨⟨n2, l_, n3⟩, h2, h⟩ := zaf h
  rcases zaj h with ⟨h3, h⟩ | ⟨h3, h⟩
  ·have h := zad h
   subst h
   have t_ := tT h1 <| tR (zaw 1 l n _ h2) <| tT h3 <| tN
   exact zus (C := cfg) (s1 := ⟨[(4, (.av (.one (.pv (.imm [(.int .i64 (IntKind.i64.wrap n2)), .nilp, .nilp] 0))))), (5, (.av (.one (.pv (.int .i64 0)))))], [(0, [(.pv (.bools l_ false)), (.pv (.int .i64 n3))])], []⟩) (sc := t_.ev) (.k0 t_.pf (by kernel_rfl)) ⟨⟨⟨_, rfl, .eq rfl⟩, ⟨_, rfl, .eq rfl⟩, trivial⟩, ⟨⟨rfl, ⟨.eq rfl, .eq rfl, trivial⟩⟩, trivial⟩, trivial⟩
  ·have h := zad h
   subst h
   have t_ := tT h1 <| tR (zaw 1 l n _ h2) <| tF h3 <| tN
   exact zcG (C := cfg) (sc := t_.ev) (.k0 t_.pf (by kernel_rfl))
 ·have h := zad h
  subst h
  have t_ := tF h1 <| tN
  exact zcG (C := cfg) (sc := t_.ev) (.k0 t_.pf (by kernel_rfl))
def zp7 : zai → Res
 | r1 => ([(.one (.pv (zai.pv r1)))], [], [])
noncomputable def zbN : Option (zai) :=
 some (zai.mk 0 zai.nil zai.nil)
theorem zak (r_ : zai) (h : zbN = some r_) : Runs Tryz.prog 71 [] [] [] (zp7 r_) := by
 unfold zbN at h
 have h := zad h
 subst h
 have t_ := tN
 exact Runs.out (zah (C := cfg) (res := ([(.one (.pv (.imm [(.int .i64 0), .nilp, .nilp] 0)))], [], [])) (sc := t_.ev) (.k0 t_.pf (by kernel_rfl))) ⟨.eq rfl, trivial⟩ trivial trivial rfl
def zeb (depth : Int) (l : List Bool) (n : Int) : zai × Int × List Bool × Int → Res
 | (r1, r2, r3, r4) => ([(.one (.pv (zai.pv r1))), (.one (.pv (.int .i64 r2)))], [[(.pv (.bools r3 false)), (.pv (.int .i64 r4))]], [])
def zhc (depth kind : Int) (x y : zai) (b : Bool) (l : List Bool) (n : Int) : (zai × List Bool × Int) ⊕ (zai × Int × List Bool × Int) → Ex × St
 | .inl (r1, r2, r3) => (.normal, ⟨[(0, (.av (.one (.ref 0 0)))), (1, (.av (.one (.pv (.int .i64 depth))))), (6, (.av (.one (.pv (.int .u64 kind))))), (8, (.av (.one (.pv (zai.pv r1))))), (9, (.av (.one (.pv (zai.pv y)))))], [(0, [(.pv (.bools r2 false)), (.pv (.int .i64 r3))])], []⟩)
 | .inr (r1, r2, r3, r4) => (.ret, ⟨[(4, (.av (.one (.pv (zai.pv r1))))), (5, (.av (.one (.pv (.int .i64 r2)))))], [(0, [(.pv (.bools r3 false)), (.pv (.int .i64 r4))])], []⟩)
noncomputable def zec (rec_kr07_GetID_4 : Int → List Bool → Int → Option (zai × Int × List Bool × Int)) (depth kind : Int) (x y : zai) (b : Bool) (l : List Bool) (n : Int) : Option ((zai × List Bool × Int) ⊕ (zai × Int × List Bool × Int)) :=
 bif b then
  (rec_kr07_GetID_4 (iadd .i64 depth 1) l n).bind fun (t, n2, l_, n3) =>
  bif (decide ((n2 : Int) = 0)) then
   some (.inl (t, l_, n3))
  else
   (zbN).bind fun t2 =>
   some (.inr (t2, n2, l_, n3))
 else
  some (.inl (x, l, n))
theorem zgB (rec_kr07_GetID_4 : Int → List Bool → Int → Option (zai × Int × List Bool × Int)) (hrec_kr07_GetID_4 : ∀ depth l n r_, rec_kr07_GetID_4 depth l n = some r_ → Runs Tryz.prog 130 [(.one (.ref 0 0)), (.one (.pv (.int .i64 depth)))] [[(.pv (.bools l false)), (.pv (.int .i64 n))]] [] (zeb depth l n r_)) (depth kind : Int) (x y : zai) (b : Bool) (l : List Bool) (n : Int) (r_ : (zai × List Bool × Int) ⊕ (zai × Int × List Bool × Int)) (h : zec rec_kr07_GetID_4 depth kind x y b l n = some r_) : zaT Tryz.prog (lEnv Tryz.prog cfg 130 1).nt 1 (.cond (.tmp 45) (zgM Tryz.prog 130 45).1 (zgM Tryz.prog 130 45).2) ⟨[(0, (.av (.one (.ref 0 0)))), (1, (.av (.one (.pv (.int .i64 depth))))), (6, (.av (.one (.pv (.int .u64 kind))))), (8, (.av (.one (.pv (zai.pv x))))), (9, (.av (.one (.pv (zai.pv y))))), (45, (.av (.one (.pv (.bool b)))))], [(0, [(.pv (.bools l false)), (.pv (.int .i64 n))])], []⟩ (zhc depth kind x y b l n r_).1 (zhc depth kind x y b l n r_).2 := by
 unfold zec at h
 rcases zaj h with ⟨h1, h⟩ | ⟨h1, h⟩
 ·obtain ⟨⟨t, n2, l_, n3⟩, h2, h⟩ := zaf h
  have q_2 := (hrec_kr07_GetID_4 (iadd .i64 depth 1) l n _ h2)
  rcases zaj h with ⟨h3, h⟩ | ⟨h3, h⟩
  ·have h := zad h
   subst h
   have t_ := tT h1 <| tR q_2 <| tF (zan h3) <| tN
   exact zcG (C := cfg) (sc := t_.ev) (.k0 t_.pf (by kernel_rfl))
  ·obtain ⟨t2, h4, h⟩ := zaf h
   have h := zad h
   subst h
   have t_ := tT h1 <| tR q_2 <| tT (za7 h3) <| tR (zak _ h4) <| tN
   exact zcG (C := cfg) (sc := t_.ev) (.k0 t_.pf (by kernel_rfl))
 ·have h := zad h
  subst h
  have t_ := tF h1 <| tN
  exact zcG (C := cfg) (sc := t_.ev) (.k0 t_.pf (by kernel_rfl))
def zig (depth kind : Int) (x y : zai) (b : Bool) (l : List Bool) (n : Int) : (zai × List Bool × Int) ⊕ (zai × Int × List Bool × Int) → Ex × St
 | .inl (r1, r2, r3) => (.normal, ⟨[(6, (.av (.one (.pv (.int .u64 kind))))), (8, (.av (.one (.pv (zai.pv x))))), (9, (.av (.one (.pv (zai.pv r1)))))], [(0, [(.pv (.bools r2 false)), (.pv (.int .i64 r3))])], []⟩)
 | .inr (r1, r2, r3, r4) => (.ret, ⟨[(4, (.av (.one (.pv (zai.pv r1))))), (5, (.av (.one (.pv (.int .i64 r2)))))], [(0, [(.pv (.bools r3 false)), (.pv (.int .i64 r4))])], []⟩)
noncomputable def zee (rec_kr07_GetID_4 : Int → List Bool → Int → Option (zai × Int × List Bool × Int)) (depth kind : Int) (x y : zai) (b : Bool) (l : List Bool) (n : Int) : Option ((zai × List Bool × Int) ⊕ (zai × Int × List Bool × Int)) :=
 bif b then
  (rec_kr07_GetID_4 (iadd .i64 depth 1) l n).bind fun (t, n2, l_, n3) =>
  bif (decide ((n2 : Int) = 0)) then
   some (.inl (t, l_, n3))
  else
   (zbN).bind fun t2 =>
   some (.inr (t2, n2, l_, n3))
 else
  some (.inl (y, l, n))
theorem zd3 (rec_kr07_GetID_4 : Int → List Bool → Int → Option (zai × Int × List Bool × Int)) (hrec_kr07_GetID_4 : ∀ depth l n r_, rec_kr07_GetID_4 depth l n = some r_ → Runs Tryz.prog 130 [(.one (.ref 0 0)), (.one (.pv (.int .i64 depth)))] [[(.pv (.bools l false)), (.pv (.int .i64 n))]] [] (zeb depth l n r_)) (depth kind : Int) (x y : zai) (b : Bool) (l : List Bool) (n : Int) (r_ : (zai × List Bool × Int) ⊕ (zai × Int × List Bool × Int)) (h : zee rec_kr07_GetID_4 depth kind x y b l n = some r_) : zaT Tryz.prog (lEnv Tryz.prog cfg 130 1).nt 1 (.cond (.tmp 58) (zgM Tryz.prog 130 58).1 (zgM Tryz.prog 130 58).2) ⟨[(0, (.av (.one (.ref 0 0)))), (1, (.av (.one (.pv (.int .i64 depth))))), (6, (.av (.one (.pv (.int .u64 kind))))), (8, (.av (.one (.pv (zai.pv x))))), (9, (.av (.one (.pv (zai.pv y))))), (58, (.av (.one (.pv (.bool b)))))], [(0, [(.pv (.bools l false)), (.pv (.int .i64 n))])], []⟩ (zig depth kind x y b l n r_).1 (zig depth kind x y b l n r_).2 := by
 unfold zee at h
 rcases zaj h with ⟨h1, h⟩ | ⟨h1, h⟩
 ·obtain ⟨⟨t, n2, l_, n3⟩, h2, h⟩ := zaf h
  have q_2 := (hrec_kr07_GetID_4 (iadd .i64 depth 1) l n _ h2)
  rcases zaj h with ⟨h3, h⟩ | ⟨h3, h⟩
  ·have h := zad h
   subst h
   have t_ := tT h1 <| tR q_2 <| tF (zan h3) <| tN
   exact zcG (C := cfg) (sc := t_.ev) (.k0 t_.pf (by kernel_rfl))
  ·obtain ⟨t2, h4, h⟩ := zaf h
   have h := zad h
   subst h
   have t_ := tT h1 <| tR q_2 <| tT (za7 h3) <| tR (zak _ h4) <| tN
   exact zcG (C := cfg) (sc := t_.ev) (.k0 t_.pf (by kernel_rfl))
 ·have h := zad h
  subst h
  have t_ := tF h1 <| tN
  exact zcG (C := cfg) (sc := t_.ev) (.k0 t_.pf (by kernel_rfl))
end Go.Proofs.YtjjcmgdgifcmgaaGreat
