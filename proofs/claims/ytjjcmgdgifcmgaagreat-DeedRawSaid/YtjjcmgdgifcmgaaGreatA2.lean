/- What functions compute, and that they do. -/
import Derived.Test.YtjjcmgdgifcmgaaGreatSo
set_option linter.unusedVariables false
set_option linter.unusedSimpArgs false
set_option maxRecDepth 100000
namespace Go.Proofs.YtjjcmgdgifcmgaaGreat
open Go.Ev
def zmU (p : List Int) : Bool → Res
 | r1 => ([(.one (.pv (.bool r1)))], [], [])
def zo2 : Bool → Res
 | r1 => ([(.one (.pv (.bool r1)))], [], [])
def zqE (self : Int) : Unit → Res
 | _ => ([(.one (.ref 0 0))], [[(.pv (.int .i64 self)), (.pv (.int .u64 0)), (.pv .nils), (.mp 1), (.mp 2)], [(.maph (.int .i64) false (List.map M_int_int.pv []) [])], [(.maph (.st [.i64, .u64]) false (List.map M_deed_Mark_int.pv []) [])]], [])
noncomputable def zjV (self : Int) : Option (Unit) :=
 some ()
theorem zdX (self : Int) (r_ : Unit) (h : zjV self = some r_) : Runs Tryz.prog 8 [(.one (.pv (.int .i64 self)))] [] [] (zqE self r_) := by
 unfold zjV at h
 have h := zad h
 subst h
 have t_ := tN
 exact Runs.out (zah (C := cfg) (res := ([(.one (.ref 0 0))], [[(.pv (.int .i64 self)), (.pv (.int .u64 0)), (.pv .nils), (.mp 1), (.mp 2)], [(.maph (.int .i64) false [] [])], [(.maph (.st [.i64, .u64]) false [] [])]], [])) (sc := t_.ev) (.k0 t_.pf (by kernel_rfl))) ⟨.eq rfl, trivial⟩ ⟨⟨.eq rfl, .eq rfl, .eq rfl, .eq rfl, .eq rfl, trivial⟩, ⟨.maph (WkEs.to (WkEs.refl _) (by first | rfl | (simp only [M_deed_Mark_int.set, M_int_int.set]; done) | (simp only [M_deed_Mark_int.set, M_int_int.set, kset, kdel]; rfl))), trivial⟩, ⟨.maph (WkEs.to (WkEs.refl _) (by first | rfl | (simp only [M_deed_Mark_int.set, M_int_int.set]; done) | (simp only [M_deed_Mark_int.set, M_int_int.set, kset, kdel]; rfl))), trivial⟩, trivial⟩ trivial rfl
def zti : Unit → Res
 | _ => ([(.agg [(.pv (.bool true)), (.pv (zab.pv zab.nil))])], [], [])
noncomputable def zkr : Option (Unit) :=
 some ()
theorem zd0 (r_ : Unit) (h : zkr = some r_) : Runs Tryz.prog 16 [] [] [] (zti r_) := by
 unfold zkr at h
 have h := zad h
 subst h
 have t_ := tN
 exact Runs.out (zah (C := cfg) (res := ([(.agg [(.pv (.bool true)), (.pv .nilp)])], [], [])) (sc := t_.ev) (.k0 t_.pf (by kernel_rfl))) ⟨⟨.eq rfl, .eq rfl, trivial⟩, trivial⟩ trivial trivial rfl
def zkM (to : Int) (share : Bool) (share2 : zab) (n n2 : Int) (m : List (Int × Int)) (m2 : List ((Int × Int) × Int)) : (Int) ⊕ (Int × Int × List zaa × List (Int × Int)) → Res
 | .inl r1 => ([(.agg [(.pv (.int .u64 0)), (.pv (.int .i64 0)), (.pv (.int .i64 0)), (.pv (.bool false)), (.pv (zab.pv zab.nil))]), (.one (.pv (.int .i64 r1)))], [[(.pv (.int .i64 n)), (.pv (.int .u64 n2)), (.pv .nils), (.mp 1), (.mp 2)], [(.maph (.int .i64) false (List.map M_int_int.pv m) [])], [(.maph (.st [.i64, .u64]) false (List.map M_deed_Mark_int.pv m2) [])]], [])
 | .inr (r1, r2, r3, r4) => ([(.agg [(.pv (.int .u64 r1)), (.pv (.int .i64 n)), (.pv (.int .i64 to)), (.pv (.bool share)), (.pv (zab.pv share2))]), (.one (.pv (.int .i64 0)))], [[(.pv (.int .i64 n)), (.pv (.int .u64 r2)), (.pv (.recs 5 (List.map zaa.pv r3) false)), (.mp 1), (.mp 2)], [(.maph (.int .i64) false (List.map M_int_int.pv r4) [])], [(.maph (.st [.i64, .u64]) false (List.map M_deed_Mark_int.pv m2) [])]], [])
def zkN (n n2 : Int) (m : List (Int × Int)) (m2 : List ((Int × Int) × Int)) : Unit → Res
 | _ => ([(.one (.pv (.int .u64 n2)))], [[(.pv (.int .i64 n)), (.pv (.int .u64 n2)), (.pv .nils), (.mp 1), (.mp 2)], [(.maph (.int .i64) false (List.map M_int_int.pv m) [])], [(.maph (.st [.i64, .u64]) false (List.map M_deed_Mark_int.pv m2) [])]], [])
noncomputable def zfp (n n2 : Int) (m : List (Int × Int)) (m2 : List ((Int × Int) × Int)) : Option (Unit) :=
 some ()
theorem zdF (n n2 : Int) (m : List (Int × Int)) (m2 : List ((Int × Int) × Int)) (r_ : Unit) (h : zfp n n2 m m2 = some r_) : Runs Tryz.prog 23 [(.one (.ref 0 0))] [[(.pv (.int .i64 n)), (.pv (.int .u64 n2)), (.pv .nils), (.mp 1), (.mp 2)], [(.maph (.int .i64) false (List.map M_int_int.pv m) [])], [(.maph (.st [.i64, .u64]) false (List.map M_deed_Mark_int.pv m2) [])]] [] (zkN n n2 m m2 r_) := by
 unfold zfp at h
 have h := zad h
 subst h
 have t_ := tF (rfl : false = false) <| tN
 exact zah (C := cfg) (sc := t_.ev) (.k0 t_.pf (by kernel_rfl))
def zkO (n n2 : Int) (m : List (Int × Int)) (m2 : List ((Int × Int) × Int)) : Unit → Res
 | _ => ([(.one (.pv (.int .i64 n)))], [[(.pv (.int .i64 n)), (.pv (.int .u64 n2)), (.pv .nils), (.mp 1), (.mp 2)], [(.maph (.int .i64) false (List.map M_int_int.pv m) [])], [(.maph (.st [.i64, .u64]) false (List.map M_deed_Mark_int.pv m2) [])]], [])
noncomputable def zfq (n n2 : Int) (m : List (Int × Int)) (m2 : List ((Int × Int) × Int)) : Option (Unit) :=
 some ()
theorem zdG (n n2 : Int) (m : List (Int × Int)) (m2 : List ((Int × Int) × Int)) (r_ : Unit) (h : zfq n n2 m m2 = some r_) : Runs Tryz.prog 22 [(.one (.ref 0 0))] [[(.pv (.int .i64 n)), (.pv (.int .u64 n2)), (.pv .nils), (.mp 1), (.mp 2)], [(.maph (.int .i64) false (List.map M_int_int.pv m) [])], [(.maph (.st [.i64, .u64]) false (List.map M_deed_Mark_int.pv m2) [])]] [] (zkO n n2 m m2 r_) := by
 unfold zfq at h
 have h := zad h
 subst h
 have t_ := tF (rfl : false = false) <| tN
 exact zah (C := cfg) (sc := t_.ev) (.k0 t_.pf (by kernel_rfl))
def zlT (to n n2 : Int) (m : List (Int × Int)) (m2 : List ((Int × Int) × Int)) : Int × Int × Int × Bool × zab × Bool → Res
 | (r1, r2, r3, r4, r5, r6) => ([(.agg [(.pv (.int .u64 r1)), (.pv (.int .i64 r2)), (.pv (.int .i64 r3)), (.pv (.bool r4)), (.pv (zab.pv r5))]), (.one (.pv (.bool r6)))], [[(.pv (.int .i64 n)), (.pv (.int .u64 n2)), (.pv .nils), (.mp 1), (.mp 2)], [(.maph (.int .i64) false (List.map M_int_int.pv m) [])], [(.maph (.st [.i64, .u64]) false (List.map M_deed_Mark_int.pv m2) [])]], [])
def zja (n n2 : Int) (m : List (Int × Int)) (m2 : List ((Int × Int) × Int)) : Unit → Res
 | _ => ([(.one (.own 0 0 ((List.map zaa.pv [])).length false))], [[(.pv (.int .i64 n)), (.pv (.int .u64 n2)), (.pv .nils), (.mp 1), (.mp 2)], [(.maph (.int .i64) false (List.map M_int_int.pv m) [])], [(.maph (.st [.i64, .u64]) false (List.map M_deed_Mark_int.pv m2) [])]], [(.recs 5 (List.map zaa.pv []))])
noncomputable def zcC (n n2 : Int) (m : List (Int × Int)) (m2 : List ((Int × Int) × Int)) : Option (Unit) :=
 (zbm []).bind fun _ =>
 some ()
theorem zdW (n n2 : Int) (m : List (Int × Int)) (m2 : List ((Int × Int) × Int)) (r_ : Unit) (h : zcC n n2 m m2 = some r_) : Runs Tryz.prog 25 [(.one (.ref 0 0))] [[(.pv (.int .i64 n)), (.pv (.int .u64 n2)), (.pv .nils), (.mp 1), (.mp 2)], [(.maph (.int .i64) false (List.map M_int_int.pv m) [])], [(.maph (.st [.i64, .u64]) false (List.map M_deed_Mark_int.pv m2) [])]] [] (zja n n2 m m2 r_) := by
 unfold zcC at h
 obtain ⟨_, h1, h⟩ := zaf h
 have h := zad h
 subst h
 have t_ := tF (rfl : false = false) <| tR (Runs.coe (as' := [(.one (.pv .nils))]) (objs' := []) (rows' := []) (zeG [] _ h1) ⟨.pv (.nilsR), trivial⟩ trivial trivial) <| tN
 exact zah (C := cfg) (sc := t_.ev) (.k0 t_.pf (by kernel_rfl))
def zfe (to n n2 n3 : Int) (m : List (Int × Int)) (m2 : List ((Int × Int) × Int)) : Int → St
 | n4 => ⟨[(1, (.av (.one (.pv (.int .i64 to))))), (4, (.av (.one (.ref 3 0)))), (9, (.av (.one (.own 0 0 ((List.map zaa.pv [])).length false)))), (10, (.av (.one (.pv (.int .i64 n))))), (11, (.av (.one (.pv (.int .i64 n4)))))], [(0, [(.pv (.int .i64 n2)), (.pv (.int .u64 n3)), (.pv .nils), (.mp 1), (.mp 2)]), (1, [(.maph (.int .i64) false (List.map M_int_int.pv m) [])]), (2, [(.maph (.st [.i64, .u64]) false (List.map M_deed_Mark_int.pv m2) [])]), (3, [(.pv (.int .u64 0)), (.pv (.int .i64 0)), (.pv (.int .i64 0)), (.pv (.bool false)), (.pv (zab.pv zab.nil))])], [(0, (.live (.recs 5 (List.map zaa.pv []))))]⟩
def zc3 (to n n2 n3 : Int) (m : List (Int × Int)) (m2 : List ((Int × Int) × Int)) : (Int × Int × Int × Bool × zab) ⊕ (Unit) → Ex × St
 | .inl (r1, r2, r3, r4, r5) => (.ret, ⟨[(4, (.av (.one (.ref 3 0)))), (5, (.av (.one (.pv (.bool true)))))], [(0, [(.pv (.int .i64 n2)), (.pv (.int .u64 n3)), (.pv .nils), (.mp 1), (.mp 2)]), (1, [(.maph (.int .i64) false (List.map M_int_int.pv m) [])]), (2, [(.maph (.st [.i64, .u64]) false (List.map M_deed_Mark_int.pv m2) [])]), (3, [(.pv (.int .u64 r1)), (.pv (.int .i64 r2)), (.pv (.int .i64 r3)), (.pv (.bool r4)), (.pv (zab.pv r5))])], []⟩)
 | .inr _ => ((.exit 0), ⟨[(4, (.av (.one (.ref 3 0))))], [(0, [(.pv (.int .i64 n2)), (.pv (.int .u64 n3)), (.pv .nils), (.mp 1), (.mp 2)]), (1, [(.maph (.int .i64) false (List.map M_int_int.pv m) [])]), (2, [(.maph (.st [.i64, .u64]) false (List.map M_deed_Mark_int.pv m2) [])]), (3, [(.pv (.int .u64 0)), (.pv (.int .i64 0)), (.pv (.int .i64 0)), (.pv (.bool false)), (.pv (zab.pv zab.nil))])], [(0, (.live (.recs 5 (List.map zaa.pv []))))]⟩)
noncomputable def zcB (to n n2 n3 : Int) (m : List (Int × Int)) (m2 : List ((Int × Int) × Int)) : Int → Option ((Int) ⊕ ((Int × Int × Int × Bool × zab) ⊕ (Unit)))
 | n4 =>
 bif (decide ((n4 : Int) < n)) then
  bif decide ((0 : Int) ≤ n4) && decide ((n4 : Int) < (((List.map zaa.pv [])).length : Int)) then
  (([] : List zaa)[(0 + (n4).toNat)]?).bind fun e_ => match e_ with
  | .mk n5 n6 n7 b t =>
  bif (decide ((n7 : Int) = to)) then
   some (.inr (.inl (n5, n6, n7, b, t)))
  else
   some (.inl (iadd .i64 n4 1))
  else none
 else
  some (.inr (.inr ()))
theorem zkP (to n n2 n3 : Int) (m : List (Int × Int)) (m2 : List ((Int × Int) × Int)) (n4 : Int) (z_ : (Int) ⊕ ((Int × Int × Int × Bool × zab) ⊕ (Unit))) (h : zcB to n n2 n3 m m2 n4 = some z_) : zaP Tryz.prog cfg 17 3 (zax Tryz.prog 17 0) (zfe to n n2 n3 m m2) (zc3 to n n2 n3 m m2) n4 z_ := by
 rcases zaj h with ⟨h1, h⟩ | ⟨h1, h⟩
 ·obtain ⟨h2, h⟩ := zaq h
  obtain ⟨⟨n5, n6, n7, b, t⟩, h3, h⟩ := zaf h
  rcases zaj h with ⟨h4, h⟩ | ⟨h4, h⟩
  ·have h := zad h
   subst h
   have t_ := tT h1 <| tO h2 <| tE (.el [(.int .u64 n5), (.int .i64 n6), (.int .i64 n7), (.bool b), (zab.pv t)]) <| tO (zc0 (f := zaa.pv) h3) <| tT h4 <| tN
   exact ⟨t_.ev, (zc3 to n n2 n3 m m2 (.inl (n5, n6, n7, b, t))).2, .k0 t_.pf (by kernel_rfl), .same (by kernel_rfl)⟩
  ·have h := zad h
   subst h
   have t_ := tT h1 <| tO h2 <| tE (.el [(.int .u64 n5), (.int .i64 n6), (.int .i64 n7), (.bool b), (zab.pv t)]) <| tO (zc0 (f := zaa.pv) h3) <| tF h4 <| tN
   exact ⟨t_.ev, zfe to n n2 n3 m m2 (iadd .i64 n4 1), .k0 t_.pf (by kernel_rfl), .same (by kernel_rfl)⟩
 ·have h := zad h
  subst h
  have t_ := tF h1 <| tN
  exact ⟨t_.ev, ⟨[(12, (.av (.one (.pv (.bool false))))), (1, (.av (.one (.pv (.int .i64 to))))), (4, (.av (.one (.ref 3 0)))), (9, (.av (.one (.own 0 0 ((List.map zaa.pv [])).length false)))), (10, (.av (.one (.pv (.int .i64 n))))), (11, (.av (.one (.pv (.int .i64 n4))))), (12, (.av (.one (.pv (.bool (decide ((n4 : Int) < n)))))))], [(0, [(.pv (.int .i64 n2)), (.pv (.int .u64 n3)), (.pv .nils), (.mp 1), (.mp 2)]), (1, [(.maph (.int .i64) false (List.map M_int_int.pv m) [])]), (2, [(.maph (.st [.i64, .u64]) false (List.map M_deed_Mark_int.pv m2) [])]), (3, [(.pv (.int .u64 0)), (.pv (.int .i64 0)), (.pv (.int .i64 0)), (.pv (.bool false)), (.pv (zab.pv zab.nil))])], [(0, (.live (.recs 5 (List.map zaa.pv []))))]⟩, .k0 t_.pf (by kernel_rfl), ⟨⟨⟨_, rfl, .eq rfl⟩, trivial⟩, ⟨⟨rfl, ⟨.eq rfl, .eq rfl, .eq rfl, .eq rfl, .eq rfl, trivial⟩⟩, ⟨rfl, ⟨.eq rfl, trivial⟩⟩, ⟨rfl, ⟨.eq rfl, trivial⟩⟩, ⟨rfl, ⟨.eq rfl, .eq rfl, .eq rfl, .eq rfl, .eq rfl, trivial⟩⟩, trivial⟩, ⟨⟨rfl, .eq rfl⟩, trivial⟩⟩⟩
theorem zgt (to n n2 n3 : Int) (m : List (Int × Int)) (m2 : List ((Int × Int) × Int)) (s_ : Int) (r_ : (Int × Int × Int × Bool × zab) ⊕ (Unit)) (h : runL (zcB to n n2 n3 m m2) s_ = some r_) : zaT Tryz.prog (lEnv Tryz.prog cfg 17 3).nt 3 (.loop (zax Tryz.prog 17 0)) (zfe to n n2 n3 m m2 s_) (zc3 to n n2 n3 m m2 r_).1 (zc3 to n n2 n3 m m2 r_).2 :=
 zaJ h (zkP to n n2 n3 m m2) (by intro r_; rcases r_ with ⟨r1, r2, r3, r4, r5⟩ | _ <;> simp [zc3])
noncomputable def zfr (to n n2 : Int) (m : List (Int × Int)) (m2 : List ((Int × Int) × Int)) : Option (Int × Int × Int × Bool × zab × Bool) :=
 (zcC n n2 m m2).bind fun _ =>
 (runL (zcB to (((List.map zaa.pv [])).length : Int) n n2 m m2) 0).bind fun z_ => match z_ with
 | .inl (n3, n4, n5, b, t) =>
  some (n3, n4, n5, b, t, true)
 | .inr _ =>
  some (0, 0, 0, false, zab.nil, false)
theorem zld (to n n2 : Int) (m : List (Int × Int)) (m2 : List ((Int × Int) × Int)) (r_ : Int × Int × Int × Bool × zab × Bool) (h : zfr to n n2 m m2 = some r_) : Runs Tryz.prog 17 [(.one (.ref 0 0)), (.one (.pv (.int .i64 to)))] [[(.pv (.int .i64 n)), (.pv (.int .u64 n2)), (.pv .nils), (.mp 1), (.mp 2)], [(.maph (.int .i64) false (List.map M_int_int.pv m) [])], [(.maph (.st [.i64, .u64]) false (List.map M_deed_Mark_int.pv m2) [])]] [] (zlT to n n2 m m2 r_) := by
 unfold zfr at h
 obtain ⟨_, h1, h⟩ := zaf h
 obtain ⟨z_, h2, h⟩ := zaf h
 rcases z_ with ⟨n3, n4, n5, b, t⟩ | _
 ·have h := zad h
  subst h
  have t_ := tR (zdW n n2 m m2 _ h1) <| tL (zaT.coe (s0 := ⟨[(1, (.av (.one (.pv (.int .i64 to))))), (4, (.av (.one (.ref 3 0)))), (9, (.av (.one (.own 0 0 ((List.map zaa.pv [])).length false)))), (10, (.av (.one (.pv (.int .i64 (((List.map zaa.pv [])).length : Int)))))), (11, (.av (.one (.pv (.int .i64 0)))))], [(0, [(.pv (.int .i64 n)), (.pv (.int .u64 n2)), (.pv .nils), (.mp 1), (.mp 2)]), (1, [(.maph (.int .i64) false (List.map M_int_int.pv m) [])]), (2, [(.maph (.st [.i64, .u64]) false (List.map M_deed_Mark_int.pv m2) [])]), (3, [(.pv (.int .u64 0)), (.pv (.int .i64 0)), (.pv (.int .i64 0)), (.pv (.bool false)), (.pv .nilp)])], [(0, (.live (.recs 5 (List.map zaa.pv []))))]⟩) (zgt to (((List.map zaa.pv [])).length : Int) n n2 m m2 _ _ h2) ⟨⟨⟨_, rfl, .eq rfl⟩, ⟨_, rfl, .eq rfl⟩, ⟨_, rfl, .eq rfl⟩, ⟨_, rfl, .eq rfl⟩, ⟨_, rfl, .eq rfl⟩, trivial⟩, ⟨⟨rfl, ⟨.eq rfl, .eq rfl, .eq rfl, .eq rfl, .eq rfl, trivial⟩⟩, ⟨rfl, ⟨.eq rfl, trivial⟩⟩, ⟨rfl, ⟨.eq rfl, trivial⟩⟩, ⟨rfl, ⟨.eq rfl, .eq rfl, .eq rfl, .eq rfl, .eq rfl, trivial⟩⟩, trivial⟩, ⟨⟨rfl, .eq rfl⟩, trivial⟩⟩) <| tN
  exact zah (C := cfg) (sc := t_.ev) (.k0 t_.pf (by kernel_rfl))
 ·have h := zad h
  subst h
  have t_ := tR (zdW n n2 m m2 _ h1) <| tL (zaT.coe (s0 := ⟨[(1, (.av (.one (.pv (.int .i64 to))))), (4, (.av (.one (.ref 3 0)))), (9, (.av (.one (.own 0 0 ((List.map zaa.pv [])).length false)))), (10, (.av (.one (.pv (.int .i64 (((List.map zaa.pv [])).length : Int)))))), (11, (.av (.one (.pv (.int .i64 0)))))], [(0, [(.pv (.int .i64 n)), (.pv (.int .u64 n2)), (.pv .nils), (.mp 1), (.mp 2)]), (1, [(.maph (.int .i64) false (List.map M_int_int.pv m) [])]), (2, [(.maph (.st [.i64, .u64]) false (List.map M_deed_Mark_int.pv m2) [])]), (3, [(.pv (.int .u64 0)), (.pv (.int .i64 0)), (.pv (.int .i64 0)), (.pv (.bool false)), (.pv .nilp)])], [(0, (.live (.recs 5 (List.map zaa.pv []))))]⟩) (zgt to (((List.map zaa.pv [])).length : Int) n n2 m m2 _ _ h2) ⟨⟨⟨_, rfl, .eq rfl⟩, ⟨_, rfl, .eq rfl⟩, ⟨_, rfl, .eq rfl⟩, ⟨_, rfl, .eq rfl⟩, ⟨_, rfl, .eq rfl⟩, trivial⟩, ⟨⟨rfl, ⟨.eq rfl, .eq rfl, .eq rfl, .eq rfl, .eq rfl, trivial⟩⟩, ⟨rfl, ⟨.eq rfl, trivial⟩⟩, ⟨rfl, ⟨.eq rfl, trivial⟩⟩, ⟨rfl, ⟨.eq rfl, .eq rfl, .eq rfl, .eq rfl, .eq rfl, trivial⟩⟩, trivial⟩, ⟨⟨rfl, .eq rfl⟩, trivial⟩⟩) <| tN
  exact Runs.out (zah (C := cfg) (res := ([(.agg [(.pv (.int .u64 0)), (.pv (.int .i64 0)), (.pv (.int .i64 0)), (.pv (.bool false)), (.pv .nilp)]), (.one (.pv (.bool false)))], [[(.pv (.int .i64 n)), (.pv (.int .u64 n2)), (.pv .nils), (.mp 1), (.mp 2)], [(.maph (.int .i64) false (List.map M_int_int.pv m) [])], [(.maph (.st [.i64, .u64]) false (List.map M_deed_Mark_int.pv m2) [])]], [])) (sc := t_.ev) (.k0 t_.pf (by kernel_rfl))) ⟨⟨.eq rfl, .eq rfl, .eq rfl, .eq rfl, .eq rfl, trivial⟩, .eq rfl, trivial⟩ ⟨⟨.eq rfl, .eq rfl, .eq rfl, .eq rfl, .eq rfl, trivial⟩, ⟨.eq rfl, trivial⟩, ⟨.eq rfl, trivial⟩, trivial⟩ trivial rfl
def zkQ (g g2 g3 : Int) (g4 : Bool) (g5 : zab) : Bool → Res
 | r1 => ([(.one (.pv (.bool r1)))], [], [])
def zpV (n : Int) : Bool → Res
 | r1 => ([(.one (.pv (.bool r1)))], [], [])
noncomputable def zfu (n : Int) : Option (Bool) :=
 bif (decide ((0 : Int) ≤ n)) then
  some (decide ((n : Int) < 12))
 else
  some false
theorem zcz (n : Int) (r_ : Bool) (h : zfu n = some r_) : Runs Tryz.prog 81 [(.one (.pv (.int .i64 n)))] [] [] (zpV n r_) := by
 unfold zfu at h
 rcases zaj h with ⟨h1, h⟩ | ⟨h1, h⟩
 ·have h := zad h
  subst h
  have t_ := tT h1 <| tN
  exact zah (C := cfg) (sc := t_.ev) (.k0 t_.pf (by kernel_rfl))
 ·have h := zad h
  subst h
  have t_ := tF h1 <| tN
  exact zah (C := cfg) (sc := t_.ev) (.k0 t_.pf (by kernel_rfl))
def zmS (i : Bool) (i2 : zab) : Bool → Res
 | r1 => ([(.one (.pv (.bool r1)))], [], [])
noncomputable def za0 (i : Bool) (i2 : zab) : Option (Bool) :=
 bif i then
  some false
 else
  match i2 with
  | .nil =>
   some true
  | .mk b t b2 t2 =>
   some false
theorem zap (i : Bool) (i2 : zab) (r_ : Bool) (h : za0 i i2 = some r_) : Runs Tryz.prog 15 [(.agg [(.pv (.bool i)), (.pv (zab.pv i2))])] [] [] (zmS i i2 r_) := by
 unfold za0 at h
 rcases zaj h with ⟨h1, h⟩ | ⟨h1, h⟩
 ·have h := zad h
  subst h
  have t_ := tF (zan h1) <| tN
  exact zah (C := cfg) (sc := t_.ev) (.k0 t_.pf (by kernel_rfl))
 ·cases i2 with
  | nil =>
   have h := zad h
   subst h
   have t_ := tT (za7 h1) <| tN
   exact zah (C := cfg) (sc := t_.ev) (.k0 t_.pf (by kernel_rfl))
  | mk b t b2 t2 =>
   have h := zad h
   subst h
   have t_ := tT (za7 h1) <| tN
   exact zah (C := cfg) (sc := t_.ev) (.k0 t_.pf (by kernel_rfl))
noncomputable def zbV (g g2 g3 : Int) (g4 : Bool) (g5 : zab) : Option (Bool) :=
 bif (decide ((1 : Int) ≤ g)) then
  bif (decide ((g : Int) < 4611686018427387904)) then
   (zfu g2).bind fun b =>
   bif b then
    (zfu g3).bind fun b2 =>
    bif b2 then
     bif (decide ((g2 : Int) = g3)) then
      some false
     else
      (za0 g4 g5).bind fun b3 =>
      some (!b3)
    else
     some false
   else
    some false
  else
   some false
 else
  some false
theorem zcQ (g g2 g3 : Int) (g4 : Bool) (g5 : zab) (r_ : Bool) (h : zbV g g2 g3 g4 g5 = some r_) : Runs Tryz.prog 42 [(.agg [(.pv (.int .u64 g)), (.pv (.int .i64 g2)), (.pv (.int .i64 g3)), (.pv (.bool g4)), (.pv (zab.pv g5))])] [] [] (zkQ g g2 g3 g4 g5 r_) := by
 unfold zbV at h
 rcases zaj h with ⟨h1, h⟩ | ⟨h1, h⟩
 ·rcases zaj h with ⟨h2, h⟩ | ⟨h2, h⟩
  ·obtain ⟨b, h3, h⟩ := zaf h
   rcases zaj h with ⟨h4, h⟩ | ⟨h4, h⟩
   ·obtain ⟨b2, h5, h⟩ := zaf h
    rcases zaj h with ⟨h6, h⟩ | ⟨h6, h⟩
    ·rcases zaj h with ⟨h7, h⟩ | ⟨h7, h⟩
     ·have h := zad h
      subst h
      have t_ := tT h1 <| tT h2 <| tR (zcz g2 _ h3) <| tT h4 <| tR (zcz g3 _ h5) <| tT h6 <| tF (zan h7) <| tN
      exact zah (C := cfg) (sc := t_.ev) (.k0 t_.pf (by kernel_rfl))
     ·obtain ⟨b3, h8, h⟩ := zaf h
      have h := zad h
      subst h
      have t_ := tT h1 <| tT h2 <| tR (zcz g2 _ h3) <| tT h4 <| tR (zcz g3 _ h5) <| tT h6 <| tT (za7 h7) <| tR (zap g4 g5 _ h8) <| tN
      exact zah (C := cfg) (sc := t_.ev) (.k0 t_.pf (by kernel_rfl))
    ·have h := zad h
     subst h
     have t_ := tT h1 <| tT h2 <| tR (zcz g2 _ h3) <| tT h4 <| tR (zcz g3 _ h5) <| tF h6 <| tF (rfl : false = false) <| tN
     exact zah (C := cfg) (sc := t_.ev) (.k0 t_.pf (by kernel_rfl))
   ·have h := zad h
    subst h
    have t_ := tT h1 <| tT h2 <| tR (zcz g2 _ h3) <| tF h4 <| tF (rfl : false = false) <| tF (rfl : false = false) <| tN
    exact zah (C := cfg) (sc := t_.ev) (.k0 t_.pf (by kernel_rfl))
  ·have h := zad h
   subst h
   have t_ := tT h1 <| tF h2 <| tF (rfl : false = false) <| tF (rfl : false = false) <| tF (rfl : false = false) <| tN
   exact zah (C := cfg) (sc := t_.ev) (.k0 t_.pf (by kernel_rfl))
 ·have h := zad h
  subst h
  have t_ := tF h1 <| tF (rfl : false = false) <| tF (rfl : false = false) <| tF (rfl : false = false) <| tF (rfl : false = false) <| tN
  exact zah (C := cfg) (sc := t_.ev) (.k0 t_.pf (by kernel_rfl))
noncomputable def zeB (to : Int) (share : Bool) (share2 : zab) (n n2 : Int) (m : List (Int × Int)) (m2 : List ((Int × Int) × Int)) : Option ((Int) ⊕ (Int × Int × List zaa × List (Int × Int))) :=
 (zfp n n2 m m2).bind fun _ =>
 (zfq n n2 m m2).bind fun _ =>
 (zfr to n n2 m m2).bind fun (n3, n4, n5, b, t, b2) =>
 (zbV (iadd .u64 n2 1) n to share share2).bind fun b3 =>
 bif b3 then
  bif b2 then
   some (.inl 14)
  else
   (zcC n (iadd .u64 n2 1) m m2).bind fun _ =>
   bif fits (((List.map zaa.pv []) ++ ([[(.int .u64 (iadd .u64 n2 1)), (.int .i64 n), (.int .i64 to), (.bool share), (zab.pv share2)]] : List (List PV)))).length then
   match (mget to m) with
   | .some n6 =>
    some (.inr ((iadd .u64 n2 1), (iadd .u64 n2 1), (List.take (((List.map zaa.pv []) ++ ([[(.int .u64 (iadd .u64 n2 1)), (.int .i64 n), (.int .i64 to), (.bool share), (zab.pv share2)]] : List (List PV)))).length ([] ++ [(zaa.mk (iadd .u64 n2 1) n to share share2)])), (mset to (iadd .i64 n6 1) m)))
   | .none =>
    some (.inr ((iadd .u64 n2 1), (iadd .u64 n2 1), (List.take (((List.map zaa.pv []) ++ ([[(.int .u64 (iadd .u64 n2 1)), (.int .i64 n), (.int .i64 to), (.bool share), (zab.pv share2)]] : List (List PV)))).length ([] ++ [(zaa.mk (iadd .u64 n2 1) n to share share2)])), (mset to 1 m)))
   else none
 else
  some (.inl 1)
theorem zgO (to : Int) (share : Bool) (share2 : zab) (n n2 : Int) (m : List (Int × Int)) (m2 : List ((Int × Int) × Int)) (r_ : (Int) ⊕ (Int × Int × List zaa × List (Int × Int))) (h : zeB to share share2 n n2 m m2 = some r_) : Runs Tryz.prog 14 [(.one (.ref 0 0)), (.one (.pv (.int .i64 to))), (.agg [(.pv (.bool share)), (.pv (zab.pv share2))])] [[(.pv (.int .i64 n)), (.pv (.int .u64 n2)), (.pv .nils), (.mp 1), (.mp 2)], [(.maph (.int .i64) false (List.map M_int_int.pv m) [])], [(.maph (.st [.i64, .u64]) false (List.map M_deed_Mark_int.pv m2) [])]] [] (zkM to share share2 n n2 m m2 r_) := by
 unfold zeB at h
 obtain ⟨_, h1, h⟩ := zaf h
 obtain ⟨_, h2, h⟩ := zaf h
 obtain ⟨⟨n3, n4, n5, b, t, b2⟩, h3, h⟩ := zaf h
 obtain ⟨b3, h4, h⟩ := zaf h
 have q_4 := (zcQ (iadd .u64 n2 1) n to share share2 _ h4)
 have p4_ := fun {sc_ : List Ev} {Q_ : Prop} (t_ : Tell sc_ Q_) => tR (zdF n n2 m m2 _ h1) <| tR (zdF n n2 m m2 _ h1) <| tR (zdF n n2 m m2 _ h1) <| tR (zdG n n2 m m2 _ h2) <| tR (zdF n n2 m m2 _ h1) <| tR (zdG n n2 m m2 _ h2) <| tR (zdG n n2 m m2 _ h2) <| tR (zdG n n2 m m2 _ h2) <| tR (zld to n n2 m m2 _ h3) <| tF (rfl : false = false) <| tR q_4 <| t_
 rcases zaj h with ⟨h5, h⟩ | ⟨h5, h⟩
 ·rcases zaj h with ⟨h6, h⟩ | ⟨h6, h⟩
  ·have h := zad h
   subst h
   have t_ := p4_ <| tF (zan h5) <| tT h6 <| tN
   exact Runs.out (zah (C := cfg) (res := ([(.agg [(.pv (.int .u64 0)), (.pv (.int .i64 0)), (.pv (.int .i64 0)), (.pv (.bool false)), (.pv .nilp)]), (.one (.pv (.int .i64 14)))], [[(.pv (.int .i64 n)), (.pv (.int .u64 n2)), (.pv .nils), (.mp 1), (.mp 2)], [(.maph (.int .i64) false (List.map M_int_int.pv m) [])], [(.maph (.st [.i64, .u64]) false (List.map M_deed_Mark_int.pv m2) [])]], [])) (sc := t_.ev) (.k1 t_.pf (by kernel_rfl) (by kernel_rfl))) ⟨⟨.eq rfl, .eq rfl, .eq rfl, .eq rfl, .eq rfl, trivial⟩, .eq rfl, trivial⟩ ⟨⟨.eq rfl, .eq rfl, .eq rfl, .eq rfl, .eq rfl, trivial⟩, ⟨.eq rfl, trivial⟩, ⟨.eq rfl, trivial⟩, trivial⟩ trivial rfl
  ·obtain ⟨_, h7, h⟩ := zaf h
   have q_7 := (zdW n (iadd .u64 n2 1) m m2 _ h7)
   obtain ⟨h8, h⟩ := zaq h
   cases h9 : (mget to m) with
   | some n6 =>
    simp only [h9] at h
    have h := zad h
    subst h
    have t_ := p4_ <| tF (zan h5) <| tF h6 <| tR q_7 <| tR q_7 <| tR q_7 <| tO (show (Nat.beq ((List.map zaa.pv [])).length ((List.map zaa.pv [])).length) = true from Nat.beq_refl _) <| tO h8 <| tT (show kget [(.int .i64 to)] (List.map M_int_int.pv m) = some [(.int .i64 n6)] from by first | (simp only [M_deed_Mark_int.set, M_int_int.set, M_deed_Mark_int.get, M_int_int.get, h9, Option.map_some, Option.map_none]; done) | (simp only [M_deed_Mark_int.set, M_int_int.set, M_deed_Mark_int.get, M_int_int.get, h9, Option.map_some, Option.map_none]; rfl) | (rw [← List.map_nil]; simp only [M_deed_Mark_int.set, M_int_int.set, M_deed_Mark_int.get, M_int_int.get, h9, Option.map_some, Option.map_none]; rfl)) <| tE (.el [(.int .i64 n6)]) <| tN
    exact Runs.out (Runs.shut (zah (C := cfg) (res := ([(.agg [(.pv (.int .u64 (iadd .u64 n2 1))), (.pv (.int .i64 n)), (.pv (.int .i64 to)), (.pv (.bool share)), (.pv (zab.pv share2))]), (.one (.pv (.int .i64 0)))], [[(.pv (.int .i64 n)), (.pv (.int .u64 (iadd .u64 n2 1))), (.own 0 0 (((List.map zaa.pv []) ++ ([[(.int .u64 (iadd .u64 n2 1)), (.int .i64 n), (.int .i64 to), (.bool share), (zab.pv share2)]] : List (List PV)))).length false), (.mp 1), (.mp 2)], [(.maph (.int .i64) false (kset [(.int .i64 to)] [(.int .i64 (iadd .i64 n6 1))] (List.map M_int_int.pv m)) [])], [(.maph (.st [.i64, .u64]) false (List.map M_deed_Mark_int.pv m2) [])]], [(.recs 5 ((List.map zaa.pv []) ++ ([[(.int .u64 (iadd .u64 n2 1)), (.int .i64 n), (.int .i64 to), (.bool share), (zab.pv share2)]] : List (List PV))))])) (sc := t_.ev) (.k1 t_.pf (by kernel_rfl) (by kernel_rfl))) (res' := ([(.agg [(.pv (.int .u64 (iadd .u64 n2 1))), (.pv (.int .i64 n)), (.pv (.int .i64 to)), (.pv (.bool share)), (.pv (zab.pv share2))]), (.one (.pv (.int .i64 0)))], [[(.pv (.int .i64 n)), (.pv (.int .u64 (iadd .u64 n2 1))), (.pv (.recs 5 (List.take (((List.map zaa.pv []) ++ ([[(.int .u64 (iadd .u64 n2 1)), (.int .i64 n), (.int .i64 to), (.bool share), (zab.pv share2)]] : List (List PV)))).length ((List.map zaa.pv []) ++ ([[(.int .u64 (iadd .u64 n2 1)), (.int .i64 n), (.int .i64 to), (.bool share), (zab.pv share2)]] : List (List PV)))) false)), (.mp 1), (.mp 2)], [(.maph (.int .i64) false (kset [(.int .i64 to)] [(.int .i64 (iadd .i64 n6 1))] (List.map M_int_int.pv m)) [])], [(.maph (.st [.i64, .u64]) false (List.map M_deed_Mark_int.pv m2) [])]], [])) [0] (by kernel_rfl)) ⟨⟨.eq rfl, .eq rfl, .eq rfl, .eq rfl, .eq rfl, trivial⟩, .eq rfl, trivial⟩ ⟨⟨.eq rfl, .eq rfl, .pv (.recsT (.takeN (by first | rfl | (simp only [List.take_length]; done) | (simp; done)) (.app (.eq rfl) (.cons (.cons (.eq rfl) (.cons (.eq rfl) (.cons (.eq rfl) (.cons (.eq rfl) (.cons (.eq rfl) (.nil)))))) (.nil))))), .eq rfl, .eq rfl, trivial⟩, ⟨.maph (WkEs.to (WkEs.set (.cons (.eq rfl) (.nil)) (WkEs.refl _)) (by first | rfl | (simp only [M_deed_Mark_int.set, M_int_int.set]; done) | (simp only [M_deed_Mark_int.set, M_int_int.set, kset, kdel]; rfl))), trivial⟩, ⟨.eq rfl, trivial⟩, trivial⟩ trivial rfl
   | none =>
    simp only [h9] at h
    have h := zad h
    subst h
    have t_ := p4_ <| tF (zan h5) <| tF h6 <| tR q_7 <| tR q_7 <| tR q_7 <| tO (show (Nat.beq ((List.map zaa.pv [])).length ((List.map zaa.pv [])).length) = true from Nat.beq_refl _) <| tO h8 <| tF (show kget [(.int .i64 to)] (List.map M_int_int.pv m) = none from by first | (simp only [M_deed_Mark_int.set, M_int_int.set, M_deed_Mark_int.get, M_int_int.get, h9, Option.map_some, Option.map_none]; done) | (simp only [M_deed_Mark_int.set, M_int_int.set, M_deed_Mark_int.get, M_int_int.get, h9, Option.map_some, Option.map_none]; rfl) | (rw [← List.map_nil]; simp only [M_deed_Mark_int.set, M_int_int.set, M_deed_Mark_int.get, M_int_int.get, h9, Option.map_some, Option.map_none]; rfl)) <| tN
    exact Runs.out (Runs.shut (zah (C := cfg) (res := ([(.agg [(.pv (.int .u64 (iadd .u64 n2 1))), (.pv (.int .i64 n)), (.pv (.int .i64 to)), (.pv (.bool share)), (.pv (zab.pv share2))]), (.one (.pv (.int .i64 0)))], [[(.pv (.int .i64 n)), (.pv (.int .u64 (iadd .u64 n2 1))), (.own 0 0 (((List.map zaa.pv []) ++ ([[(.int .u64 (iadd .u64 n2 1)), (.int .i64 n), (.int .i64 to), (.bool share), (zab.pv share2)]] : List (List PV)))).length false), (.mp 1), (.mp 2)], [(.maph (.int .i64) false (kset [(.int .i64 to)] [(.int .i64 1)] (List.map M_int_int.pv m)) [])], [(.maph (.st [.i64, .u64]) false (List.map M_deed_Mark_int.pv m2) [])]], [(.recs 5 ((List.map zaa.pv []) ++ ([[(.int .u64 (iadd .u64 n2 1)), (.int .i64 n), (.int .i64 to), (.bool share), (zab.pv share2)]] : List (List PV))))])) (sc := t_.ev) (.k1 t_.pf (by kernel_rfl) (by kernel_rfl))) (res' := ([(.agg [(.pv (.int .u64 (iadd .u64 n2 1))), (.pv (.int .i64 n)), (.pv (.int .i64 to)), (.pv (.bool share)), (.pv (zab.pv share2))]), (.one (.pv (.int .i64 0)))], [[(.pv (.int .i64 n)), (.pv (.int .u64 (iadd .u64 n2 1))), (.pv (.recs 5 (List.take (((List.map zaa.pv []) ++ ([[(.int .u64 (iadd .u64 n2 1)), (.int .i64 n), (.int .i64 to), (.bool share), (zab.pv share2)]] : List (List PV)))).length ((List.map zaa.pv []) ++ ([[(.int .u64 (iadd .u64 n2 1)), (.int .i64 n), (.int .i64 to), (.bool share), (zab.pv share2)]] : List (List PV)))) false)), (.mp 1), (.mp 2)], [(.maph (.int .i64) false (kset [(.int .i64 to)] [(.int .i64 1)] (List.map M_int_int.pv m)) [])], [(.maph (.st [.i64, .u64]) false (List.map M_deed_Mark_int.pv m2) [])]], [])) [0] (by kernel_rfl)) ⟨⟨.eq rfl, .eq rfl, .eq rfl, .eq rfl, .eq rfl, trivial⟩, .eq rfl, trivial⟩ ⟨⟨.eq rfl, .eq rfl, .pv (.recsT (.takeN (by first | rfl | (simp only [List.take_length]; done) | (simp; done)) (.app (.eq rfl) (.cons (.cons (.eq rfl) (.cons (.eq rfl) (.cons (.eq rfl) (.cons (.eq rfl) (.cons (.eq rfl) (.nil)))))) (.nil))))), .eq rfl, .eq rfl, trivial⟩, ⟨.maph (WkEs.to (WkEs.set (.cons (.eq rfl) (.nil)) (WkEs.refl _)) (by first | rfl | (simp only [M_deed_Mark_int.set, M_int_int.set]; done) | (simp only [M_deed_Mark_int.set, M_int_int.set, kset, kdel]; rfl))), trivial⟩, ⟨.eq rfl, trivial⟩, trivial⟩ trivial rfl
 ·have h := zad h
  subst h
  have t_ := p4_ <| tT (za7 h5) <| tN
  exact Runs.out (zah (C := cfg) (res := ([(.agg [(.pv (.int .u64 0)), (.pv (.int .i64 0)), (.pv (.int .i64 0)), (.pv (.bool false)), (.pv .nilp)]), (.one (.pv (.int .i64 1)))], [[(.pv (.int .i64 n)), (.pv (.int .u64 n2)), (.pv .nils), (.mp 1), (.mp 2)], [(.maph (.int .i64) false (List.map M_int_int.pv m) [])], [(.maph (.st [.i64, .u64]) false (List.map M_deed_Mark_int.pv m2) [])]], [])) (sc := t_.ev) (.k1 t_.pf (by kernel_rfl) (by kernel_rfl))) ⟨⟨.eq rfl, .eq rfl, .eq rfl, .eq rfl, .eq rfl, trivial⟩, .eq rfl, trivial⟩ ⟨⟨.eq rfl, .eq rfl, .eq rfl, .eq rfl, .eq rfl, trivial⟩, ⟨.eq rfl, trivial⟩, ⟨.eq rfl, trivial⟩, trivial⟩ trivial rfl
def zkK (no n n2 : Int) (r : List zaa) (m : List (Int × Int)) (m2 : List ((Int × Int) × Int)) : Int × List zaa → Res
 | (r1, r2) => ([(.one (.pv (.int .i64 r1)))], [[(.pv (.int .i64 n)), (.pv (.int .u64 n2)), (.pv (.recs 5 (List.map zaa.pv r2) false)), (.mp 1), (.mp 2)], [(.maph (.int .i64) false (List.map M_int_int.pv m) [])], [(.maph (.st [.i64, .u64]) false (List.map M_deed_Mark_int.pv m2) [])]], [])
def zhW (n n2 : Int) (r : List zaa) (m : List (Int × Int)) (m2 : List ((Int × Int) × Int)) : Unit → Res
 | _ => ([(.one (.own 0 0 ((List.map zaa.pv r)).length false))], [[(.pv (.int .i64 n)), (.pv (.int .u64 n2)), (.pv (.recs 5 (List.map zaa.pv r) false)), (.mp 1), (.mp 2)], [(.maph (.int .i64) false (List.map M_int_int.pv m) [])], [(.maph (.st [.i64, .u64]) false (List.map M_deed_Mark_int.pv m2) [])]], [(.recs 5 (List.map zaa.pv r))])
noncomputable def zch (n n2 : Int) (r : List zaa) (m : List (Int × Int)) (m2 : List ((Int × Int) × Int)) : Option (Unit) :=
 (zbm r).bind fun _ =>
 some ()
theorem zcy (n n2 : Int) (r : List zaa) (m : List (Int × Int)) (m2 : List ((Int × Int) × Int)) (r_ : Unit) (h : zch n n2 r m m2 = some r_) : Runs Tryz.prog 25 [(.one (.ref 0 0))] [[(.pv (.int .i64 n)), (.pv (.int .u64 n2)), (.pv (.recs 5 (List.map zaa.pv r) false)), (.mp 1), (.mp 2)], [(.maph (.int .i64) false (List.map M_int_int.pv m) [])], [(.maph (.st [.i64, .u64]) false (List.map M_deed_Mark_int.pv m2) [])]] [] (zhW n n2 r m m2 r_) := by
 unfold zch at h
 obtain ⟨_, h1, h⟩ := zaf h
 have h := zad h
 subst h
 have t_ := tF (rfl : false = false) <| tR (zeG r _ h1) <| tN
 exact zah (C := cfg) (sc := t_.ev) (.k0 t_.pf (by kernel_rfl))
def zgE (s : List zaa) (n : Int) : Int → Res
 | r1 => ([(.one (.pv (.int .i64 r1)))], [[(.pv (.int .u64 n))]], [])
def zju (g g2 g3 : Int) (g4 : Bool) (g5 : zab) (n : Int) : Bool → Res
 | r1 => ([(.one (.pv (.bool r1)))], [[(.pv (.int .u64 n))]], [])
noncomputable def zeK (g g2 g3 : Int) (g4 : Bool) (g5 : zab) (n : Int) : Option (Bool) :=
 some (decide ((g : Int) = n))
theorem zfP (g g2 g3 : Int) (g4 : Bool) (g5 : zab) (n : Int) (r_ : Bool) (h : zeK g g2 g3 g4 g5 n = some r_) : Runs Tryz.prog 44 [(.agg [(.pv (.int .u64 g)), (.pv (.int .i64 g2)), (.pv (.int .i64 g3)), (.pv (.bool g4)), (.pv (zab.pv g5))]), (.one (.ref 0 0))] [[(.pv (.int .u64 n))]] [] (zju g g2 g3 g4 g5 n r_) := by
 unfold zeK at h
 have h := zad h
 subst h
 have t_ := tN
 exact zah (C := cfg) (sc := t_.ev) (.k0 t_.pf (by kernel_rfl))
def zcm (s : List zaa) (n n2 : Int) : Int → St
 | n3 => ⟨[(0, (.av (.one (.bor (.recs 5 (List.map zaa.pv s) false))))), (1, (.av (.one (.fn 44 [(.ref 0 0)])))), (7, (.av (.one (.pv (.int .i64 n))))), (8, (.av (.one (.pv (.int .i64 n3)))))], [(0, [(.pv (.int .u64 n2))])], []⟩
def za9 (s : List zaa) (n n2 : Int) : (Int) ⊕ (Unit) → Ex × St
 | .inl r1 => (.ret, ⟨[(4, (.av (.one (.pv (.int .i64 r1)))))], [(0, [(.pv (.int .u64 n2))])], []⟩)
 | .inr _ => ((.exit 0), ⟨[], [(0, [(.pv (.int .u64 n2))])], []⟩)
noncomputable def zaN (s : List zaa) (n n2 : Int) : Int → Option ((Int) ⊕ ((Int) ⊕ (Unit)))
 | n3 =>
 bif (decide ((n3 : Int) < n)) then
  bif decide ((0 : Int) ≤ n3) && decide ((n3 : Int) < (((List.map zaa.pv s)).length : Int)) then
  (s[(n3).toNat]?).bind fun e_ => match e_ with
  | .mk n4 n5 n6 b t =>
  (zeK n4 n5 n6 b t n2).bind fun b2 =>
  bif b2 then
   some (.inr (.inl n3))
  else
   some (.inl (iadd .i64 n3 1))
  else none
 else
  some (.inr (.inr ()))
theorem zfO (s : List zaa) (n n2 n3 : Int) (z_ : (Int) ⊕ ((Int) ⊕ (Unit))) (h : zaN s n n2 n3 = some z_) : zaP Tryz.prog cfg 43 1 (zax Tryz.prog 43 0) (zcm s n n2) (za9 s n n2) n3 z_ := by
 rcases zaj h with ⟨h1, h⟩ | ⟨h1, h⟩
 ·obtain ⟨h2, h⟩ := zaq h
  obtain ⟨⟨n4, n5, n6, b, t⟩, h3, h⟩ := zaf h
  obtain ⟨b2, h4, h⟩ := zaf h
  rcases zaj h with ⟨h5, h⟩ | ⟨h5, h⟩
  ·have h := zad h
   subst h
   have t_ := tT h1 <| tO h2 <| tE (.el [(.int .u64 n4), (.int .i64 n5), (.int .i64 n6), (.bool b), (zab.pv t)]) <| tO (zc0 (f := zaa.pv) h3) <| tR (zfP n4 n5 n6 b t n2 _ h4) <| tT h5 <| tN
   exact ⟨t_.ev, (za9 s n n2 (.inl n3)).2, .k0 t_.pf (by kernel_rfl), .same (by kernel_rfl)⟩
  ·have h := zad h
   subst h
   have t_ := tT h1 <| tO h2 <| tE (.el [(.int .u64 n4), (.int .i64 n5), (.int .i64 n6), (.bool b), (zab.pv t)]) <| tO (zc0 (f := zaa.pv) h3) <| tR (zfP n4 n5 n6 b t n2 _ h4) <| tF h5 <| tN
   exact ⟨t_.ev, zcm s n n2 (iadd .i64 n3 1), .k0 t_.pf (by kernel_rfl), .same (by kernel_rfl)⟩
 ·have h := zad h
  subst h
  have t_ := tF h1 <| tN
  exact ⟨t_.ev, ⟨[(9, (.av (.one (.pv (.bool false))))), (0, (.av (.one (.bor (.recs 5 (List.map zaa.pv s) false))))), (1, (.av (.one (.fn 44 [(.ref 0 0)])))), (7, (.av (.one (.pv (.int .i64 n))))), (8, (.av (.one (.pv (.int .i64 n3))))), (9, (.av (.one (.pv (.bool (decide ((n3 : Int) < n)))))))], [(0, [(.pv (.int .u64 n2))])], []⟩, .k0 t_.pf (by kernel_rfl), ⟨trivial, ⟨⟨rfl, ⟨.eq rfl, trivial⟩⟩, trivial⟩, trivial⟩⟩
theorem zdh (s : List zaa) (n n2 s_ : Int) (r_ : (Int) ⊕ (Unit)) (h : runL (zaN s n n2) s_ = some r_) : zaT Tryz.prog (lEnv Tryz.prog cfg 43 1).nt 1 (.loop (zax Tryz.prog 43 0)) (zcm s n n2 s_) (za9 s n n2 r_).1 (za9 s n n2 r_).2 :=
 zaJ h (zfO s n n2) (by intro r_; rcases r_ with r1 | _ <;> simp [za9])
noncomputable def zbO (s : List zaa) (n : Int) : Option (Int) :=
 (runL (zaN s (((List.map zaa.pv s)).length : Int) n) 0).bind fun z_ => match z_ with
 | .inl n2 =>
  some n2
 | .inr _ =>
  some (-1)
theorem zgc (s : List zaa) (n r_ : Int) (h : zbO s n = some r_) : Runs Tryz.prog 43 [(.one (.bor (.recs 5 (List.map zaa.pv s) false))), (.one (.fn 44 [(.ref 0 0)]))] [[(.pv (.int .u64 n))]] [] (zgE s n r_) := by
 unfold zbO at h
 obtain ⟨z_, h1, h⟩ := zaf h
 rcases z_ with n2 | _
 ·have h := zad h
  subst h
  have t_ := tL (zdh s (((List.map zaa.pv s)).length : Int) n _ _ h1) <| tN
  exact zah (C := cfg) (sc := t_.ev) (.k0 t_.pf (by kernel_rfl))
 ·have h := zad h
  subst h
  have t_ := tL (zdh s (((List.map zaa.pv s)).length : Int) n _ _ h1) <| tN
  exact zah (C := cfg) (sc := t_.ev) (.k0 t_.pf (by kernel_rfl))
noncomputable def zdK (no n n2 : Int) (r : List zaa) (m : List (Int × Int)) (m2 : List ((Int × Int) × Int)) : Option (Int × List zaa) :=
 (zch n n2 r m m2).bind fun _ =>
 (zbO (List.take ((List.map zaa.pv r)).length r) no).bind fun n3 =>
 bif (decide ((n3 : Int) < 0)) then
  some (2, r)
 else
  (zcY n3 (iadd .i64 n3 1) r).bind fun (k, r2) =>
  some (0, (List.take k r2))
theorem zeX (no n n2 : Int) (r : List zaa) (m : List (Int × Int)) (m2 : List ((Int × Int) × Int)) (r_ : Int × List zaa) (h : zdK no n n2 r m m2 = some r_) : Runs Tryz.prog 18 [(.one (.ref 0 0)), (.one (.pv (.int .u64 no)))] [[(.pv (.int .i64 n)), (.pv (.int .u64 n2)), (.pv (.recs 5 (List.map zaa.pv r) false)), (.mp 1), (.mp 2)], [(.maph (.int .i64) false (List.map M_int_int.pv m) [])], [(.maph (.st [.i64, .u64]) false (List.map M_deed_Mark_int.pv m2) [])]] [] (zkK no n n2 r m m2 r_) := by
 unfold zdK at h
 obtain ⟨_, h1, h⟩ := zaf h
 obtain ⟨n3, h2, h⟩ := zaf h
 have q_2 := (Runs.coe (as' := [(.one (.bor (.recs 5 (List.take ((List.map zaa.pv r)).length (List.map zaa.pv r)) false))), (.one (.fn 44 [(.ref 0 0)]))]) (objs' := [[(.pv (.int .u64 no))]]) (rows' := []) (zgc (List.take ((List.map zaa.pv r)).length r) no _ h2) ⟨.bor (.recsT (.eq (by first | rfl | (simp only [List.take_length]; done) | (simp; done) | (simp only [List.map_take, List.map_drop, List.map_append, List.take_length, List.nil_append]; done) | (simp only [List.length_map, List.take_length, List.length_append, List.drop_zero, List.map_append, List.map_take, List.map_drop, List.map_replicate, List.map_cons, List.map_nil, List.append_nil, List.nil_append]; done)))), .eq rfl, trivial⟩ ⟨⟨.eq rfl, trivial⟩, trivial⟩ trivial)
 rcases zaj h with ⟨h3, h⟩ | ⟨h3, h⟩
 ·have h := zad h
  subst h
  have t_ := tR (zcy n n2 r m m2 _ h1) <| tR q_2 <| tT h3 <| tN
  exact zah (C := cfg) (sc := t_.ev) (.k0 t_.pf (by kernel_rfl))
 ·obtain ⟨⟨k, r2⟩, h4, h⟩ := zaf h
  have h := zad h
  subst h
  have t_ := tR (zcy n n2 r m m2 _ h1) <| tR q_2 <| tF h3 <| tR (zcy n n2 r m m2 _ h1) <| tR (zgX n3 (iadd .i64 n3 1) r _ h4) <| tN
  exact Runs.out (Runs.shut (zah (C := cfg) (res := ([(.one (.pv (.int .i64 0)))], [[(.pv (.int .i64 n)), (.pv (.int .u64 n2)), (.own 0 0 k false), (.mp 1), (.mp 2)], [(.maph (.int .i64) false (List.map M_int_int.pv m) [])], [(.maph (.st [.i64, .u64]) false (List.map M_deed_Mark_int.pv m2) [])]], [(.recs 5 (List.map zaa.pv r2))])) (sc := t_.ev) (.k0 t_.pf (by kernel_rfl))) (res' := ([(.one (.pv (.int .i64 0)))], [[(.pv (.int .i64 n)), (.pv (.int .u64 n2)), (.pv (.recs 5 (List.take k (List.map zaa.pv r2)) false)), (.mp 1), (.mp 2)], [(.maph (.int .i64) false (List.map M_int_int.pv m) [])], [(.maph (.st [.i64, .u64]) false (List.map M_deed_Mark_int.pv m2) [])]], [])) [0] (by kernel_rfl)) ⟨.eq rfl, trivial⟩ ⟨⟨.eq rfl, .eq rfl, .pv (.recsT (.eq (by first | rfl | (simp only [List.take_length]; done) | (simp; done) | (simp only [List.map_take, List.map_drop, List.map_append, List.take_length, List.nil_append]; done) | (simp only [List.length_map, List.take_length, List.length_append, List.drop_zero, List.map_append, List.map_take, List.map_drop, List.map_replicate, List.map_cons, List.map_nil, List.append_nil, List.nil_append]; done)))), .eq rfl, .eq rfl, trivial⟩, ⟨.eq rfl, trivial⟩, ⟨.eq rfl, trivial⟩, trivial⟩ trivial rfl
def zkL (to n n2 : Int) (r : List zaa) (m : List (Int × Int)) (m2 : List ((Int × Int) × Int)) : Bool → Res
 | r1 => ([(.one (.pv (.bool r1)))], [[(.pv (.int .i64 n)), (.pv (.int .u64 n2)), (.pv (.recs 5 (List.map zaa.pv r) false)), (.mp 1), (.mp 2)], [(.maph (.int .i64) false (List.map M_int_int.pv m) [])], [(.maph (.st [.i64, .u64]) false (List.map M_deed_Mark_int.pv m2) [])]], [])
noncomputable def zeA (to n n2 : Int) (r : List zaa) (m : List (Int × Int)) (m2 : List ((Int × Int) × Int)) : Option (Bool) :=
 match (mget to m) with
 | .some n3 =>
  some (decide ((0 : Int) < n3))
 | .none =>
  some false
theorem zgN (to n n2 : Int) (r : List zaa) (m : List (Int × Int)) (m2 : List ((Int × Int) × Int)) (r_ : Bool) (h : zeA to n n2 r m m2 = some r_) : Runs Tryz.prog 20 [(.one (.ref 0 0)), (.one (.pv (.int .i64 to)))] [[(.pv (.int .i64 n)), (.pv (.int .u64 n2)), (.pv (.recs 5 (List.map zaa.pv r) false)), (.mp 1), (.mp 2)], [(.maph (.int .i64) false (List.map M_int_int.pv m) [])], [(.maph (.st [.i64, .u64]) false (List.map M_deed_Mark_int.pv m2) [])]] [] (zkL to n n2 r m m2 r_) := by
 unfold zeA at h
 cases h1 : (mget to m) with
 | some n3 =>
  simp only [h1] at h
  have h := zad h
  subst h
  have t_ := tT (rfl : true = true) <| tT (show kget [(.int .i64 to)] (List.map M_int_int.pv m) = some [(.int .i64 n3)] from by first | (simp only [M_deed_Mark_int.set, M_int_int.set, M_deed_Mark_int.get, M_int_int.get, h1, Option.map_some, Option.map_none]; done) | (simp only [M_deed_Mark_int.set, M_int_int.set, M_deed_Mark_int.get, M_int_int.get, h1, Option.map_some, Option.map_none]; rfl) | (rw [← List.map_nil]; simp only [M_deed_Mark_int.set, M_int_int.set, M_deed_Mark_int.get, M_int_int.get, h1, Option.map_some, Option.map_none]; rfl)) <| tE (.el [(.int .i64 n3)]) <| tN
  exact zah (C := cfg) (sc := t_.ev) (.k0 t_.pf (by kernel_rfl))
 | none =>
  simp only [h1] at h
  have h := zad h
  subst h
  have t_ := tT (rfl : true = true) <| tF (show kget [(.int .i64 to)] (List.map M_int_int.pv m) = none from by first | (simp only [M_deed_Mark_int.set, M_int_int.set, M_deed_Mark_int.get, M_int_int.get, h1, Option.map_some, Option.map_none]; done) | (simp only [M_deed_Mark_int.set, M_int_int.set, M_deed_Mark_int.get, M_int_int.get, h1, Option.map_some, Option.map_none]; rfl) | (rw [← List.map_nil]; simp only [M_deed_Mark_int.set, M_int_int.set, M_deed_Mark_int.get, M_int_int.get, h1, Option.map_some, Option.map_none]; rfl)) <| tN
  exact zah (C := cfg) (sc := t_.ev) (.k0 t_.pf (by kernel_rfl))
noncomputable def zib : Option (Bool) :=
 (zjV 0).bind fun _ =>
 (zkr).bind fun _ =>
 (zeB 2 true zab.nil 0 0 [] []).bind fun z_ => match z_ with
 | .inl n =>
  bif (decide ((n : Int) = 0)) then
   some false
  else
   some false
 | .inr (n, n2, r, m_) =>
  bif (decide ((n : Int) = 1)) then
   (zdK 1 0 n2 r m_ []).bind fun (n3, r2) =>
   bif (decide ((n3 : Int) = 0)) then
    (zeA 2 0 n2 r2 m_ []).bind fun b =>
    bif b then
     (zch 0 n2 r2 m_ []).bind fun _ =>
     some (decide (((((List.map zaa.pv r2)).length : Int) : Int) = 0))
    else
     some false
   else
    some false
  else
   some false
theorem zjC (r_ : Bool) (h : zib = some r_) : Runs Tryz.prog 7 [] [] [] (zo2 r_) := by
 unfold zib at h
 obtain ⟨_, h1, h⟩ := zaf h
 obtain ⟨_, h2, h⟩ := zaf h
 obtain ⟨z_, h3, h⟩ := zaf h
 rcases z_ with n | ⟨n, n2, r, m_⟩
 ·have q_3 := (zgO 2 true zab.nil 0 0 [] [] _ h3)
  rcases zaj h with ⟨h4, h⟩ | ⟨h4, h⟩
  ·have h := zad h
   subst h
   have t_ := tR (zdX 0 _ h1) <| tR (zd0 _ h2) <| tR q_3 <| tT h4 <| tF (rfl : false = false) <| tF (rfl : false = false) <| tF (rfl : false = false) <| tN
   exact zah (C := cfg) (sc := t_.ev) (.k0 t_.pf (by kernel_rfl))
  ·have h := zad h
   subst h
   have t_ := tR (zdX 0 _ h1) <| tR (zd0 _ h2) <| tR q_3 <| tF h4 <| tF (rfl : false = false) <| tF (rfl : false = false) <| tF (rfl : false = false) <| tN
   exact zah (C := cfg) (sc := t_.ev) (.k0 t_.pf (by kernel_rfl))
 ·have q_3 := (zgO 2 true zab.nil 0 0 [] [] _ h3)
  rcases zaj h with ⟨h4, h⟩ | ⟨h4, h⟩
  ·obtain ⟨⟨n3, r2⟩, h5, h⟩ := zaf h
   rcases zaj h with ⟨h6, h⟩ | ⟨h6, h⟩
   ·obtain ⟨b, h7, h⟩ := zaf h
    rcases zaj h with ⟨h8, h⟩ | ⟨h8, h⟩
    ·obtain ⟨_, h9, h⟩ := zaf h
     have h := zad h
     subst h
     have t_ := tR (zdX 0 _ h1) <| tR (zd0 _ h2) <| tR q_3 <| tT (rfl : true = true) <| tT h4 <| tR (zeX 1 0 n2 r m_ [] _ h5) <| tT h6 <| tR (zgN 2 0 n2 r2 m_ [] _ h7) <| tT h8 <| tR (zcy 0 n2 r2 m_ [] _ h9) <| tN
     exact zah (C := cfg) (sc := t_.ev) (.k0 t_.pf (by kernel_rfl))
    ·have h := zad h
     subst h
     have t_ := tR (zdX 0 _ h1) <| tR (zd0 _ h2) <| tR q_3 <| tT (rfl : true = true) <| tT h4 <| tR (zeX 1 0 n2 r m_ [] _ h5) <| tT h6 <| tR (zgN 2 0 n2 r2 m_ [] _ h7) <| tF h8 <| tN
     exact zah (C := cfg) (sc := t_.ev) (.k0 t_.pf (by kernel_rfl))
   ·have h := zad h
    subst h
    have t_ := tR (zdX 0 _ h1) <| tR (zd0 _ h2) <| tR q_3 <| tT (rfl : true = true) <| tT h4 <| tR (zeX 1 0 n2 r m_ [] _ h5) <| tF h6 <| tF (rfl : false = false) <| tN
    exact zah (C := cfg) (sc := t_.ev) (.k0 t_.pf (by kernel_rfl))
  ·have h := zad h
   subst h
   have t_ := tR (zdX 0 _ h1) <| tR (zd0 _ h2) <| tR q_3 <| tT (rfl : true = true) <| tF h4 <| tF (rfl : false = false) <| tF (rfl : false = false) <| tN
   exact zah (C := cfg) (sc := t_.ev) (.k0 t_.pf (by kernel_rfl))
def zpU (b : List Int) : (Int × Int × List zaa × List (Int × Int) × List ((Int × Int) × Int)) ⊕ (Int) → Res
 | .inl (r1, r2, r3, r4, r5) => ([(.one (.ref 0 0)), (.one (.pv (.int .i64 0)))], [[(.pv (.int .i64 r1)), (.pv (.int .u64 r2)), (.pv (.recs 5 (List.map zaa.pv r3) false)), (.mp 1), (.mp 2)], [(.maph (.int .i64) false (List.map M_int_int.pv r4) [])], [(.maph (.st [.i64, .u64]) false (List.map M_deed_Mark_int.pv r5) [])]], [])
 | .inr r1 => ([(.one (.pv .nilp)), (.one (.pv (.int .i64 r1)))], [], [])
def zsn (p : List Int) : Unit → Res
 | _ => ([(.one (.ref 0 0))], [[(.pv (.ints .u8 p false)), (.pv (.int .i64 0))]], [])
noncomputable def zoQ (p : List Int) : Option (Unit) :=
 bif fits (p).length then
 some ()
 else none
theorem zmF (p : List Int) (r_ : Unit) (h : zoQ p = some r_) : Runs Tryz.prog 54 [(.one (.pv (.ints .u8 p false)))] [] [] (zsn p r_) := by
 unfold zoQ at h
 obtain ⟨h1, h⟩ := zaq h
 have h := zad h
 subst h
 have t_ := tR (zgF (l := p) (t := false) h1) <| tN
 exact zah (C := cfg) (sc := t_.ev) (.k0 t_.pf (by kernel_rfl))
def znz (l : List Int) (n : Int) : Int × List Int × Int → Res
 | (r1, r2, r3) => ([(.one (.pv (.int .i64 r1)))], [[(.pv (.ints .u8 r2 false)), (.pv (.int .i64 r3))]], [])
def zoP (l : List Int) (n : Int) : Int × List Int × Int → Res
 | (r1, r2, r3) => ([(.one (.pv (.int .u64 r1)))], [[(.pv (.ints .u8 r2 false)), (.pv (.int .i64 r3))]], [])
def zoO (l : List Int) (n : Int) : Unit → Res
 | _ => ([(.one (.pv (.int .i64 n)))], [[(.pv (.ints .u8 l false)), (.pv (.int .i64 n))]], [])
noncomputable def zcv (l : List Int) (n : Int) : Option (Unit) :=
 some ()
theorem zat (l : List Int) (n : Int) (r_ : Unit) (h : zcv l n = some r_) : Runs Tryz.prog 95 [(.one (.ref 0 0))] [[(.pv (.ints .u8 l false)), (.pv (.int .i64 n))]] [] (zoO l n r_) := by
 unfold zcv at h
 have h := zad h
 subst h
 have t_ := tF (rfl : false = false) <| tN
 exact zah (C := cfg) (sc := t_.ev) (.k0 t_.pf (by kernel_rfl))
def zc2 (l : List Int) (n : Int) (l2 : List Int) (n2 : Int) : Int × Int → St
 | (n3, n4) => ⟨[(0, (.av (.one (.ref 0 0)))), (3, (.av (.one (.pv (.int .u64 n3))))), (12, (.av (.one (.pv (.ints .u8 l false))))), (13, (.av (.one (.pv (.int .i64 n))))), (14, (.av (.one (.pv (.int .i64 n4)))))], [(0, [(.pv (.ints .u8 l2 false)), (.pv (.int .i64 n2))])], []⟩
def zb3 (l : List Int) (n : Int) (l2 : List Int) (n2 : Int) : (Unit) ⊕ (Int × List Int) → Ex × St
 | .inl _ => ((.exit 0), ⟨[(0, (.av (.one (.ref 0 0))))], [(0, [(.pv (.ints .u8 l2 false)), (.pv (.int .i64 n2))])], []⟩)
 | .inr (r1, r2) => (.ret, ⟨[(2, (.av (.one (.pv (.int .u64 r1)))))], [(0, [(.pv (.ints .u8 r2 false)), (.pv (.int .i64 n2))])], []⟩)
noncomputable def zbv (l : List Int) (n : Int) (l2 : List Int) (n2 : Int) : Int × Int → Option ((Int × Int) ⊕ ((Unit) ⊕ (Int × List Int)))
 | (n3, n4) =>
 bif (decide ((n4 : Int) < n)) then
  bif decide ((0 : Int) ≤ n4) && decide ((n4 : Int) < ((l).length : Int)) then
  bif (decide ((n4 : Int) = 9)) then
   bif (decide ((1 : Int) < (l.getD (n4).toNat 0))) then
    some (.inr (.inl ()))
   else
    bif (decide (((l.getD (n4).toNat 0) : Int) = 0)) then
     bif (decide ((0 : Int) < n4)) then
      some (.inr (.inl ()))
     else
      bif decide ((0 : Int) ≤ (imul .i64 7 n4)) then
      bif (decide (((l.getD (n4).toNat 0) : Int) < 128)) then
       bif decide ((0 : Int) ≤ (iadd .i64 n4 1)) && decide (((iadd .i64 n4 1) : Int) ≤ ((l2).length : Int)) && decide ((((l2).length : Int) : Int) ≤ ((l2).length : Int)) && decide ((((l2).length : Int) : Int) = ((l2).length : Int)) then
       some (.inr (.inr ((ior .u64 n3 (ishl .u64 (IntKind.u64.wrap (zdZ .u8 (l.getD (n4).toNat 0) 128)) (imul .i64 7 n4))), (List.take (((l2).length : Int) - (iadd .i64 n4 1)).toNat (List.drop ((iadd .i64 n4 1)).toNat l2)))))
       else none
      else
       some (.inl ((ior .u64 n3 (ishl .u64 (IntKind.u64.wrap (zdZ .u8 (l.getD (n4).toNat 0) 128)) (imul .i64 7 n4))), (iadd .i64 n4 1)))
      else none
    else
     bif decide ((0 : Int) ≤ (imul .i64 7 n4)) then
     bif (decide (((l.getD (n4).toNat 0) : Int) < 128)) then
      bif decide ((0 : Int) ≤ (iadd .i64 n4 1)) && decide (((iadd .i64 n4 1) : Int) ≤ ((l2).length : Int)) && decide ((((l2).length : Int) : Int) ≤ ((l2).length : Int)) && decide ((((l2).length : Int) : Int) = ((l2).length : Int)) then
      some (.inr (.inr ((ior .u64 n3 (ishl .u64 (IntKind.u64.wrap (zdZ .u8 (l.getD (n4).toNat 0) 128)) (imul .i64 7 n4))), (List.take (((l2).length : Int) - (iadd .i64 n4 1)).toNat (List.drop ((iadd .i64 n4 1)).toNat l2)))))
      else none
     else
      some (.inl ((ior .u64 n3 (ishl .u64 (IntKind.u64.wrap (zdZ .u8 (l.getD (n4).toNat 0) 128)) (imul .i64 7 n4))), (iadd .i64 n4 1)))
     else none
  else
   bif (decide (((l.getD (n4).toNat 0) : Int) = 0)) then
    bif (decide ((0 : Int) < n4)) then
     some (.inr (.inl ()))
    else
     bif decide ((0 : Int) ≤ (imul .i64 7 n4)) then
     bif (decide (((l.getD (n4).toNat 0) : Int) < 128)) then
      bif decide ((0 : Int) ≤ (iadd .i64 n4 1)) && decide (((iadd .i64 n4 1) : Int) ≤ ((l2).length : Int)) && decide ((((l2).length : Int) : Int) ≤ ((l2).length : Int)) && decide ((((l2).length : Int) : Int) = ((l2).length : Int)) then
      some (.inr (.inr ((ior .u64 n3 (ishl .u64 (IntKind.u64.wrap (zdZ .u8 (l.getD (n4).toNat 0) 128)) (imul .i64 7 n4))), (List.take (((l2).length : Int) - (iadd .i64 n4 1)).toNat (List.drop ((iadd .i64 n4 1)).toNat l2)))))
      else none
     else
      some (.inl ((ior .u64 n3 (ishl .u64 (IntKind.u64.wrap (zdZ .u8 (l.getD (n4).toNat 0) 128)) (imul .i64 7 n4))), (iadd .i64 n4 1)))
     else none
   else
    bif decide ((0 : Int) ≤ (imul .i64 7 n4)) then
    bif (decide (((l.getD (n4).toNat 0) : Int) < 128)) then
     bif decide ((0 : Int) ≤ (iadd .i64 n4 1)) && decide (((iadd .i64 n4 1) : Int) ≤ ((l2).length : Int)) && decide ((((l2).length : Int) : Int) ≤ ((l2).length : Int)) && decide ((((l2).length : Int) : Int) = ((l2).length : Int)) then
     some (.inr (.inr ((ior .u64 n3 (ishl .u64 (IntKind.u64.wrap (zdZ .u8 (l.getD (n4).toNat 0) 128)) (imul .i64 7 n4))), (List.take (((l2).length : Int) - (iadd .i64 n4 1)).toNat (List.drop ((iadd .i64 n4 1)).toNat l2)))))
     else none
    else
     some (.inl ((ior .u64 n3 (ishl .u64 (IntKind.u64.wrap (zdZ .u8 (l.getD (n4).toNat 0) 128)) (imul .i64 7 n4))), (iadd .i64 n4 1)))
    else none
  else none
 else
  some (.inr (.inl ()))
theorem zmu (l : List Int) (n : Int) (l2 : List Int) (n2 : Int) (s_ : Int × Int) (z_ : (Int × Int) ⊕ ((Unit) ⊕ (Int × List Int))) (h : zbv l n l2 n2 s_ = some z_) : zaP Tryz.prog cfg 56 1 (zax Tryz.prog 56 0) (zc2 l n l2 n2) (zb3 l n l2 n2) s_ z_ := by
 rcases s_ with ⟨n3, n4⟩
 rcases zaj h with ⟨h1, h⟩ | ⟨h1, h⟩
 ·obtain ⟨h2, h⟩ := zaq h
  rcases zaj h with ⟨h3, h⟩ | ⟨h3, h⟩
  ·rcases zaj h with ⟨h4, h⟩ | ⟨h4, h⟩
   ·have h := zad h
    subst h
    have t_ := tT h1 <| tO h2 <| tT h3 <| tT h4 <| tT (rfl : true = true) <| tN
    exact ⟨t_.ev, ⟨[(32, (.av (.one (.pv (.bool true))))), (0, (.av (.one (.ref 0 0)))), (3, (.av (.one (.pv (.int .u64 n3))))), (4, (.av (.one (.pv (.int .i64 n4))))), (5, (.av (.one (.pv (.int .u8 (l.getD (n4).toNat 0)))))), (12, (.av (.one (.pv (.ints .u8 l false))))), (13, (.av (.one (.pv (.int .i64 n))))), (14, (.av (.one (.pv (.int .i64 n4))))), (32, (.av (.one (.pv (.bool true)))))], [(0, [(.pv (.ints .u8 l2 false)), (.pv (.int .i64 n2))])], []⟩, .k0 t_.pf (by kernel_rfl), ⟨⟨⟨_, rfl, .eq rfl⟩, trivial⟩, ⟨⟨rfl, ⟨.eq rfl, .eq rfl, trivial⟩⟩, trivial⟩, trivial⟩⟩
   ·rcases zaj h with ⟨h5, h⟩ | ⟨h5, h⟩
    ·rcases zaj h with ⟨h6, h⟩ | ⟨h6, h⟩
     ·have h := zad h
      subst h
      have t_ := tT h1 <| tO h2 <| tT h3 <| tF h4 <| tT h5 <| tT h6 <| tN
      exact ⟨t_.ev, ⟨[(32, (.av (.one (.pv (.bool true))))), (0, (.av (.one (.ref 0 0)))), (3, (.av (.one (.pv (.int .u64 n3))))), (4, (.av (.one (.pv (.int .i64 n4))))), (5, (.av (.one (.pv (.int .u8 (l.getD (n4).toNat 0)))))), (12, (.av (.one (.pv (.ints .u8 l false))))), (13, (.av (.one (.pv (.int .i64 n))))), (14, (.av (.one (.pv (.int .i64 n4))))), (32, (.av (.one (.pv (.bool (decide ((0 : Int) < n4)))))))], [(0, [(.pv (.ints .u8 l2 false)), (.pv (.int .i64 n2))])], []⟩, .k0 t_.pf (by kernel_rfl), ⟨⟨⟨_, rfl, .eq rfl⟩, trivial⟩, ⟨⟨rfl, ⟨.eq rfl, .eq rfl, trivial⟩⟩, trivial⟩, trivial⟩⟩
     ·obtain ⟨h7, h⟩ := zaq h
      rcases zaj h with ⟨h8, h⟩ | ⟨h8, h⟩
      ·obtain ⟨h9, h⟩ := zaq h
       have h := zad h
       subst h
       have t_ := tT h1 <| tO h2 <| tT h3 <| tF h4 <| tT h5 <| tF h6 <| tO h7 <| tT h8 <| tO h9 <| tN
       exact ⟨t_.ev, (zb3 l n l2 n2 (.inr ((ior .u64 n3 (ishl .u64 (IntKind.u64.wrap (zdZ .u8 (l.getD (n4).toNat 0) 128)) (imul .i64 7 n4))), (List.take (((l2).length : Int) - (iadd .i64 n4 1)).toNat (List.drop ((iadd .i64 n4 1)).toNat l2))))).2, .k0 t_.pf (by kernel_rfl), .same (by kernel_rfl)⟩
      ·have h := zad h
       subst h
       have t_ := tT h1 <| tO h2 <| tT h3 <| tF h4 <| tT h5 <| tF h6 <| tO h7 <| tF h8 <| tN
       exact ⟨t_.ev, zc2 l n l2 n2 ((ior .u64 n3 (ishl .u64 (IntKind.u64.wrap (zdZ .u8 (l.getD (n4).toNat 0) 128)) (imul .i64 7 n4))), (iadd .i64 n4 1)), .k0 t_.pf (by kernel_rfl), .same (by kernel_rfl)⟩
    ·obtain ⟨h6, h⟩ := zaq h
     rcases zaj h with ⟨h7, h⟩ | ⟨h7, h⟩
     ·obtain ⟨h8, h⟩ := zaq h
      have h := zad h
      subst h
      have t_ := tT h1 <| tO h2 <| tT h3 <| tF h4 <| tF h5 <| tF (rfl : false = false) <| tO h6 <| tT h7 <| tO h8 <| tN
      exact ⟨t_.ev, (zb3 l n l2 n2 (.inr ((ior .u64 n3 (ishl .u64 (IntKind.u64.wrap (zdZ .u8 (l.getD (n4).toNat 0) 128)) (imul .i64 7 n4))), (List.take (((l2).length : Int) - (iadd .i64 n4 1)).toNat (List.drop ((iadd .i64 n4 1)).toNat l2))))).2, .k0 t_.pf (by kernel_rfl), .same (by kernel_rfl)⟩
     ·have h := zad h
      subst h
      have t_ := tT h1 <| tO h2 <| tT h3 <| tF h4 <| tF h5 <| tF (rfl : false = false) <| tO h6 <| tF h7 <| tN
      exact ⟨t_.ev, zc2 l n l2 n2 ((ior .u64 n3 (ishl .u64 (IntKind.u64.wrap (zdZ .u8 (l.getD (n4).toNat 0) 128)) (imul .i64 7 n4))), (iadd .i64 n4 1)), .k0 t_.pf (by kernel_rfl), .same (by kernel_rfl)⟩
  ·rcases zaj h with ⟨h4, h⟩ | ⟨h4, h⟩
   ·rcases zaj h with ⟨h5, h⟩ | ⟨h5, h⟩
    ·have h := zad h
     subst h
     have t_ := tT h1 <| tO h2 <| tF h3 <| tF (rfl : false = false) <| tT h4 <| tT h5 <| tN
     exact ⟨t_.ev, ⟨[(32, (.av (.one (.pv (.bool true))))), (0, (.av (.one (.ref 0 0)))), (3, (.av (.one (.pv (.int .u64 n3))))), (4, (.av (.one (.pv (.int .i64 n4))))), (5, (.av (.one (.pv (.int .u8 (l.getD (n4).toNat 0)))))), (12, (.av (.one (.pv (.ints .u8 l false))))), (13, (.av (.one (.pv (.int .i64 n))))), (14, (.av (.one (.pv (.int .i64 n4))))), (32, (.av (.one (.pv (.bool (decide ((0 : Int) < n4)))))))], [(0, [(.pv (.ints .u8 l2 false)), (.pv (.int .i64 n2))])], []⟩, .k0 t_.pf (by kernel_rfl), ⟨⟨⟨_, rfl, .eq rfl⟩, trivial⟩, ⟨⟨rfl, ⟨.eq rfl, .eq rfl, trivial⟩⟩, trivial⟩, trivial⟩⟩
    ·obtain ⟨h6, h⟩ := zaq h
     rcases zaj h with ⟨h7, h⟩ | ⟨h7, h⟩
     ·obtain ⟨h8, h⟩ := zaq h
      have h := zad h
      subst h
      have t_ := tT h1 <| tO h2 <| tF h3 <| tF (rfl : false = false) <| tT h4 <| tF h5 <| tO h6 <| tT h7 <| tO h8 <| tN
      exact ⟨t_.ev, (zb3 l n l2 n2 (.inr ((ior .u64 n3 (ishl .u64 (IntKind.u64.wrap (zdZ .u8 (l.getD (n4).toNat 0) 128)) (imul .i64 7 n4))), (List.take (((l2).length : Int) - (iadd .i64 n4 1)).toNat (List.drop ((iadd .i64 n4 1)).toNat l2))))).2, .k0 t_.pf (by kernel_rfl), .same (by kernel_rfl)⟩
     ·have h := zad h
      subst h
      have t_ := tT h1 <| tO h2 <| tF h3 <| tF (rfl : false = false) <| tT h4 <| tF h5 <| tO h6 <| tF h7 <| tN
      exact ⟨t_.ev, zc2 l n l2 n2 ((ior .u64 n3 (ishl .u64 (IntKind.u64.wrap (zdZ .u8 (l.getD (n4).toNat 0) 128)) (imul .i64 7 n4))), (iadd .i64 n4 1)), .k0 t_.pf (by kernel_rfl), .same (by kernel_rfl)⟩
   ·obtain ⟨h5, h⟩ := zaq h
    rcases zaj h with ⟨h6, h⟩ | ⟨h6, h⟩
    ·obtain ⟨h7, h⟩ := zaq h
     have h := zad h
     subst h
     have t_ := tT h1 <| tO h2 <| tF h3 <| tF (rfl : false = false) <| tF h4 <| tF (rfl : false = false) <| tO h5 <| tT h6 <| tO h7 <| tN
     exact ⟨t_.ev, (zb3 l n l2 n2 (.inr ((ior .u64 n3 (ishl .u64 (IntKind.u64.wrap (zdZ .u8 (l.getD (n4).toNat 0) 128)) (imul .i64 7 n4))), (List.take (((l2).length : Int) - (iadd .i64 n4 1)).toNat (List.drop ((iadd .i64 n4 1)).toNat l2))))).2, .k0 t_.pf (by kernel_rfl), .same (by kernel_rfl)⟩
    ·have h := zad h
     subst h
     have t_ := tT h1 <| tO h2 <| tF h3 <| tF (rfl : false = false) <| tF h4 <| tF (rfl : false = false) <| tO h5 <| tF h6 <| tN
     exact ⟨t_.ev, zc2 l n l2 n2 ((ior .u64 n3 (ishl .u64 (IntKind.u64.wrap (zdZ .u8 (l.getD (n4).toNat 0) 128)) (imul .i64 7 n4))), (iadd .i64 n4 1)), .k0 t_.pf (by kernel_rfl), .same (by kernel_rfl)⟩
 ·have h := zad h
  subst h
  have t_ := tF h1 <| tN
  exact ⟨t_.ev, ⟨[(15, (.av (.one (.pv (.bool false))))), (0, (.av (.one (.ref 0 0)))), (3, (.av (.one (.pv (.int .u64 n3))))), (12, (.av (.one (.pv (.ints .u8 l false))))), (13, (.av (.one (.pv (.int .i64 n))))), (14, (.av (.one (.pv (.int .i64 n4))))), (15, (.av (.one (.pv (.bool (decide ((n4 : Int) < n)))))))], [(0, [(.pv (.ints .u8 l2 false)), (.pv (.int .i64 n2))])], []⟩, .k0 t_.pf (by kernel_rfl), ⟨⟨⟨_, rfl, .eq rfl⟩, trivial⟩, ⟨⟨rfl, ⟨.eq rfl, .eq rfl, trivial⟩⟩, trivial⟩, trivial⟩⟩
theorem zhn (l : List Int) (n : Int) (l2 : List Int) (n2 : Int) (s_ : Int × Int) (r_ : (Unit) ⊕ (Int × List Int)) (h : runL (zbv l n l2 n2) s_ = some r_) : zaT Tryz.prog (lEnv Tryz.prog cfg 56 1).nt 1 (.loop (zax Tryz.prog 56 0)) (zc2 l n l2 n2 s_) (zb3 l n l2 n2 r_).1 (zb3 l n l2 n2 r_).2 :=
 zaJ h (zmu l n l2 n2) (by intro r_; rcases r_ with _ | ⟨r1, r2⟩ <;> simp [zb3])
def zm5 (e : Int) (l : List Int) (n : Int) : Int → Res
 | r1 => ([], [[(.pv (.ints .u8 l false)), (.pv (.int .i64 r1))]], [])
noncomputable def zcl (e : Int) (l : List Int) (n : Int) : Option (Int) :=
 bif (decide ((n : Int) = 0)) then
  some e
 else
  some n
theorem zbk (e : Int) (l : List Int) (n r_ : Int) (h : zcl e l n = some r_) : Runs Tryz.prog 94 [(.one (.ref 0 0)), (.one (.pv (.int .i64 e)))] [[(.pv (.ints .u8 l false)), (.pv (.int .i64 n))]] [] (zm5 e l n r_) := by
 unfold zcl at h
 rcases zaj h with ⟨h1, h⟩ | ⟨h1, h⟩
 ·have h := zad h
  subst h
  have t_ := tT (rfl : true = true) <| tT h1 <| tN
  exact zah (C := cfg) (sc := t_.ev) (.k0 t_.pf (by kernel_rfl))
 ·have h := zad h
  subst h
  have t_ := tT (rfl : true = true) <| tF h1 <| tN
  exact zah (C := cfg) (sc := t_.ev) (.k0 t_.pf (by kernel_rfl))
noncomputable def zcw (l : List Int) (n : Int) : Option (Int × List Int × Int) :=
 (zcv l n).bind fun _ =>
 bif (decide ((n : Int) = 0)) then
  (runL (zbv l ((l).length : Int) l n) (0, 0)).bind fun z_ => match z_ with
  | .inl _ =>
   (zcl 6 l n).bind fun n2 =>
   some (0, l, n2)
  | .inr (n2, l_) =>
   some (n2, l_, n)
 else
  some (0, l, n)
theorem zau (l : List Int) (n : Int) (r_ : Int × List Int × Int) (h : zcw l n = some r_) : Runs Tryz.prog 56 [(.one (.ref 0 0))] [[(.pv (.ints .u8 l false)), (.pv (.int .i64 n))]] [] (zoP l n r_) := by
 unfold zcw at h
 obtain ⟨_, h1, h⟩ := zaf h
 rcases zaj h with ⟨h2, h⟩ | ⟨h2, h⟩
 ·obtain ⟨z_, h3, h⟩ := zaf h
  rcases z_ with _ | ⟨n2, l_⟩
  ·obtain ⟨n2, h4, h⟩ := zaf h
   have h := zad h
   subst h
   have t_ := tR (zat l n _ h1) <| tF (zan h2) <| tL (zhn l ((l).length : Int) l n _ _ h3) <| tR (zbk 6 l n _ h4) <| tN
   exact zah (C := cfg) (sc := t_.ev) (.k0 t_.pf (by kernel_rfl))
  ·have h := zad h
   subst h
   have t_ := tR (zat l n _ h1) <| tF (zan h2) <| tL (zhn l ((l).length : Int) l n _ _ h3) <| tN
   exact zah (C := cfg) (sc := t_.ev) (.k0 t_.pf (by kernel_rfl))
 ·have h := zad h
  subst h
  have t_ := tR (zat l n _ h1) <| tT (za7 h2) <| tN
  exact zah (C := cfg) (sc := t_.ev) (.k0 t_.pf (by kernel_rfl))
noncomputable def zdY (l : List Int) (n : Int) : Option (Int × List Int × Int) :=
 (zcw l n).bind fun (n2, l_, n3) =>
 bif (decide ((2147483648 : Int) ≤ n2)) then
  (zcl 6 l_ n3).bind fun n4 =>
  some (0, l_, n4)
 else
  some ((IntKind.i64.wrap n2), l_, n3)
theorem zaB (l : List Int) (n : Int) (r_ : Int × List Int × Int) (h : zdY l n = some r_) : Runs Tryz.prog 55 [(.one (.ref 0 0))] [[(.pv (.ints .u8 l false)), (.pv (.int .i64 n))]] [] (znz l n r_) := by
 unfold zdY at h
 obtain ⟨⟨n2, l_, n3⟩, h1, h⟩ := zaf h
 rcases zaj h with ⟨h2, h⟩ | ⟨h2, h⟩
 ·obtain ⟨n4, h3, h⟩ := zaf h
  have h := zad h
  subst h
  have t_ := tR (zau l n _ h1) <| tT h2 <| tR (zbk 6 l_ n3 _ h3) <| tN
  exact zah (C := cfg) (sc := t_.ev) (.k0 t_.pf (by kernel_rfl))
 ·have h := zad h
  subst h
  have t_ := tR (zau l n _ h1) <| tF h2 <| tN
  exact zah (C := cfg) (sc := t_.ev) (.k0 t_.pf (by kernel_rfl))
def zoX (l : List Int) (n n2 n3 : Int) : List Int × Int × List zaa → Res
 | (r1, r2, r3) => ([], [[(.pv (.ints .u8 r1 false)), (.pv (.int .i64 r2))], [(.pv (.int .u64 n2)), (.pv (.int .u64 n3)), (.own 0 0 ((List.map zaa.pv r3)).length false), (.own 1 0 0 false), (.own 2 0 ((List.map zac.pv [])).length false)], [(.ref 0 0)]], [(.recs 5 (List.map zaa.pv r3)), (.ints .i64 []), (.recs 2 (List.map zac.pv []))])
def znu (n n2 : Int) (l : List Int) (n3 : Int) (r : List zaa) (l2 : List Int) (r2 : List zac) : List Int × Int × List zaa → Res
 | (r1, r3, r4) => ([], [[(.pv (.int .u64 n)), (.pv (.int .u64 n2)), (.own 0 0 ((List.map zaa.pv r4)).length false), (.own 1 0 (l2).length false), (.own 2 0 ((List.map zac.pv r2)).length false)], [(.ref 2 0)], [(.pv (.ints .u8 r1 false)), (.pv (.int .i64 r3))]], [(.recs 5 (List.map zaa.pv r4)), (.ints .i64 l2), (.recs 2 (List.map zac.pv r2))])
def zmK (l : List Int) (n : Int) : Int × Int × Int × Bool × zab × List Int × Int → Res
 | (r1, r2, r3, r4, r5, r6, r7) => ([(.agg [(.pv (.int .u64 r1)), (.pv (.int .i64 r2)), (.pv (.int .i64 r3)), (.pv (.bool r4)), (.pv (zab.pv r5))])], [[(.pv (.ints .u8 r6 false)), (.pv (.int .i64 r7))]], [])
def zm7 (most : Int) (l : List Int) (n : Int) : ByteArray × List Int × Int → Res
 | (r1, r2, r3) => ([(.one (.pv (.str r1)))], [[(.pv (.ints .u8 r2 false)), (.pv (.int .i64 r3))]], [])
noncomputable def zfm (most : Int) (l : List Int) (n : Int) : Option (ByteArray × List Int × Int) :=
 (zcv l n).bind fun _ =>
 bif (decide ((n : Int) = 0)) then
  (zcw l n).bind fun (n2, l_, n3) =>
  bif (decide ((n3 : Int) = 0)) then
   bif (decide ((most : Int) < 0)) then
    (zcl 9 l_ n3).bind fun n4 =>
    bif (decide ((n4 : Int) = 0)) then
     bif decide ((0 : Int) ≤ 0) && decide ((0 : Int) ≤ n2) && decide ((n2 : Int) ≤ ((l_).length : Int)) && decide ((n2 : Int) = n2) then
     bif decide ((0 : Int) ≤ n2) && decide ((n2 : Int) ≤ ((l_).length : Int)) && decide ((((l_).length : Int) : Int) ≤ ((l_).length : Int)) && decide ((((l_).length : Int) : Int) = ((l_).length : Int)) then
     some ((Ev.strOf (List.take (n2 - 0).toNat l_)), (List.take (((l_).length : Int) - n2).toNat (List.drop (n2).toNat l_)), n4)
     else none
     else none
    else
     some ((⟨#[]⟩ : ByteArray), l, n4)
   else
    bif (decide (((IntKind.u64.wrap most) : Int) < n2)) then
     (zcl 9 l_ n3).bind fun n4 =>
     bif (decide ((n4 : Int) = 0)) then
      bif decide ((0 : Int) ≤ 0) && decide ((0 : Int) ≤ n2) && decide ((n2 : Int) ≤ ((l_).length : Int)) && decide ((n2 : Int) = n2) then
      bif decide ((0 : Int) ≤ n2) && decide ((n2 : Int) ≤ ((l_).length : Int)) && decide ((((l_).length : Int) : Int) ≤ ((l_).length : Int)) && decide ((((l_).length : Int) : Int) = ((l_).length : Int)) then
      some ((Ev.strOf (List.take (n2 - 0).toNat l_)), (List.take (((l_).length : Int) - n2).toNat (List.drop (n2).toNat l_)), n4)
      else none
      else none
     else
      some ((⟨#[]⟩ : ByteArray), l, n4)
    else
     bif (decide (((IntKind.u64.wrap ((l_).length : Int)) : Int) < n2)) then
      (zcl 6 l_ n3).bind fun n4 =>
      bif (decide ((n4 : Int) = 0)) then
       bif decide ((0 : Int) ≤ 0) && decide ((0 : Int) ≤ n2) && decide ((n2 : Int) ≤ ((l_).length : Int)) && decide ((n2 : Int) = n2) then
       bif decide ((0 : Int) ≤ n2) && decide ((n2 : Int) ≤ ((l_).length : Int)) && decide ((((l_).length : Int) : Int) ≤ ((l_).length : Int)) && decide ((((l_).length : Int) : Int) = ((l_).length : Int)) then
       some ((Ev.strOf (List.take (n2 - 0).toNat l_)), (List.take (((l_).length : Int) - n2).toNat (List.drop (n2).toNat l_)), n4)
       else none
       else none
      else
       some ((⟨#[]⟩ : ByteArray), l, n4)
     else
      bif decide ((0 : Int) ≤ 0) && decide ((0 : Int) ≤ n2) && decide ((n2 : Int) ≤ ((l_).length : Int)) && decide ((n2 : Int) = n2) then
      bif decide ((0 : Int) ≤ n2) && decide ((n2 : Int) ≤ ((l_).length : Int)) && decide ((((l_).length : Int) : Int) ≤ ((l_).length : Int)) && decide ((((l_).length : Int) : Int) = ((l_).length : Int)) then
      some ((Ev.strOf (List.take (n2 - 0).toNat l_)), (List.take (((l_).length : Int) - n2).toNat (List.drop (n2).toNat l_)), n3)
      else none
      else none
  else
   some ((⟨#[]⟩ : ByteArray), l, n3)
 else
  some ((⟨#[]⟩ : ByteArray), l, n)
theorem zgf (most : Int) (l : List Int) (n : Int) (r_ : ByteArray × List Int × Int) (h : zfm most l n = some r_) : Runs Tryz.prog 96 [(.one (.ref 0 0)), (.one (.pv (.int .i64 most)))] [[(.pv (.ints .u8 l false)), (.pv (.int .i64 n))]] [] (zm7 most l n r_) := by
 unfold zfm at h
 obtain ⟨_, h1, h⟩ := zaf h
 rcases zaj h with ⟨h2, h⟩ | ⟨h2, h⟩
 ·obtain ⟨⟨n2, l_, n3⟩, h3, h⟩ := zaf h
  rcases zaj h with ⟨h4, h⟩ | ⟨h4, h⟩
  ·rcases zaj h with ⟨h5, h⟩ | ⟨h5, h⟩
   ·obtain ⟨n4, h6, h⟩ := zaf h
    rcases zaj h with ⟨h7, h⟩ | ⟨h7, h⟩
    ·obtain ⟨h8, h⟩ := zaq h
     obtain ⟨h9, h⟩ := zaq h
     have h := zad h
     subst h
     have t_ := tR (zat l n _ h1) <| tF (zan h2) <| tR (zau l n _ h3) <| tF (zan h4) <| tT h5 <| tT (rfl : true = true) <| tR (zbk 9 l_ n3 _ h6) <| tF (zan h7) <| tO h8 <| tO h9 <| tN
     exact zah (C := cfg) (sc := t_.ev) (.k0 t_.pf (by kernel_rfl))
    ·have h := zad h
     subst h
     have t_ := tR (zat l n _ h1) <| tF (zan h2) <| tR (zau l n _ h3) <| tF (zan h4) <| tT h5 <| tT (rfl : true = true) <| tR (zbk 9 l_ n3 _ h6) <| tT (za7 h7) <| tN
     exact zah (C := cfg) (sc := t_.ev) (.k0 t_.pf (by kernel_rfl))
   ·rcases zaj h with ⟨h6, h⟩ | ⟨h6, h⟩
    ·obtain ⟨n4, h7, h⟩ := zaf h
     rcases zaj h with ⟨h8, h⟩ | ⟨h8, h⟩
     ·obtain ⟨h9, h⟩ := zaq h
      obtain ⟨h10, h⟩ := zaq h
      have h := zad h
      subst h
      have t_ := tR (zat l n _ h1) <| tF (zan h2) <| tR (zau l n _ h3) <| tF (zan h4) <| tF h5 <| tT h6 <| tR (zbk 9 l_ n3 _ h7) <| tF (zan h8) <| tO h9 <| tO h10 <| tN
      exact zah (C := cfg) (sc := t_.ev) (.k0 t_.pf (by kernel_rfl))
     ·have h := zad h
      subst h
      have t_ := tR (zat l n _ h1) <| tF (zan h2) <| tR (zau l n _ h3) <| tF (zan h4) <| tF h5 <| tT h6 <| tR (zbk 9 l_ n3 _ h7) <| tT (za7 h8) <| tN
      exact zah (C := cfg) (sc := t_.ev) (.k0 t_.pf (by kernel_rfl))
    ·rcases zaj h with ⟨h7, h⟩ | ⟨h7, h⟩
     ·obtain ⟨n4, h8, h⟩ := zaf h
      rcases zaj h with ⟨h9, h⟩ | ⟨h9, h⟩
      ·obtain ⟨h10, h⟩ := zaq h
       obtain ⟨h11, h⟩ := zaq h
       have h := zad h
       subst h
       have t_ := tR (zat l n _ h1) <| tF (zan h2) <| tR (zau l n _ h3) <| tF (zan h4) <| tF h5 <| tF h6 <| tT h7 <| tR (zbk 6 l_ n3 _ h8) <| tF (zan h9) <| tO h10 <| tO h11 <| tN
       exact zah (C := cfg) (sc := t_.ev) (.k0 t_.pf (by kernel_rfl))
      ·have h := zad h
       subst h
       have t_ := tR (zat l n _ h1) <| tF (zan h2) <| tR (zau l n _ h3) <| tF (zan h4) <| tF h5 <| tF h6 <| tT h7 <| tR (zbk 6 l_ n3 _ h8) <| tT (za7 h9) <| tN
       exact zah (C := cfg) (sc := t_.ev) (.k0 t_.pf (by kernel_rfl))
     ·obtain ⟨h8, h⟩ := zaq h
      obtain ⟨h9, h⟩ := zaq h
      have h := zad h
      subst h
      have t_ := tR (zat l n _ h1) <| tF (zan h2) <| tR (zau l n _ h3) <| tF (zan h4) <| tF h5 <| tF h6 <| tF h7 <| tF (zan h4) <| tO h8 <| tO h9 <| tN
      exact zah (C := cfg) (sc := t_.ev) (.k0 t_.pf (by kernel_rfl))
  ·have h := zad h
   subst h
   have t_ := tR (zat l n _ h1) <| tF (zan h2) <| tR (zau l n _ h3) <| tT (za7 h4) <| tT (za7 h4) <| tN
   exact zah (C := cfg) (sc := t_.ev) (.k0 t_.pf (by kernel_rfl))
 ·have h := zad h
  subst h
  have t_ := tR (zat l n _ h1) <| tT (za7 h2) <| tN
  exact zah (C := cfg) (sc := t_.ev) (.k0 t_.pf (by kernel_rfl))
def zns (p : List Int) : Bool × zab × Int → Res
 | (r1, r2, r3) => ([(.agg [(.pv (.bool r1)), (.pv (zab.pv r2))]), (.one (.pv (.int .i64 r3)))], [], [])
def zk9 (p : List Int) : Unit → Res
 | _ => ([(.one (.ref 0 0))], [[(.pv (.ints .u8 p false)), (.pv (.int .i64 0)), (.pv (.int .i64 0))]], [])
noncomputable def zgh (p : List Int) : Option (Unit) :=
 bif fits (p).length then
 some ()
 else none
theorem zkB (p : List Int) (r_ : Unit) (h : zgh p = some r_) : Runs Tryz.prog 125 [(.one (.pv (.ints .u8 p false)))] [] [] (zk9 p r_) := by
 unfold zgh at h
 obtain ⟨h1, h⟩ := zaq h
 have h := zad h
 subst h
 have t_ := tR (zgF (l := p) (t := false) h1) <| tN
 exact zah (C := cfg) (sc := t_.ev) (.k0 t_.pf (by kernel_rfl))
def zoT (l : List Int) (n n2 : Int) : Bool × zab × Int × Int × Int → Res
 | (r1, r2, r3, r4, r5) => ([(.agg [(.pv (.bool r1)), (.pv (zab.pv r2))]), (.one (.pv (.int .i64 r3)))], [[(.pv (.ints .u8 l false)), (.pv (.int .i64 r4)), (.pv (.int .i64 r5))]], [])
def zcg (depth n : Int) (l : List Int) (n2 n3 : Int) : Bool × zab × Int × Int × Int → Res
 | (r1, r2, r3, r4, r5) => ([(.agg [(.pv (.bool r1)), (.pv (zab.pv r2))])], [[(.ref 1 0), (.pv (.int .i64 r3))], [(.pv (.ints .u8 l false)), (.pv (.int .i64 r4)), (.pv (.int .i64 r5))]], [])
def zrX : Unit → Res
 | _ => ([(.agg [(.pv (.bool false)), (.pv (zab.pv zab.nil))])], [], [])
noncomputable def zfy : Option (Unit) :=
 some ()
theorem zaR (r_ : Unit) (h : zfy = some r_) : Runs Tryz.prog 79 [] [] [] (zrX r_) := by
 unfold zfy at h
 have h := zad h
 subst h
 have t_ := tN
 exact Runs.out (zah (C := cfg) (res := ([(.agg [(.pv (.bool false)), (.pv .nilp)])], [], [])) (sc := t_.ev) (.k0 t_.pf (by kernel_rfl))) ⟨⟨.eq rfl, .eq rfl, trivial⟩, trivial⟩ trivial trivial rfl
def zkJ (k n : Int) (l : List Int) (n2 n3 : Int) : Int × Int × Int × Int → Res
 | (r1, r2, r3, r4) => ([(.one (.pv (.int .u64 r1)))], [[(.ref 1 0), (.pv (.int .i64 r2))], [(.pv (.ints .u8 l false)), (.pv (.int .i64 r3)), (.pv (.int .i64 r4))]], [])
def zlc (n : Int) (l : List Int) (n2 n3 : Int) : Bool × Int → Res
 | (r1, r2) => ([(.one (.pv (.bool r1)))], [[(.ref 1 0), (.pv (.int .i64 r2))], [(.pv (.ints .u8 l false)), (.pv (.int .i64 n2)), (.pv (.int .i64 n3))]], [])
def zkE (l : List Int) (n n2 : Int) : Unit → Res
 | _ => ([(.one (.pv (.int .i64 n2)))], [[(.pv (.ints .u8 l false)), (.pv (.int .i64 n)), (.pv (.int .i64 n2))]], [])
noncomputable def zb6 (l : List Int) (n n2 : Int) : Option (Unit) :=
 some ()
theorem za1 (l : List Int) (n n2 : Int) (r_ : Unit) (h : zb6 l n n2 = some r_) : Runs Tryz.prog 173 [(.one (.ref 0 0))] [[(.pv (.ints .u8 l false)), (.pv (.int .i64 n)), (.pv (.int .i64 n2))]] [] (zkE l n n2 r_) := by
 unfold zb6 at h
 have h := zad h
 subst h
 have t_ := tF (rfl : false = false) <| tN
 exact zah (C := cfg) (sc := t_.ev) (.k0 t_.pf (by kernel_rfl))
def zkb (e n : Int) (l : List Int) (n2 n3 : Int) : Int → Res
 | r1 => ([], [[(.ref 1 0), (.pv (.int .i64 r1))], [(.pv (.ints .u8 l false)), (.pv (.int .i64 n2)), (.pv (.int .i64 n3))]], [])
noncomputable def zbY (e n : Int) (l : List Int) (n2 n3 : Int) : Option (Int) :=
 bif (decide ((n : Int) = 0)) then
  some e
 else
  some n
theorem zey (e n : Int) (l : List Int) (n2 n3 r_ : Int) (h : zbY e n l n2 n3 = some r_) : Runs Tryz.prog 170 [(.one (.ref 0 0)), (.one (.pv (.int .i64 e)))] [[(.ref 1 0), (.pv (.int .i64 n))], [(.pv (.ints .u8 l false)), (.pv (.int .i64 n2)), (.pv (.int .i64 n3))]] [] (zkb e n l n2 n3 r_) := by
 unfold zbY at h
 rcases zaj h with ⟨h1, h⟩ | ⟨h1, h⟩
 ·have h := zad h
  subst h
  have t_ := tT h1 <| tN
  exact zah (C := cfg) (sc := t_.ev) (.k0 t_.pf (by kernel_rfl))
 ·have h := zad h
  subst h
  have t_ := tF h1 <| tN
  exact zah (C := cfg) (sc := t_.ev) (.k0 t_.pf (by kernel_rfl))
noncomputable def zb4 (n : Int) (l : List Int) (n2 n3 : Int) : Option (Bool × Int) :=
 (zb6 l n2 n3).bind fun _ =>
 bif (decide ((n3 : Int) = 0)) then
  some ((decide ((n : Int) = 0)), n)
 else
  (zbY 6 n l n2 n3).bind fun n4 =>
  some ((decide ((n4 : Int) = 0)), n4)
theorem zaF (n : Int) (l : List Int) (n2 n3 : Int) (r_ : Bool × Int) (h : zb4 n l n2 n3 = some r_) : Runs Tryz.prog 171 [(.one (.ref 0 0))] [[(.ref 1 0), (.pv (.int .i64 n))], [(.pv (.ints .u8 l false)), (.pv (.int .i64 n2)), (.pv (.int .i64 n3))]] [] (zlc n l n2 n3 r_) := by
 unfold zb4 at h
 obtain ⟨_, h1, h⟩ := zaf h
 rcases zaj h with ⟨h2, h⟩ | ⟨h2, h⟩
 ·have h := zad h
  subst h
  have t_ := tR (za1 l n2 n3 _ h1) <| tF (zan h2) <| tN
  exact zah (C := cfg) (sc := t_.ev) (.k0 t_.pf (by kernel_rfl))
 ·obtain ⟨n4, h3, h⟩ := zaf h
  have h := zad h
  subst h
  have t_ := tR (za1 l n2 n3 _ h1) <| tT (za7 h2) <| tR (zey 6 n l n2 n3 _ h3) <| tN
  exact zah (C := cfg) (sc := t_.ev) (.k0 t_.pf (by kernel_rfl))
def zkF (k : Int) (l : List Int) (n n2 : Int) : Int × Int × Int → Res
 | (r1, r2, r3) => ([(.one (.pv (.int .u64 r1)))], [[(.pv (.ints .u8 l false)), (.pv (.int .i64 r2)), (.pv (.int .i64 r3))]], [])
def znm (k : Int) : Int → Res
 | r1 => ([(.one (.pv (.int .i64 r1)))], [], [])
noncomputable def zex (k : Int) : Option (Int) :=
 some (if (64 : Int) < (if (k : Int) < 0 then 0 else k) then 64 else (if (k : Int) < 0 then 0 else k))
theorem zd8 (k r_ : Int) (h : zex k = some r_) : Runs Tryz.prog 160 [(.one (.pv (.int .i64 k)))] [] [] (znm k r_) := by
 unfold zex at h
 have h := zad h
 subst h
 have t_ := tN
 exact zah (C := cfg) (sc := t_.ev) (.k0 t_.pf (by kernel_rfl))
def zj8 (l : List Int) (n n2 : Int) : Int → Res
 | r1 => ([(.one (.pv (.int .i64 r1)))], [[(.pv (.ints .u8 l false)), (.pv (.int .i64 n)), (.pv (.int .i64 n2))]], [])
noncomputable def zcH (l : List Int) (n n2 : Int) : Option (Int) :=
 some (isub .i64 (imul .i64 8 ((l).length : Int)) n)
theorem zbd (l : List Int) (n n2 r_ : Int) (h : zcH l n n2 = some r_) : Runs Tryz.prog 174 [(.one (.ref 0 0))] [[(.pv (.ints .u8 l false)), (.pv (.int .i64 n)), (.pv (.int .i64 n2))]] [] (zj8 l n n2 r_) := by
 unfold zcH at h
 have h := zad h
 subst h
 have t_ := tF (rfl : false = false) <| tN
 exact zah (C := cfg) (sc := t_.ev) (.k1 t_.pf (by kernel_rfl) (by kernel_rfl))
def zj9 (l : List Int) (n n2 : Int) : Int → Res
 | r1 => ([(.one (.pv (.int .u64 0)))], [[(.pv (.ints .u8 l false)), (.pv (.int .i64 n)), (.pv (.int .i64 r1))]], [])
noncomputable def zci (l : List Int) (n n2 : Int) : Option (Int) :=
 bif (decide ((n2 : Int) = 0)) then
  some 6
 else
  some n2
theorem zdr (l : List Int) (n n2 r_ : Int) (h : zci l n n2 = some r_) : Runs Tryz.prog 176 [(.one (.ref 0 0))] [[(.pv (.ints .u8 l false)), (.pv (.int .i64 n)), (.pv (.int .i64 n2))]] [] (zj9 l n n2 r_) := by
 unfold zci at h
 rcases zaj h with ⟨h1, h⟩ | ⟨h1, h⟩
 ·have h := zad h
  subst h
  have t_ := tT (rfl : true = true) <| tT h1 <| tN
  exact zah (C := cfg) (sc := t_.ev) (.k0 t_.pf (by kernel_rfl))
 ·have h := zad h
  subst h
  have t_ := tT (rfl : true = true) <| tF h1 <| tN
  exact zah (C := cfg) (sc := t_.ev) (.k0 t_.pf (by kernel_rfl))
def zew (n : Int) (l : List Int) (n3 : Int) : Int × Int × Int → St
 | (n4, n5, n2) => ⟨[(0, (.av (.one (.ref 0 0)))), (5, (.av (.one (.pv (.int .u64 n4))))), (20, (.av (.one (.pv (.int .i64 n))))), (21, (.av (.one (.pv (.int .i64 n5)))))], [(0, [(.pv (.ints .u8 l false)), (.pv (.int .i64 n2)), (.pv (.int .i64 n3))])], []⟩
def zdq (n : Int) (l : List Int) (n3 : Int) : Int × Int → Ex × St
 | (r1, r2) => ((.exit 0), ⟨[(5, (.av (.one (.pv (.int .u64 r1)))))], [(0, [(.pv (.ints .u8 l false)), (.pv (.int .i64 r2)), (.pv (.int .i64 n3))])], []⟩)
noncomputable def zbe (n : Int) (l : List Int) (n3 : Int) : Int × Int × Int → Option ((Int × Int × Int) ⊕ (Int × Int))
 | (n4, n5, n2) =>
 bif (decide ((n5 : Int) < n)) then
  bif decide ((0 : Int) ≤ (iquo .i64 n2 8)) && decide (((iquo .i64 n2 8) : Int) < ((l).length : Int)) then
  bif decide ((0 : Int) ≤ (isub .i64 7 (irem .i64 n2 8))) then
  some (.inl ((ior .u64 (ishl .u64 n4 1) (IntKind.u64.wrap (iand .u8 (ishr .u8 (l.getD ((iquo .i64 n2 8)).toNat 0) (isub .i64 7 (irem .i64 n2 8))) 1))), (iadd .i64 n5 1), (iadd .i64 n2 1)))
  else none
  else none
 else
  some (.inr (n4, n2))
theorem zjn (n : Int) (l : List Int) (n3 : Int) (s_ : Int × Int × Int) (z_ : (Int × Int × Int) ⊕ (Int × Int)) (h : zbe n l n3 s_ = some z_) : zaP Tryz.prog cfg 175 1 (zax Tryz.prog 175 0) (zew n l n3) (zdq n l n3) s_ z_ := by
 rcases s_ with ⟨n4, n5, n2⟩
 rcases zaj h with ⟨h1, h⟩ | ⟨h1, h⟩
 ·obtain ⟨h2, h⟩ := zaq h
  obtain ⟨h3, h⟩ := zaq h
  have h := zad h
  subst h
  have t_ := tT h1 <| tO (rfl : true = true) <| tO (rfl : true = true) <| tO (rfl : true = true) <| tO (rfl : true = true) <| tO (rfl : true = true) <| tO h2 <| tO (rfl : true = true) <| tO (rfl : true = true) <| tO (rfl : true = true) <| tO h2 <| tO h3 <| tO (rfl : true = true) <| tN
  exact ⟨t_.ev, zew n l n3 ((ior .u64 (ishl .u64 n4 1) (IntKind.u64.wrap (iand .u8 (ishr .u8 (l.getD ((iquo .i64 n2 8)).toNat 0) (isub .i64 7 (irem .i64 n2 8))) 1))), (iadd .i64 n5 1), (iadd .i64 n2 1)), .k1 t_.pf (by kernel_rfl) (by kernel_rfl), .same (by kernel_rfl)⟩
 ·have h := zad h
  subst h
  have t_ := tF h1 <| tN
  exact ⟨t_.ev, ⟨[(22, (.av (.one (.pv (.bool false))))), (0, (.av (.one (.ref 0 0)))), (5, (.av (.one (.pv (.int .u64 n4))))), (20, (.av (.one (.pv (.int .i64 n))))), (21, (.av (.one (.pv (.int .i64 n5))))), (22, (.av (.one (.pv (.bool (decide ((n5 : Int) < n)))))))], [(0, [(.pv (.ints .u8 l false)), (.pv (.int .i64 n2)), (.pv (.int .i64 n3))])], []⟩, .k0 t_.pf (by kernel_rfl), ⟨⟨⟨_, rfl, .eq rfl⟩, trivial⟩, ⟨⟨rfl, ⟨.eq rfl, .eq rfl, .eq rfl, trivial⟩⟩, trivial⟩, trivial⟩⟩
theorem ziv (n : Int) (l : List Int) (n3 : Int) (s_ : Int × Int × Int) (r_ : Int × Int) (h : runL (zbe n l n3) s_ = some r_) : zaT Tryz.prog (lEnv Tryz.prog cfg 175 1).nt 1 (.loop (zax Tryz.prog 175 0)) (zew n l n3 s_) (zdq n l n3 r_).1 (zdq n l n3 r_).2 :=
 zaJ h (zjn n l n3) (by intro r_; rcases r_ with ⟨r1, r2⟩ <;> simp [zdq])
noncomputable def zb7 (k : Int) (l : List Int) (n n2 : Int) : Option (Int × Int × Int) :=
 (zex k).bind fun n3 =>
 (zb6 l n n2).bind fun _ =>
 bif (decide ((n2 : Int) = 0)) then
  (zcH l n n2).bind fun n4 =>
  bif (decide ((n4 : Int) < n3)) then
   (zci l n n2).bind fun n5 =>
   some (0, n, n5)
  else
   (runL (zbe n3 l n2) (0, 0, n)).bind fun (n5, n6) =>
   some (n5, n6, n2)
 else
  (zci l n n2).bind fun n4 =>
  some (0, n, n4)
theorem zeV (k : Int) (l : List Int) (n n2 : Int) (r_ : Int × Int × Int) (h : zb7 k l n n2 = some r_) : Runs Tryz.prog 175 [(.one (.ref 0 0)), (.one (.pv (.int .i64 k)))] [[(.pv (.ints .u8 l false)), (.pv (.int .i64 n)), (.pv (.int .i64 n2))]] [] (zkF k l n n2 r_) := by
 unfold zb7 at h
 obtain ⟨n3, h1, h⟩ := zaf h
 obtain ⟨_, h2, h⟩ := zaf h
 rcases zaj h with ⟨h3, h⟩ | ⟨h3, h⟩
 ·obtain ⟨n4, h4, h⟩ := zaf h
  rcases zaj h with ⟨h5, h⟩ | ⟨h5, h⟩
  ·obtain ⟨n5, h6, h⟩ := zaf h
   have h := zad h
   subst h
   have t_ := tR (zd8 k _ h1) <| tR (za1 l n n2 _ h2) <| tF (zan h3) <| tR (zbd l n n2 _ h4) <| tT h5 <| tR (zdr l n n2 _ h6) <| tN
   exact zah (C := cfg) (sc := t_.ev) (.k0 t_.pf (by kernel_rfl))
  ·obtain ⟨⟨n5, n6⟩, h6, h⟩ := zaf h
   have h := zad h
   subst h
   have t_ := tR (zd8 k _ h1) <| tR (za1 l n n2 _ h2) <| tF (zan h3) <| tR (zbd l n n2 _ h4) <| tF h5 <| tL (ziv n3 l n2 _ _ h6) <| tN
   exact zah (C := cfg) (sc := t_.ev) (.k0 t_.pf (by kernel_rfl))
 ·obtain ⟨n4, h4, h⟩ := zaf h
  have h := zad h
  subst h
  have t_ := tR (zd8 k _ h1) <| tR (za1 l n n2 _ h2) <| tT (za7 h3) <| tT (rfl : true = true) <| tR (zdr l n n2 _ h4) <| tN
  exact zah (C := cfg) (sc := t_.ev) (.k0 t_.pf (by kernel_rfl))
noncomputable def zaU (k n : Int) (l : List Int) (n2 n3 : Int) : Option (Int × Int × Int × Int) :=
 (zb4 n l n2 n3).bind fun (b, n4) =>
 bif b then
  (zb7 k l n2 n3).bind fun (n5, n6, n7) =>
  (zb4 n4 l n6 n7).bind fun (b2, n8) =>
  some (n5, n8, n6, n7)
 else
  some (0, n4, n2, n3)
theorem za2 (k n : Int) (l : List Int) (n2 n3 : Int) (r_ : Int × Int × Int × Int) (h : zaU k n l n2 n3 = some r_) : Runs Tryz.prog 169 [(.one (.ref 0 0)), (.one (.pv (.int .i64 k)))] [[(.ref 1 0), (.pv (.int .i64 n))], [(.pv (.ints .u8 l false)), (.pv (.int .i64 n2)), (.pv (.int .i64 n3))]] [] (zkJ k n l n2 n3 r_) := by
 unfold zaU at h
 obtain ⟨⟨b, n4⟩, h1, h⟩ := zaf h
 rcases zaj h with ⟨h2, h⟩ | ⟨h2, h⟩
 ·obtain ⟨⟨n5, n6, n7⟩, h3, h⟩ := zaf h
  obtain ⟨⟨b2, n8⟩, h4, h⟩ := zaf h
  have h := zad h
  subst h
  have t_ := tR (zaF n l n2 n3 _ h1) <| tF (zan h2) <| tR (zeV k l n2 n3 _ h3) <| tR (zaF n4 l n6 n7 _ h4) <| tN
  exact zah (C := cfg) (sc := t_.ev) (.k0 t_.pf (by kernel_rfl))
 ·have h := zad h
  subst h
  have t_ := tR (zaF n l n2 n3 _ h1) <| tT (za7 h2) <| tN
  exact zah (C := cfg) (sc := t_.ev) (.k0 t_.pf (by kernel_rfl))
def zgq (depth kind : Int) (b : Bool) (n : Int) (l : List Int) (n2 n3 : Int) : Int → Ex × St
 | r1 => (.normal, ⟨[(0, (.av (.one (.ref 0 0)))), (1, (.av (.one (.pv (.int .i64 depth))))), (4, (.av (.one (.ref 2 0)))), (5, (.av (.one (.ref 3 0)))), (6, (.av (.one (.ref 4 0)))), (7, (.av (.one (.pv (.int .u64 kind)))))], [(0, [(.ref 1 0), (.pv (.int .i64 r1))]), (1, [(.pv (.ints .u8 l false)), (.pv (.int .i64 n2)), (.pv (.int .i64 n3))]), (2, [(.pv (.bool false)), (.pv (zab.pv zab.nil))]), (3, [(.pv (.bool false)), (.pv (zab.pv zab.nil))]), (4, [(.pv (.bool false)), (.pv (zab.pv zab.nil))])], []⟩)
noncomputable def zem (depth kind : Int) (b : Bool) (n : Int) (l : List Int) (n2 n3 : Int) : Option (Int) :=
 bif b then
  (zbY 3 n l n2 n3).bind fun n4 =>
  some n4
 else
  some n
theorem ziA (depth kind : Int) (b : Bool) (n : Int) (l : List Int) (n2 n3 r_ : Int) (h : zem depth kind b n l n2 n3 = some r_) : zaT Tryz.prog (lEnv Tryz.prog cfg 155 2).nt 2 (.cond (.tmp 22) (zgM Tryz.prog 155 22).1 (zgM Tryz.prog 155 22).2) ⟨[(0, (.av (.one (.ref 0 0)))), (1, (.av (.one (.pv (.int .i64 depth))))), (4, (.av (.one (.ref 2 0)))), (5, (.av (.one (.ref 3 0)))), (6, (.av (.one (.ref 4 0)))), (7, (.av (.one (.pv (.int .u64 kind))))), (22, (.av (.one (.pv (.bool b)))))], [(0, [(.ref 1 0), (.pv (.int .i64 n))]), (1, [(.pv (.ints .u8 l false)), (.pv (.int .i64 n2)), (.pv (.int .i64 n3))]), (2, [(.pv (.bool false)), (.pv (zab.pv zab.nil))]), (3, [(.pv (.bool false)), (.pv (zab.pv zab.nil))]), (4, [(.pv (.bool false)), (.pv (zab.pv zab.nil))])], []⟩ (zgq depth kind b n l n2 n3 r_).1 (zgq depth kind b n l n2 n3 r_).2 := by
 unfold zem at h
 rcases zaj h with ⟨h1, h⟩ | ⟨h1, h⟩
 ·obtain ⟨n4, h2, h⟩ := zaf h
  have h := zad h
  subst h
  have t_ := tT h1 <| tR (zey 3 n l n2 n3 _ h2) <| tN
  exact zcG (C := cfg) (sc := t_.ev) (.k0 t_.pf (by kernel_rfl))
 ·have h := zad h
  subst h
  have t_ := tF h1 <| tN
  exact zcG (C := cfg) (sc := t_.ev) (.k0 t_.pf (by kernel_rfl))
def znO (i : Bool) (i2 : zab) : Unit → Res
 | _ => ([(.one (.pv (.bool i)))], [], [])
noncomputable def zbf (i : Bool) (i2 : zab) : Option (Unit) :=
 some ()
theorem zas (i : Bool) (i2 : zab) (r_ : Unit) (h : zbf i i2 = some r_) : Runs Tryz.prog 109 [(.agg [(.pv (.bool i)), (.pv (zab.pv i2))])] [] [] (znO i i2 r_) := by
 unfold zbf at h
 have h := zad h
 subst h
 have t_ := tN
 exact zah (C := cfg) (sc := t_.ev) (.k0 t_.pf (by kernel_rfl))
def zkc (is_ : Bool) (n : Int) (l : List Int) (n2 n3 : Int) : Int → Res
 | r1 => ([], [[(.ref 1 0), (.pv (.int .i64 r1))], [(.pv (.ints .u8 l false)), (.pv (.int .i64 n2)), (.pv (.int .i64 n3))]], [])
noncomputable def zaE (is_ : Bool) (n : Int) (l : List Int) (n2 n3 : Int) : Option (Int) :=
 bif is_ then
  some n
 else
  (zbY 6 n l n2 n3).bind fun n4 =>
  some n4
theorem zaD (is_ : Bool) (n : Int) (l : List Int) (n2 n3 r_ : Int) (h : zaE is_ n l n2 n3 = some r_) : Runs Tryz.prog 172 [(.one (.ref 0 0)), (.one (.pv (.bool is_)))] [[(.ref 1 0), (.pv (.int .i64 n))], [(.pv (.ints .u8 l false)), (.pv (.int .i64 n2)), (.pv (.int .i64 n3))]] [] (zkc is_ n l n2 n3 r_) := by
 unfold zaE at h
 rcases zaj h with ⟨h1, h⟩ | ⟨h1, h⟩
 ·have h := zad h
  subst h
  have t_ := tF (zan h1) <| tN
  exact zah (C := cfg) (sc := t_.ev) (.k0 t_.pf (by kernel_rfl))
 ·obtain ⟨n4, h2, h⟩ := zaf h
  have h := zad h
  subst h
  have t_ := tT (za7 h1) <| tR (zey 6 n l n2 n3 _ h2) <| tN
  exact zah (C := cfg) (sc := t_.ev) (.k0 t_.pf (by kernel_rfl))
def zrW (l : Bool) (l2 : zab) (r : Bool) (r2 : zab) : Bool × zab × Int → Res
 | (r1, r3, r4) => ([(.agg [(.pv (.bool r1)), (.pv (zab.pv r3))]), (.one (.pv (.int .i64 r4)))], [], [])
def zrY (l : Bool) (l2 : zab) (r : Bool) (r2 : zab) : Bool × zab → Res
 | (r1, r3) => ([(.agg [(.pv (.bool r1)), (.pv (zab.pv r3))])], [], [])
noncomputable def zjB (l : Bool) (l2 : zab) (r : Bool) (r2 : zab) : Option (Bool × zab) :=
 (za0 l l2).bind fun b =>
 bif b then
  (za0 r r2).bind fun b2 =>
  bif b2 then
   (zfy).bind fun _ =>
   some (false, zab.nil)
  else
   (zbf l l2).bind fun _ =>
   bif l then
    (zbf r r2).bind fun _ =>
    bif r then
     (zkr).bind fun _ =>
     some (true, zab.nil)
    else
     some (false, (zab.mk l l2 r r2))
   else
    some (false, (zab.mk l l2 r r2))
 else
  (zbf l l2).bind fun _ =>
  bif l then
   (zbf r r2).bind fun _ =>
   bif r then
    (zkr).bind fun _ =>
    some (true, zab.nil)
   else
    some (false, (zab.mk l l2 r r2))
  else
   some (false, (zab.mk l l2 r r2))
theorem zmA (l : Bool) (l2 : zab) (r : Bool) (r2 : zab) (r_ : Bool × zab) (h : zjB l l2 r r2 = some r_) : Runs Tryz.prog 113 [(.agg [(.pv (.bool l)), (.pv (zab.pv l2))]), (.agg [(.pv (.bool r)), (.pv (zab.pv r2))])] [] [] (zrY l l2 r r2 r_) := by
 unfold zjB at h
 obtain ⟨b, h1, h⟩ := zaf h
 rcases zaj h with ⟨h2, h⟩ | ⟨h2, h⟩
 ·obtain ⟨b2, h3, h⟩ := zaf h
  rcases zaj h with ⟨h4, h⟩ | ⟨h4, h⟩
  ·obtain ⟨_, h5, h⟩ := zaf h
   have h := zad h
   subst h
   have t_ := tR (zap l l2 _ h1) <| tT h2 <| tR (zap r r2 _ h3) <| tT h4 <| tR (zaR _ h5) <| tN
   exact zah (C := cfg) (sc := t_.ev) (.k0 t_.pf (by kernel_rfl))
  ·obtain ⟨_, h5, h⟩ := zaf h
   rcases zaj h with ⟨h6, h⟩ | ⟨h6, h⟩
   ·obtain ⟨_, h7, h⟩ := zaf h
    rcases zaj h with ⟨h8, h⟩ | ⟨h8, h⟩
    ·obtain ⟨_, h9, h⟩ := zaf h
     have h := zad h
     subst h
     have t_ := tR (zap l l2 _ h1) <| tT h2 <| tR (zap r r2 _ h3) <| tF h4 <| tR (zas l l2 _ h5) <| tT h6 <| tR (zas r r2 _ h7) <| tT h8 <| tR (zd0 _ h9) <| tN
     exact zah (C := cfg) (sc := t_.ev) (.k0 t_.pf (by kernel_rfl))
    ·have h := zad h
     subst h
     have t_ := tR (zap l l2 _ h1) <| tT h2 <| tR (zap r r2 _ h3) <| tF h4 <| tR (zas l l2 _ h5) <| tT h6 <| tR (zas r r2 _ h7) <| tF h8 <| tN
     exact Runs.out (zah (C := cfg) (res := ([(.agg [(.pv (.bool false)), (.pv (.imm [(.bool l), (zab.pv l2), (.bool r), (zab.pv r2)] 0))])], [], [])) (sc := t_.ev) (.k0 t_.pf (by kernel_rfl))) ⟨⟨.eq rfl, .eq rfl, trivial⟩, trivial⟩ trivial trivial rfl
   ·have h := zad h
    subst h
    have t_ := tR (zap l l2 _ h1) <| tT h2 <| tR (zap r r2 _ h3) <| tF h4 <| tR (zas l l2 _ h5) <| tF h6 <| tF (rfl : false = false) <| tN
    exact Runs.out (zah (C := cfg) (res := ([(.agg [(.pv (.bool false)), (.pv (.imm [(.bool l), (zab.pv l2), (.bool r), (zab.pv r2)] 0))])], [], [])) (sc := t_.ev) (.k0 t_.pf (by kernel_rfl))) ⟨⟨.eq rfl, .eq rfl, trivial⟩, trivial⟩ trivial trivial rfl
 ·obtain ⟨_, h3, h⟩ := zaf h
  rcases zaj h with ⟨h4, h⟩ | ⟨h4, h⟩
  ·obtain ⟨_, h5, h⟩ := zaf h
   rcases zaj h with ⟨h6, h⟩ | ⟨h6, h⟩
   ·obtain ⟨_, h7, h⟩ := zaf h
    have h := zad h
    subst h
    have t_ := tR (zap l l2 _ h1) <| tF h2 <| tF (rfl : false = false) <| tR (zas l l2 _ h3) <| tT h4 <| tR (zas r r2 _ h5) <| tT h6 <| tR (zd0 _ h7) <| tN
    exact zah (C := cfg) (sc := t_.ev) (.k0 t_.pf (by kernel_rfl))
   ·have h := zad h
    subst h
    have t_ := tR (zap l l2 _ h1) <| tF h2 <| tF (rfl : false = false) <| tR (zas l l2 _ h3) <| tT h4 <| tR (zas r r2 _ h5) <| tF h6 <| tN
    exact Runs.out (zah (C := cfg) (res := ([(.agg [(.pv (.bool false)), (.pv (.imm [(.bool l), (zab.pv l2), (.bool r), (zab.pv r2)] 0))])], [], [])) (sc := t_.ev) (.k0 t_.pf (by kernel_rfl))) ⟨⟨.eq rfl, .eq rfl, trivial⟩, trivial⟩ trivial trivial rfl
  ·have h := zad h
   subst h
   have t_ := tR (zap l l2 _ h1) <| tF h2 <| tF (rfl : false = false) <| tR (zas l l2 _ h3) <| tF h4 <| tF (rfl : false = false) <| tN
   exact Runs.out (zah (C := cfg) (res := ([(.agg [(.pv (.bool false)), (.pv (.imm [(.bool l), (zab.pv l2), (.bool r), (zab.pv r2)] 0))])], [], [])) (sc := t_.ev) (.k0 t_.pf (by kernel_rfl))) ⟨⟨.eq rfl, .eq rfl, trivial⟩, trivial⟩ trivial trivial rfl
def zg8 (i : Bool) (i2 : zab) : Int → Res
 | r1 => ([(.one (.pv (.int .i64 r1)))], [], [])
noncomputable def zgQ (rec_id_ID_Depth : Bool → zab → Option (Int)) (i : Bool) (i2 : zab) : Option (Int) :=
 match i2 with
 | .nil =>
  some 0
 | .mk b t b2 t2 =>
  (rec_id_ID_Depth b t).bind fun n =>
  (rec_id_ID_Depth b2 t2).bind fun n2 =>
  some (iadd .i64 1 (if (n : Int) < n2 then n2 else n))
theorem zll (rec_id_ID_Depth : Bool → zab → Option (Int)) (hrec_id_ID_Depth : ∀ i i2 r_, rec_id_ID_Depth i i2 = some r_ → Runs Tryz.prog 114 [(.agg [(.pv (.bool i)), (.pv (zab.pv i2))])] [] [] (zg8 i i2 r_)) (i : Bool) (i2 : zab) (r_ : Int) (h : zgQ rec_id_ID_Depth i i2 = some r_) : Runs Tryz.prog 114 [(.agg [(.pv (.bool i)), (.pv (zab.pv i2))])] [] [] (zg8 i i2 r_) := by
 unfold zgQ at h
 cases i2 with
 | nil =>
  have h := zad h
  subst h
  have t_ := tT (rfl : true = true) <| tN
  exact zah (C := cfg) (sc := t_.ev) (.k0 t_.pf (by kernel_rfl))
 | mk b t b2 t2 =>
  obtain ⟨n, h1, h⟩ := zaf h
  obtain ⟨n2, h2, h⟩ := zaf h
  have h := zad h
  subst h
  have t_ := tF (rfl : false = false) <| tR (hrec_id_ID_Depth b t _ h1) <| tR (hrec_id_ID_Depth b t _ h1) <| tR (hrec_id_ID_Depth b2 t2 _ h2) <| tN
  exact zah (C := cfg) (sc := t_.ev) (.k1 t_.pf (by kernel_rfl) (by kernel_rfl))
noncomputable def zfY : Nat → Bool → zab → Option (Int)
 | 0, _, _ => none
 | N + 1, i, i2 => zgQ (zfY N) i i2
theorem zgJ : ∀ (N : Nat) (i : Bool) (i2 : zab) (r_ : Int), zfY N i i2 = some r_ → Runs Tryz.prog 114 [(.agg [(.pv (.bool i)), (.pv (zab.pv i2))])] [] [] (zg8 i i2 r_)
 | 0, _, _, _, h => by cases h
 | N + 1, i, i2, r_, h => zll (zfY N) (zgJ N) i i2 r_ h
noncomputable def zdk (N : Nat) (l : Bool) (l2 : zab) (r : Bool) (r2 : zab) : Option (Bool × zab × Int) :=
 (zjB l l2 r r2).bind fun (b, t) =>
 (zfY N b t).bind fun n =>
 bif (decide ((16 : Int) < n)) then
  (zfy).bind fun _ =>
  some (false, zab.nil, 3)
 else
  some (b, t, 0)
theorem zbS (N : Nat) (l : Bool) (l2 : zab) (r : Bool) (r2 : zab) (r_ : Bool × zab × Int) (h : zdk N l l2 r r2 = some r_) : Runs Tryz.prog 80 [(.agg [(.pv (.bool l)), (.pv (zab.pv l2))]), (.agg [(.pv (.bool r)), (.pv (zab.pv r2))])] [] [] (zrW l l2 r r2 r_) := by
 unfold zdk at h
 obtain ⟨⟨b, t⟩, h1, h⟩ := zaf h
 obtain ⟨n, h2, h⟩ := zaf h
 rcases zaj h with ⟨h3, h⟩ | ⟨h3, h⟩
 ·obtain ⟨_, h4, h⟩ := zaf h
  have h := zad h
  subst h
  have t_ := tR (zmA l l2 r r2 _ h1) <| tR (zgJ N b t _ h2) <| tT h3 <| tR (zaR _ h4) <| tN
  exact zah (C := cfg) (sc := t_.ev) (.k0 t_.pf (by kernel_rfl))
 ·have h := zad h
  subst h
  have t_ := tR (zmA l l2 r r2 _ h1) <| tR (zgJ N b t _ h2) <| tF h3 <| tN
  exact zah (C := cfg) (sc := t_.ev) (.k0 t_.pf (by kernel_rfl))
end Go.Proofs.YtjjcmgdgifcmgaaGreat
