/- What functions compute, and that they do. -/
import Derived.Test.YtjjcmgdgifcmgaaGreatSo
set_option linter.unusedVariables false
set_option linter.unusedSimpArgs false
set_option maxRecDepth 100000
namespace Go.Proofs.YtjjcmgdgifcmgaaGreat
open Go.Ev
def znh : Bool → Res
 | r1 => ([(.one (.pv (.bool r1)))], [], [])
def zoU (self : Int) : Unit → Res
 | _ => ([(.one (.ref 0 0))], [[(.pv (.int .i64 self)), (.pv (.int .u64 0)), (.pv .nils), (.mp 1), (.mp 2)], [(.maph (.int .i64) false (List.map M_int_int.pv []) [])], [(.maph (.st [.i64, .u64]) false (List.map M_deed_Mark_int.pv []) [])]], [])
noncomputable def zgw (self : Int) : Option (Unit) :=
 some ()
theorem zaH (self : Int) (r_ : Unit) (h : zgw self = some r_) : Runs Tryz.prog 8 [(.one (.pv (.int .i64 self)))] [] [] (zoU self r_) := by
 unfold zgw at h
 have h := zaf h
 subst h
 have t_ := tN
 exact Runs.out (zag (C := cfg) (res := ([(.one (.ref 0 0))], [[(.pv (.int .i64 self)), (.pv (.int .u64 0)), (.pv .nils), (.mp 1), (.mp 2)], [(.maph (.int .i64) false [] [])], [(.maph (.st [.i64, .u64]) false [] [])]], [])) (sc := t_.ev) (.k0 t_.pf (by kernel_rfl))) ⟨.eq rfl, trivial⟩ ⟨⟨.eq rfl, .eq rfl, .eq rfl, .eq rfl, .eq rfl, trivial⟩, ⟨.maph (WkEs.to (WkEs.refl _) (by first | rfl | (simp only [M_deed_Mark_int.set, M_int_int.set]; done) | (simp only [M_deed_Mark_int.set, M_int_int.set, kset, kdel]; rfl))), trivial⟩, ⟨.maph (WkEs.to (WkEs.refl _) (by first | rfl | (simp only [M_deed_Mark_int.set, M_int_int.set]; done) | (simp only [M_deed_Mark_int.set, M_int_int.set, kset, kdel]; rfl))), trivial⟩, trivial⟩ trivial rfl
def zru : Unit → Res
 | _ => ([(.agg [(.pv (.bool true)), (.pv (zad.pv zad.nil))])], [], [])
noncomputable def zdK : Option (Unit) :=
 some ()
theorem zbl (r_ : Unit) (h : zdK = some r_) : Runs Tryz.prog 16 [] [] [] (zru r_) := by
 unfold zdK at h
 have h := zaf h
 subst h
 have t_ := tN
 exact Runs.out (zag (C := cfg) (res := ([(.agg [(.pv (.bool true)), (.pv .nilp)])], [], [])) (sc := t_.ev) (.k0 t_.pf (by kernel_rfl))) ⟨⟨.eq rfl, .eq rfl, trivial⟩, trivial⟩ trivial trivial rfl
def zjx (to : Int) (share : Bool) (share2 : zad) (n n2 : Int) (m : List (Int × Int)) (m2 : List ((Int × Int) × Int)) : (Int) ⊕ (Int × Int × List zaa × List (Int × Int)) → Res
 | .inl r1 => ([(.agg [(.pv (.int .u64 0)), (.pv (.int .i64 0)), (.pv (.int .i64 0)), (.pv (.bool false)), (.pv (zad.pv zad.nil))]), (.one (.pv (.int .i64 r1)))], [[(.pv (.int .i64 n)), (.pv (.int .u64 n2)), (.pv .nils), (.mp 1), (.mp 2)], [(.maph (.int .i64) false (List.map M_int_int.pv m) [])], [(.maph (.st [.i64, .u64]) false (List.map M_deed_Mark_int.pv m2) [])]], [])
 | .inr (r1, r2, r3, r4) => ([(.agg [(.pv (.int .u64 r1)), (.pv (.int .i64 n)), (.pv (.int .i64 to)), (.pv (.bool share)), (.pv (zad.pv share2))]), (.one (.pv (.int .i64 0)))], [[(.pv (.int .i64 n)), (.pv (.int .u64 r2)), (.pv (.recs 5 (List.map zaa.pv r3) false)), (.mp 1), (.mp 2)], [(.maph (.int .i64) false (List.map M_int_int.pv r4) [])], [(.maph (.st [.i64, .u64]) false (List.map M_deed_Mark_int.pv m2) [])]], [])
def zjy (n n2 : Int) (m : List (Int × Int)) (m2 : List ((Int × Int) × Int)) : Unit → Res
 | _ => ([(.one (.pv (.int .u64 n2)))], [[(.pv (.int .i64 n)), (.pv (.int .u64 n2)), (.pv .nils), (.mp 1), (.mp 2)], [(.maph (.int .i64) false (List.map M_int_int.pv m) [])], [(.maph (.st [.i64, .u64]) false (List.map M_deed_Mark_int.pv m2) [])]], [])
noncomputable def zdt (n n2 : Int) (m : List (Int × Int)) (m2 : List ((Int × Int) × Int)) : Option (Unit) :=
 some ()
theorem zdk (n n2 : Int) (m : List (Int × Int)) (m2 : List ((Int × Int) × Int)) (r_ : Unit) (h : zdt n n2 m m2 = some r_) : Runs Tryz.prog 23 [(.one (.ref 0 0))] [[(.pv (.int .i64 n)), (.pv (.int .u64 n2)), (.pv .nils), (.mp 1), (.mp 2)], [(.maph (.int .i64) false (List.map M_int_int.pv m) [])], [(.maph (.st [.i64, .u64]) false (List.map M_deed_Mark_int.pv m2) [])]] [] (zjy n n2 m m2 r_) := by
 unfold zdt at h
 have h := zaf h
 subst h
 have t_ := tF (rfl : false = false) <| tN
 exact zag (C := cfg) (sc := t_.ev) (.k0 t_.pf (by kernel_rfl))
def zjz (n n2 : Int) (m : List (Int × Int)) (m2 : List ((Int × Int) × Int)) : Unit → Res
 | _ => ([(.one (.pv (.int .i64 n)))], [[(.pv (.int .i64 n)), (.pv (.int .u64 n2)), (.pv .nils), (.mp 1), (.mp 2)], [(.maph (.int .i64) false (List.map M_int_int.pv m) [])], [(.maph (.st [.i64, .u64]) false (List.map M_deed_Mark_int.pv m2) [])]], [])
noncomputable def zdu (n n2 : Int) (m : List (Int × Int)) (m2 : List ((Int × Int) × Int)) : Option (Unit) :=
 some ()
theorem zdl (n n2 : Int) (m : List (Int × Int)) (m2 : List ((Int × Int) × Int)) (r_ : Unit) (h : zdu n n2 m m2 = some r_) : Runs Tryz.prog 22 [(.one (.ref 0 0))] [[(.pv (.int .i64 n)), (.pv (.int .u64 n2)), (.pv .nils), (.mp 1), (.mp 2)], [(.maph (.int .i64) false (List.map M_int_int.pv m) [])], [(.maph (.st [.i64, .u64]) false (List.map M_deed_Mark_int.pv m2) [])]] [] (zjz n n2 m m2 r_) := by
 unfold zdu at h
 have h := zaf h
 subst h
 have t_ := tF (rfl : false = false) <| tN
 exact zag (C := cfg) (sc := t_.ev) (.k0 t_.pf (by kernel_rfl))
def zkJ (to n n2 : Int) (m : List (Int × Int)) (m2 : List ((Int × Int) × Int)) : Int × Int × Int × Bool × zad × Bool → Res
 | (r1, r2, r3, r4, r5, r6) => ([(.agg [(.pv (.int .u64 r1)), (.pv (.int .i64 r2)), (.pv (.int .i64 r3)), (.pv (.bool r4)), (.pv (zad.pv r5))]), (.one (.pv (.bool r6)))], [[(.pv (.int .i64 n)), (.pv (.int .u64 n2)), (.pv .nils), (.mp 1), (.mp 2)], [(.maph (.int .i64) false (List.map M_int_int.pv m) [])], [(.maph (.st [.i64, .u64]) false (List.map M_deed_Mark_int.pv m2) [])]], [])
def zh0 (n n2 : Int) (m : List (Int × Int)) (m2 : List ((Int × Int) × Int)) : Unit → Res
 | _ => ([(.one (.own 0 0 ((List.map zaa.pv [])).length false))], [[(.pv (.int .i64 n)), (.pv (.int .u64 n2)), (.pv .nils), (.mp 1), (.mp 2)], [(.maph (.int .i64) false (List.map M_int_int.pv m) [])], [(.maph (.st [.i64, .u64]) false (List.map M_deed_Mark_int.pv m2) [])]], [(.recs 5 (List.map zaa.pv []))])
noncomputable def zcx (n n2 : Int) (m : List (Int × Int)) (m2 : List ((Int × Int) × Int)) : Option (Unit) :=
 (zbr []).bind fun _ =>
 some ()
theorem zdE (n n2 : Int) (m : List (Int × Int)) (m2 : List ((Int × Int) × Int)) (r_ : Unit) (h : zcx n n2 m m2 = some r_) : Runs Tryz.prog 25 [(.one (.ref 0 0))] [[(.pv (.int .i64 n)), (.pv (.int .u64 n2)), (.pv .nils), (.mp 1), (.mp 2)], [(.maph (.int .i64) false (List.map M_int_int.pv m) [])], [(.maph (.st [.i64, .u64]) false (List.map M_deed_Mark_int.pv m2) [])]] [] (zh0 n n2 m m2 r_) := by
 unfold zcx at h
 obtain ⟨_, h1, h⟩ := zae h
 have h := zaf h
 subst h
 have t_ := tF (rfl : false = false) <| tR (Runs.coe (as' := [(.one (.pv .nils))]) (objs' := []) (rows' := []) (zcT [] _ h1) ⟨.pv (.nilsR), trivial⟩ trivial trivial) <| tN
 exact zag (C := cfg) (sc := t_.ev) (.k0 t_.pf (by kernel_rfl))
def zeF (to n n2 n3 : Int) (m : List (Int × Int)) (m2 : List ((Int × Int) × Int)) : Int → St
 | n4 => ⟨[(1, (.av (.one (.pv (.int .i64 to))))), (4, (.av (.one (.ref 3 0)))), (9, (.av (.one (.own 0 0 ((List.map zaa.pv [])).length false)))), (10, (.av (.one (.pv (.int .i64 n))))), (11, (.av (.one (.pv (.int .i64 n4)))))], [(0, [(.pv (.int .i64 n2)), (.pv (.int .u64 n3)), (.pv .nils), (.mp 1), (.mp 2)]), (1, [(.maph (.int .i64) false (List.map M_int_int.pv m) [])]), (2, [(.maph (.st [.i64, .u64]) false (List.map M_deed_Mark_int.pv m2) [])]), (3, [(.pv (.int .u64 0)), (.pv (.int .i64 0)), (.pv (.int .i64 0)), (.pv (.bool false)), (.pv (zad.pv zad.nil))])], [(0, (.live (.recs 5 (List.map zaa.pv []))))]⟩
def zcS (to n n2 n3 : Int) (m : List (Int × Int)) (m2 : List ((Int × Int) × Int)) : (Int × Int × Int × Bool × zad) ⊕ (Unit) → Ex × St
 | .inl (r1, r2, r3, r4, r5) => (.ret, ⟨[(4, (.av (.one (.ref 3 0)))), (5, (.av (.one (.pv (.bool true)))))], [(0, [(.pv (.int .i64 n2)), (.pv (.int .u64 n3)), (.pv .nils), (.mp 1), (.mp 2)]), (1, [(.maph (.int .i64) false (List.map M_int_int.pv m) [])]), (2, [(.maph (.st [.i64, .u64]) false (List.map M_deed_Mark_int.pv m2) [])]), (3, [(.pv (.int .u64 r1)), (.pv (.int .i64 r2)), (.pv (.int .i64 r3)), (.pv (.bool r4)), (.pv (zad.pv r5))])], []⟩)
 | .inr _ => ((.exit 0), ⟨[(4, (.av (.one (.ref 3 0))))], [(0, [(.pv (.int .i64 n2)), (.pv (.int .u64 n3)), (.pv .nils), (.mp 1), (.mp 2)]), (1, [(.maph (.int .i64) false (List.map M_int_int.pv m) [])]), (2, [(.maph (.st [.i64, .u64]) false (List.map M_deed_Mark_int.pv m2) [])]), (3, [(.pv (.int .u64 0)), (.pv (.int .i64 0)), (.pv (.int .i64 0)), (.pv (.bool false)), (.pv (zad.pv zad.nil))])], [(0, (.live (.recs 5 (List.map zaa.pv []))))]⟩)
noncomputable def zcu (to n n2 n3 : Int) (m : List (Int × Int)) (m2 : List ((Int × Int) × Int)) : Int → Option ((Int) ⊕ ((Int × Int × Int × Bool × zad) ⊕ (Unit)))
 | n4 =>
 bif (decide ((n4 : Int) < n)) then
  bif decide ((0 : Int) ≤ n4) && decide ((n4 : Int) < (((List.map zaa.pv [])).length : Int)) then
  (([] : List zaa)[(0 + (n4).toNat)]?).bind fun e_ => match e_ with
  | .mk n5 n6 n7 b t =>
  bif (decide ((n7 : Int) = to)) then
   some (.inr (.inl (n5, n6, n7, b, t)))
  else
   some (.inl (iadd .i64 n4 1))
  else none
 else
  some (.inr (.inr ()))
theorem zjD (to n n2 n3 : Int) (m : List (Int × Int)) (m2 : List ((Int × Int) × Int)) (n4 : Int) (z_ : (Int) ⊕ ((Int × Int × Int × Bool × zad) ⊕ (Unit))) (h : zcu to n n2 n3 m m2 n4 = some z_) : zbQ Tryz.prog cfg 17 3 (zbe Tryz.prog 17 0) (zeF to n n2 n3 m m2) (zcS to n n2 n3 m m2) n4 z_ := by
 rcases zaj h with ⟨h1, h⟩ | ⟨h1, h⟩
 ·obtain ⟨h2, h⟩ := zar h
  obtain ⟨⟨n5, n6, n7, b, t⟩, h3, h⟩ := zae h
  rcases zaj h with ⟨h4, h⟩ | ⟨h4, h⟩
  ·have h := zaf h
   subst h
   have t_ := tT h1 <| tO h2 <| tE (.el [(.int .u64 n5), (.int .i64 n6), (.int .i64 n7), (.bool b), (zad.pv t)]) <| tO (zdi (f := zaa.pv) h3) <| tT h4 <| tN
   exact ⟨t_.ev, (zcS to n n2 n3 m m2 (.inl (n5, n6, n7, b, t))).2, .k0 t_.pf (by kernel_rfl), .same (by kernel_rfl)⟩
  ·have h := zaf h
   subst h
   have t_ := tT h1 <| tO h2 <| tE (.el [(.int .u64 n5), (.int .i64 n6), (.int .i64 n7), (.bool b), (zad.pv t)]) <| tO (zdi (f := zaa.pv) h3) <| tF h4 <| tN
   exact ⟨t_.ev, zeF to n n2 n3 m m2 (iadd .i64 n4 1), .k0 t_.pf (by kernel_rfl), .same (by kernel_rfl)⟩
 ·have h := zaf h
  subst h
  have t_ := tF h1 <| tN
  exact ⟨t_.ev, ⟨[(12, (.av (.one (.pv (.bool false))))), (1, (.av (.one (.pv (.int .i64 to))))), (4, (.av (.one (.ref 3 0)))), (9, (.av (.one (.own 0 0 ((List.map zaa.pv [])).length false)))), (10, (.av (.one (.pv (.int .i64 n))))), (11, (.av (.one (.pv (.int .i64 n4))))), (12, (.av (.one (.pv (.bool (decide ((n4 : Int) < n)))))))], [(0, [(.pv (.int .i64 n2)), (.pv (.int .u64 n3)), (.pv .nils), (.mp 1), (.mp 2)]), (1, [(.maph (.int .i64) false (List.map M_int_int.pv m) [])]), (2, [(.maph (.st [.i64, .u64]) false (List.map M_deed_Mark_int.pv m2) [])]), (3, [(.pv (.int .u64 0)), (.pv (.int .i64 0)), (.pv (.int .i64 0)), (.pv (.bool false)), (.pv (zad.pv zad.nil))])], [(0, (.live (.recs 5 (List.map zaa.pv []))))]⟩, .k0 t_.pf (by kernel_rfl), ⟨⟨⟨_, rfl, .eq rfl⟩, trivial⟩, ⟨⟨rfl, ⟨.eq rfl, .eq rfl, .eq rfl, .eq rfl, .eq rfl, trivial⟩⟩, ⟨rfl, ⟨.eq rfl, trivial⟩⟩, ⟨rfl, ⟨.eq rfl, trivial⟩⟩, ⟨rfl, ⟨.eq rfl, .eq rfl, .eq rfl, .eq rfl, .eq rfl, trivial⟩⟩, trivial⟩, ⟨⟨rfl, .eq rfl⟩, trivial⟩⟩⟩
theorem zft (to n n2 n3 : Int) (m : List (Int × Int)) (m2 : List ((Int × Int) × Int)) (s_ : Int) (r_ : (Int × Int × Int × Bool × zad) ⊕ (Unit)) (h : runL (zcu to n n2 n3 m m2) s_ = some r_) : zbK Tryz.prog (lEnv Tryz.prog cfg 17 3).nt 3 (.loop (zbe Tryz.prog 17 0)) (zeF to n n2 n3 m m2 s_) (zcS to n n2 n3 m m2 r_).1 (zcS to n n2 n3 m m2 r_).2 :=
 zbA h (zjD to n n2 n3 m m2) (by intro r_; rcases r_ with ⟨r1, r2, r3, r4, r5⟩ | _ <;> simp [zcS])
noncomputable def zeP (to n n2 : Int) (m : List (Int × Int)) (m2 : List ((Int × Int) × Int)) : Option (Int × Int × Int × Bool × zad × Bool) :=
 (zcx n n2 m m2).bind fun _ =>
 (runL (zcu to (((List.map zaa.pv [])).length : Int) n n2 m m2) 0).bind fun z_ => match z_ with
 | .inl (n3, n4, n5, b, t) =>
  some (n3, n4, n5, b, t, true)
 | .inr _ =>
  some (0, 0, 0, false, zad.nil, false)
theorem zjY (to n n2 : Int) (m : List (Int × Int)) (m2 : List ((Int × Int) × Int)) (r_ : Int × Int × Int × Bool × zad × Bool) (h : zeP to n n2 m m2 = some r_) : Runs Tryz.prog 17 [(.one (.ref 0 0)), (.one (.pv (.int .i64 to)))] [[(.pv (.int .i64 n)), (.pv (.int .u64 n2)), (.pv .nils), (.mp 1), (.mp 2)], [(.maph (.int .i64) false (List.map M_int_int.pv m) [])], [(.maph (.st [.i64, .u64]) false (List.map M_deed_Mark_int.pv m2) [])]] [] (zkJ to n n2 m m2 r_) := by
 unfold zeP at h
 obtain ⟨_, h1, h⟩ := zae h
 obtain ⟨z_, h2, h⟩ := zae h
 rcases z_ with ⟨n3, n4, n5, b, t⟩ | _
 ·have h := zaf h
  subst h
  have t_ := tR (zdE n n2 m m2 _ h1) <| tL (zbK.coe (s0 := ⟨[(1, (.av (.one (.pv (.int .i64 to))))), (4, (.av (.one (.ref 3 0)))), (9, (.av (.one (.own 0 0 ((List.map zaa.pv [])).length false)))), (10, (.av (.one (.pv (.int .i64 (((List.map zaa.pv [])).length : Int)))))), (11, (.av (.one (.pv (.int .i64 0)))))], [(0, [(.pv (.int .i64 n)), (.pv (.int .u64 n2)), (.pv .nils), (.mp 1), (.mp 2)]), (1, [(.maph (.int .i64) false (List.map M_int_int.pv m) [])]), (2, [(.maph (.st [.i64, .u64]) false (List.map M_deed_Mark_int.pv m2) [])]), (3, [(.pv (.int .u64 0)), (.pv (.int .i64 0)), (.pv (.int .i64 0)), (.pv (.bool false)), (.pv .nilp)])], [(0, (.live (.recs 5 (List.map zaa.pv []))))]⟩) (zft to (((List.map zaa.pv [])).length : Int) n n2 m m2 _ _ h2) ⟨⟨⟨_, rfl, .eq rfl⟩, ⟨_, rfl, .eq rfl⟩, ⟨_, rfl, .eq rfl⟩, ⟨_, rfl, .eq rfl⟩, ⟨_, rfl, .eq rfl⟩, trivial⟩, ⟨⟨rfl, ⟨.eq rfl, .eq rfl, .eq rfl, .eq rfl, .eq rfl, trivial⟩⟩, ⟨rfl, ⟨.eq rfl, trivial⟩⟩, ⟨rfl, ⟨.eq rfl, trivial⟩⟩, ⟨rfl, ⟨.eq rfl, .eq rfl, .eq rfl, .eq rfl, .eq rfl, trivial⟩⟩, trivial⟩, ⟨⟨rfl, .eq rfl⟩, trivial⟩⟩) <| tN
  exact zag (C := cfg) (sc := t_.ev) (.k0 t_.pf (by kernel_rfl))
 ·have h := zaf h
  subst h
  have t_ := tR (zdE n n2 m m2 _ h1) <| tL (zbK.coe (s0 := ⟨[(1, (.av (.one (.pv (.int .i64 to))))), (4, (.av (.one (.ref 3 0)))), (9, (.av (.one (.own 0 0 ((List.map zaa.pv [])).length false)))), (10, (.av (.one (.pv (.int .i64 (((List.map zaa.pv [])).length : Int)))))), (11, (.av (.one (.pv (.int .i64 0)))))], [(0, [(.pv (.int .i64 n)), (.pv (.int .u64 n2)), (.pv .nils), (.mp 1), (.mp 2)]), (1, [(.maph (.int .i64) false (List.map M_int_int.pv m) [])]), (2, [(.maph (.st [.i64, .u64]) false (List.map M_deed_Mark_int.pv m2) [])]), (3, [(.pv (.int .u64 0)), (.pv (.int .i64 0)), (.pv (.int .i64 0)), (.pv (.bool false)), (.pv .nilp)])], [(0, (.live (.recs 5 (List.map zaa.pv []))))]⟩) (zft to (((List.map zaa.pv [])).length : Int) n n2 m m2 _ _ h2) ⟨⟨⟨_, rfl, .eq rfl⟩, ⟨_, rfl, .eq rfl⟩, ⟨_, rfl, .eq rfl⟩, ⟨_, rfl, .eq rfl⟩, ⟨_, rfl, .eq rfl⟩, trivial⟩, ⟨⟨rfl, ⟨.eq rfl, .eq rfl, .eq rfl, .eq rfl, .eq rfl, trivial⟩⟩, ⟨rfl, ⟨.eq rfl, trivial⟩⟩, ⟨rfl, ⟨.eq rfl, trivial⟩⟩, ⟨rfl, ⟨.eq rfl, .eq rfl, .eq rfl, .eq rfl, .eq rfl, trivial⟩⟩, trivial⟩, ⟨⟨rfl, .eq rfl⟩, trivial⟩⟩) <| tN
  exact Runs.out (zag (C := cfg) (res := ([(.agg [(.pv (.int .u64 0)), (.pv (.int .i64 0)), (.pv (.int .i64 0)), (.pv (.bool false)), (.pv .nilp)]), (.one (.pv (.bool false)))], [[(.pv (.int .i64 n)), (.pv (.int .u64 n2)), (.pv .nils), (.mp 1), (.mp 2)], [(.maph (.int .i64) false (List.map M_int_int.pv m) [])], [(.maph (.st [.i64, .u64]) false (List.map M_deed_Mark_int.pv m2) [])]], [])) (sc := t_.ev) (.k0 t_.pf (by kernel_rfl))) ⟨⟨.eq rfl, .eq rfl, .eq rfl, .eq rfl, .eq rfl, trivial⟩, .eq rfl, trivial⟩ ⟨⟨.eq rfl, .eq rfl, .eq rfl, .eq rfl, .eq rfl, trivial⟩, ⟨.eq rfl, trivial⟩, ⟨.eq rfl, trivial⟩, trivial⟩ trivial rfl
def zjE (g g2 g3 : Int) (g4 : Bool) (g5 : zad) : Bool → Res
 | r1 => ([(.one (.pv (.bool r1)))], [], [])
def zn8 (n : Int) : Bool → Res
 | r1 => ([(.one (.pv (.bool r1)))], [], [])
noncomputable def zf2 (n : Int) : Option (Bool) :=
 bif (decide ((0 : Int) ≤ n)) then
  some (decide ((n : Int) < 12))
 else
  some false
theorem zdf (n : Int) (r_ : Bool) (h : zf2 n = some r_) : Runs Tryz.prog 81 [(.one (.pv (.int .i64 n)))] [] [] (zn8 n r_) := by
 unfold zf2 at h
 rcases zaj h with ⟨h1, h⟩ | ⟨h1, h⟩
 ·have h := zaf h
  subst h
  have t_ := tT h1 <| tN
  exact zag (C := cfg) (sc := t_.ev) (.k0 t_.pf (by kernel_rfl))
 ·have h := zaf h
  subst h
  have t_ := tF h1 <| tN
  exact zag (C := cfg) (sc := t_.ev) (.k0 t_.pf (by kernel_rfl))
def zlr (i : Bool) (i2 : zad) : Bool → Res
 | r1 => ([(.one (.pv (.bool r1)))], [], [])
noncomputable def zbq (i : Bool) (i2 : zad) : Option (Bool) :=
 bif i then
  some false
 else
  match i2 with
  | .nil =>
   some true
  | .mk b t b2 t2 =>
   some false
theorem zap (i : Bool) (i2 : zad) (r_ : Bool) (h : zbq i i2 = some r_) : Runs Tryz.prog 15 [(.agg [(.pv (.bool i)), (.pv (zad.pv i2))])] [] [] (zlr i i2 r_) := by
 unfold zbq at h
 rcases zaj h with ⟨h1, h⟩ | ⟨h1, h⟩
 ·have h := zaf h
  subst h
  have t_ := tF (zaz h1) <| tN
  exact zag (C := cfg) (sc := t_.ev) (.k0 t_.pf (by kernel_rfl))
 ·cases i2 with
  | nil =>
   have h := zaf h
   subst h
   have t_ := tT (zbc h1) <| tN
   exact zag (C := cfg) (sc := t_.ev) (.k0 t_.pf (by kernel_rfl))
  | mk b t b2 t2 =>
   have h := zaf h
   subst h
   have t_ := tT (zbc h1) <| tN
   exact zag (C := cfg) (sc := t_.ev) (.k0 t_.pf (by kernel_rfl))
noncomputable def zbC (g g2 g3 : Int) (g4 : Bool) (g5 : zad) : Option (Bool) :=
 bif (decide ((1 : Int) ≤ g)) then
  bif (decide ((g : Int) < 4611686018427387904)) then
   (zf2 g2).bind fun b =>
   bif b then
    (zf2 g3).bind fun b2 =>
    bif b2 then
     bif (decide ((g2 : Int) = g3)) then
      some false
     else
      (zbq g4 g5).bind fun b3 =>
      some (!b3)
    else
     some false
   else
    some false
  else
   some false
 else
  some false
theorem zaW (g g2 g3 : Int) (g4 : Bool) (g5 : zad) (r_ : Bool) (h : zbC g g2 g3 g4 g5 = some r_) : Runs Tryz.prog 42 [(.agg [(.pv (.int .u64 g)), (.pv (.int .i64 g2)), (.pv (.int .i64 g3)), (.pv (.bool g4)), (.pv (zad.pv g5))])] [] [] (zjE g g2 g3 g4 g5 r_) := by
 unfold zbC at h
 rcases zaj h with ⟨h1, h⟩ | ⟨h1, h⟩
 ·rcases zaj h with ⟨h2, h⟩ | ⟨h2, h⟩
  ·obtain ⟨b, h3, h⟩ := zae h
   rcases zaj h with ⟨h4, h⟩ | ⟨h4, h⟩
   ·obtain ⟨b2, h5, h⟩ := zae h
    rcases zaj h with ⟨h6, h⟩ | ⟨h6, h⟩
    ·rcases zaj h with ⟨h7, h⟩ | ⟨h7, h⟩
     ·have h := zaf h
      subst h
      have t_ := tT h1 <| tT h2 <| tR (zdf g2 _ h3) <| tT h4 <| tR (zdf g3 _ h5) <| tT h6 <| tF (zaz h7) <| tN
      exact zag (C := cfg) (sc := t_.ev) (.k0 t_.pf (by kernel_rfl))
     ·obtain ⟨b3, h8, h⟩ := zae h
      have h := zaf h
      subst h
      have t_ := tT h1 <| tT h2 <| tR (zdf g2 _ h3) <| tT h4 <| tR (zdf g3 _ h5) <| tT h6 <| tT (zbc h7) <| tR (zap g4 g5 _ h8) <| tN
      exact zag (C := cfg) (sc := t_.ev) (.k0 t_.pf (by kernel_rfl))
    ·have h := zaf h
     subst h
     have t_ := tT h1 <| tT h2 <| tR (zdf g2 _ h3) <| tT h4 <| tR (zdf g3 _ h5) <| tF h6 <| tF (rfl : false = false) <| tN
     exact zag (C := cfg) (sc := t_.ev) (.k0 t_.pf (by kernel_rfl))
   ·have h := zaf h
    subst h
    have t_ := tT h1 <| tT h2 <| tR (zdf g2 _ h3) <| tF h4 <| tF (rfl : false = false) <| tF (rfl : false = false) <| tN
    exact zag (C := cfg) (sc := t_.ev) (.k0 t_.pf (by kernel_rfl))
  ·have h := zaf h
   subst h
   have t_ := tT h1 <| tF h2 <| tF (rfl : false = false) <| tF (rfl : false = false) <| tF (rfl : false = false) <| tN
   exact zag (C := cfg) (sc := t_.ev) (.k0 t_.pf (by kernel_rfl))
 ·have h := zaf h
  subst h
  have t_ := tF h1 <| tF (rfl : false = false) <| tF (rfl : false = false) <| tF (rfl : false = false) <| tF (rfl : false = false) <| tN
  exact zag (C := cfg) (sc := t_.ev) (.k0 t_.pf (by kernel_rfl))
noncomputable def zbL (to : Int) (share : Bool) (share2 : zad) (n n2 : Int) (m : List (Int × Int)) (m2 : List ((Int × Int) × Int)) : Option ((Int) ⊕ (Int × Int × List zaa × List (Int × Int))) :=
 (zdt n n2 m m2).bind fun _ =>
 (zdu n n2 m m2).bind fun _ =>
 (zeP to n n2 m m2).bind fun (n3, n4, n5, b, t, b2) =>
 (zbC (iadd .u64 n2 1) n to share share2).bind fun b3 =>
 bif b3 then
  bif b2 then
   some (.inl 14)
  else
   (zcx n (iadd .u64 n2 1) m m2).bind fun _ =>
   bif fits (((List.map zaa.pv []) ++ ([[(.int .u64 (iadd .u64 n2 1)), (.int .i64 n), (.int .i64 to), (.bool share), (zad.pv share2)]] : List (List PV)))).length then
   match (mget to m) with
   | .some n6 =>
    some (.inr ((iadd .u64 n2 1), (iadd .u64 n2 1), (List.take (((List.map zaa.pv []) ++ ([[(.int .u64 (iadd .u64 n2 1)), (.int .i64 n), (.int .i64 to), (.bool share), (zad.pv share2)]] : List (List PV)))).length ([] ++ [(zaa.mk (iadd .u64 n2 1) n to share share2)])), (mset to (iadd .i64 n6 1) m)))
   | .none =>
    some (.inr ((iadd .u64 n2 1), (iadd .u64 n2 1), (List.take (((List.map zaa.pv []) ++ ([[(.int .u64 (iadd .u64 n2 1)), (.int .i64 n), (.int .i64 to), (.bool share), (zad.pv share2)]] : List (List PV)))).length ([] ++ [(zaa.mk (iadd .u64 n2 1) n to share share2)])), (mset to 1 m)))
   else none
 else
  some (.inl 1)
theorem zb9 (to : Int) (share : Bool) (share2 : zad) (n n2 : Int) (m : List (Int × Int)) (m2 : List ((Int × Int) × Int)) (r_ : (Int) ⊕ (Int × Int × List zaa × List (Int × Int))) (h : zbL to share share2 n n2 m m2 = some r_) : Runs Tryz.prog 14 [(.one (.ref 0 0)), (.one (.pv (.int .i64 to))), (.agg [(.pv (.bool share)), (.pv (zad.pv share2))])] [[(.pv (.int .i64 n)), (.pv (.int .u64 n2)), (.pv .nils), (.mp 1), (.mp 2)], [(.maph (.int .i64) false (List.map M_int_int.pv m) [])], [(.maph (.st [.i64, .u64]) false (List.map M_deed_Mark_int.pv m2) [])]] [] (zjx to share share2 n n2 m m2 r_) := by
 unfold zbL at h
 obtain ⟨_, h1, h⟩ := zae h
 obtain ⟨_, h2, h⟩ := zae h
 obtain ⟨⟨n3, n4, n5, b, t, b2⟩, h3, h⟩ := zae h
 obtain ⟨b3, h4, h⟩ := zae h
 have q_4 := (zaW (iadd .u64 n2 1) n to share share2 _ h4)
 have p4_ := fun {sc_ : List Ev} {Q_ : Prop} (t_ : Tell sc_ Q_) => tR (zdk n n2 m m2 _ h1) <| tR (zdk n n2 m m2 _ h1) <| tR (zdk n n2 m m2 _ h1) <| tR (zdl n n2 m m2 _ h2) <| tR (zdk n n2 m m2 _ h1) <| tR (zdl n n2 m m2 _ h2) <| tR (zdl n n2 m m2 _ h2) <| tR (zdl n n2 m m2 _ h2) <| tR (zjY to n n2 m m2 _ h3) <| tF (rfl : false = false) <| tR q_4 <| t_
 rcases zaj h with ⟨h5, h⟩ | ⟨h5, h⟩
 ·rcases zaj h with ⟨h6, h⟩ | ⟨h6, h⟩
  ·have h := zaf h
   subst h
   have t_ := p4_ <| tF (zaz h5) <| tT h6 <| tN
   exact Runs.out (zag (C := cfg) (res := ([(.agg [(.pv (.int .u64 0)), (.pv (.int .i64 0)), (.pv (.int .i64 0)), (.pv (.bool false)), (.pv .nilp)]), (.one (.pv (.int .i64 14)))], [[(.pv (.int .i64 n)), (.pv (.int .u64 n2)), (.pv .nils), (.mp 1), (.mp 2)], [(.maph (.int .i64) false (List.map M_int_int.pv m) [])], [(.maph (.st [.i64, .u64]) false (List.map M_deed_Mark_int.pv m2) [])]], [])) (sc := t_.ev) (.k1 t_.pf (by kernel_rfl) (by kernel_rfl))) ⟨⟨.eq rfl, .eq rfl, .eq rfl, .eq rfl, .eq rfl, trivial⟩, .eq rfl, trivial⟩ ⟨⟨.eq rfl, .eq rfl, .eq rfl, .eq rfl, .eq rfl, trivial⟩, ⟨.eq rfl, trivial⟩, ⟨.eq rfl, trivial⟩, trivial⟩ trivial rfl
  ·obtain ⟨_, h7, h⟩ := zae h
   have q_7 := (zdE n (iadd .u64 n2 1) m m2 _ h7)
   obtain ⟨h8, h⟩ := zar h
   cases h9 : (mget to m) with
   | some n6 =>
    simp only [h9] at h
    have h := zaf h
    subst h
    have t_ := p4_ <| tF (zaz h5) <| tF h6 <| tR q_7 <| tR q_7 <| tR q_7 <| tO (show (Nat.beq ((List.map zaa.pv [])).length ((List.map zaa.pv [])).length) = true from Nat.beq_refl _) <| tO h8 <| tT (show kget [(.int .i64 to)] (List.map M_int_int.pv m) = some [(.int .i64 n6)] from by first | (simp only [M_deed_Mark_int.set, M_int_int.set, M_deed_Mark_int.get, M_int_int.get, h9, Option.map_some, Option.map_none]; done) | (simp only [M_deed_Mark_int.set, M_int_int.set, M_deed_Mark_int.get, M_int_int.get, h9, Option.map_some, Option.map_none]; rfl) | (rw [← List.map_nil]; simp only [M_deed_Mark_int.set, M_int_int.set, M_deed_Mark_int.get, M_int_int.get, h9, Option.map_some, Option.map_none]; rfl)) <| tE (.el [(.int .i64 n6)]) <| tN
    exact Runs.out (Runs.shut (zag (C := cfg) (res := ([(.agg [(.pv (.int .u64 (iadd .u64 n2 1))), (.pv (.int .i64 n)), (.pv (.int .i64 to)), (.pv (.bool share)), (.pv (zad.pv share2))]), (.one (.pv (.int .i64 0)))], [[(.pv (.int .i64 n)), (.pv (.int .u64 (iadd .u64 n2 1))), (.own 0 0 (((List.map zaa.pv []) ++ ([[(.int .u64 (iadd .u64 n2 1)), (.int .i64 n), (.int .i64 to), (.bool share), (zad.pv share2)]] : List (List PV)))).length false), (.mp 1), (.mp 2)], [(.maph (.int .i64) false (kset [(.int .i64 to)] [(.int .i64 (iadd .i64 n6 1))] (List.map M_int_int.pv m)) [])], [(.maph (.st [.i64, .u64]) false (List.map M_deed_Mark_int.pv m2) [])]], [(.recs 5 ((List.map zaa.pv []) ++ ([[(.int .u64 (iadd .u64 n2 1)), (.int .i64 n), (.int .i64 to), (.bool share), (zad.pv share2)]] : List (List PV))))])) (sc := t_.ev) (.k1 t_.pf (by kernel_rfl) (by kernel_rfl))) (res' := ([(.agg [(.pv (.int .u64 (iadd .u64 n2 1))), (.pv (.int .i64 n)), (.pv (.int .i64 to)), (.pv (.bool share)), (.pv (zad.pv share2))]), (.one (.pv (.int .i64 0)))], [[(.pv (.int .i64 n)), (.pv (.int .u64 (iadd .u64 n2 1))), (.pv (.recs 5 (List.take (((List.map zaa.pv []) ++ ([[(.int .u64 (iadd .u64 n2 1)), (.int .i64 n), (.int .i64 to), (.bool share), (zad.pv share2)]] : List (List PV)))).length ((List.map zaa.pv []) ++ ([[(.int .u64 (iadd .u64 n2 1)), (.int .i64 n), (.int .i64 to), (.bool share), (zad.pv share2)]] : List (List PV)))) false)), (.mp 1), (.mp 2)], [(.maph (.int .i64) false (kset [(.int .i64 to)] [(.int .i64 (iadd .i64 n6 1))] (List.map M_int_int.pv m)) [])], [(.maph (.st [.i64, .u64]) false (List.map M_deed_Mark_int.pv m2) [])]], [])) [0] (by kernel_rfl)) ⟨⟨.eq rfl, .eq rfl, .eq rfl, .eq rfl, .eq rfl, trivial⟩, .eq rfl, trivial⟩ ⟨⟨.eq rfl, .eq rfl, .pv (.recsT (.takeN (by first | rfl | (simp only [List.take_length]; done) | (simp; done)) (.app (.eq rfl) (.cons (.cons (.eq rfl) (.cons (.eq rfl) (.cons (.eq rfl) (.cons (.eq rfl) (.cons (.eq rfl) (.nil)))))) (.nil))))), .eq rfl, .eq rfl, trivial⟩, ⟨.maph (WkEs.to (WkEs.set (.cons (.eq rfl) (.nil)) (WkEs.refl _)) (by first | rfl | (simp only [M_deed_Mark_int.set, M_int_int.set]; done) | (simp only [M_deed_Mark_int.set, M_int_int.set, kset, kdel]; rfl))), trivial⟩, ⟨.eq rfl, trivial⟩, trivial⟩ trivial rfl
   | none =>
    simp only [h9] at h
    have h := zaf h
    subst h
    have t_ := p4_ <| tF (zaz h5) <| tF h6 <| tR q_7 <| tR q_7 <| tR q_7 <| tO (show (Nat.beq ((List.map zaa.pv [])).length ((List.map zaa.pv [])).length) = true from Nat.beq_refl _) <| tO h8 <| tF (show kget [(.int .i64 to)] (List.map M_int_int.pv m) = none from by first | (simp only [M_deed_Mark_int.set, M_int_int.set, M_deed_Mark_int.get, M_int_int.get, h9, Option.map_some, Option.map_none]; done) | (simp only [M_deed_Mark_int.set, M_int_int.set, M_deed_Mark_int.get, M_int_int.get, h9, Option.map_some, Option.map_none]; rfl) | (rw [← List.map_nil]; simp only [M_deed_Mark_int.set, M_int_int.set, M_deed_Mark_int.get, M_int_int.get, h9, Option.map_some, Option.map_none]; rfl)) <| tN
    exact Runs.out (Runs.shut (zag (C := cfg) (res := ([(.agg [(.pv (.int .u64 (iadd .u64 n2 1))), (.pv (.int .i64 n)), (.pv (.int .i64 to)), (.pv (.bool share)), (.pv (zad.pv share2))]), (.one (.pv (.int .i64 0)))], [[(.pv (.int .i64 n)), (.pv (.int .u64 (iadd .u64 n2 1))), (.own 0 0 (((List.map zaa.pv []) ++ ([[(.int .u64 (iadd .u64 n2 1)), (.int .i64 n), (.int .i64 to), (.bool share), (zad.pv share2)]] : List (List PV)))).length false), (.mp 1), (.mp 2)], [(.maph (.int .i64) false (kset [(.int .i64 to)] [(.int .i64 1)] (List.map M_int_int.pv m)) [])], [(.maph (.st [.i64, .u64]) false (List.map M_deed_Mark_int.pv m2) [])]], [(.recs 5 ((List.map zaa.pv []) ++ ([[(.int .u64 (iadd .u64 n2 1)), (.int .i64 n), (.int .i64 to), (.bool share), (zad.pv share2)]] : List (List PV))))])) (sc := t_.ev) (.k1 t_.pf (by kernel_rfl) (by kernel_rfl))) (res' := ([(.agg [(.pv (.int .u64 (iadd .u64 n2 1))), (.pv (.int .i64 n)), (.pv (.int .i64 to)), (.pv (.bool share)), (.pv (zad.pv share2))]), (.one (.pv (.int .i64 0)))], [[(.pv (.int .i64 n)), (.pv (.int .u64 (iadd .u64 n2 1))), (.pv (.recs 5 (List.take (((List.map zaa.pv []) ++ ([[(.int .u64 (iadd .u64 n2 1)), (.int .i64 n), (.int .i64 to), (.bool share), (zad.pv share2)]] : List (List PV)))).length ((List.map zaa.pv []) ++ ([[(.int .u64 (iadd .u64 n2 1)), (.int .i64 n), (.int .i64 to), (.bool share), (zad.pv share2)]] : List (List PV)))) false)), (.mp 1), (.mp 2)], [(.maph (.int .i64) false (kset [(.int .i64 to)] [(.int .i64 1)] (List.map M_int_int.pv m)) [])], [(.maph (.st [.i64, .u64]) false (List.map M_deed_Mark_int.pv m2) [])]], [])) [0] (by kernel_rfl)) ⟨⟨.eq rfl, .eq rfl, .eq rfl, .eq rfl, .eq rfl, trivial⟩, .eq rfl, trivial⟩ ⟨⟨.eq rfl, .eq rfl, .pv (.recsT (.takeN (by first | rfl | (simp only [List.take_length]; done) | (simp; done)) (.app (.eq rfl) (.cons (.cons (.eq rfl) (.cons (.eq rfl) (.cons (.eq rfl) (.cons (.eq rfl) (.cons (.eq rfl) (.nil)))))) (.nil))))), .eq rfl, .eq rfl, trivial⟩, ⟨.maph (WkEs.to (WkEs.set (.cons (.eq rfl) (.nil)) (WkEs.refl _)) (by first | rfl | (simp only [M_deed_Mark_int.set, M_int_int.set]; done) | (simp only [M_deed_Mark_int.set, M_int_int.set, kset, kdel]; rfl))), trivial⟩, ⟨.eq rfl, trivial⟩, trivial⟩ trivial rfl
 ·have h := zaf h
  subst h
  have t_ := p4_ <| tT (zbc h5) <| tN
  exact Runs.out (zag (C := cfg) (res := ([(.agg [(.pv (.int .u64 0)), (.pv (.int .i64 0)), (.pv (.int .i64 0)), (.pv (.bool false)), (.pv .nilp)]), (.one (.pv (.int .i64 1)))], [[(.pv (.int .i64 n)), (.pv (.int .u64 n2)), (.pv .nils), (.mp 1), (.mp 2)], [(.maph (.int .i64) false (List.map M_int_int.pv m) [])], [(.maph (.st [.i64, .u64]) false (List.map M_deed_Mark_int.pv m2) [])]], [])) (sc := t_.ev) (.k1 t_.pf (by kernel_rfl) (by kernel_rfl))) ⟨⟨.eq rfl, .eq rfl, .eq rfl, .eq rfl, .eq rfl, trivial⟩, .eq rfl, trivial⟩ ⟨⟨.eq rfl, .eq rfl, .eq rfl, .eq rfl, .eq rfl, trivial⟩, ⟨.eq rfl, trivial⟩, ⟨.eq rfl, trivial⟩, trivial⟩ trivial rfl
def zjv (no n n2 : Int) (r : List zaa) (m : List (Int × Int)) (m2 : List ((Int × Int) × Int)) : Int × List zaa → Res
 | (r1, r2) => ([(.one (.pv (.int .i64 r1)))], [[(.pv (.int .i64 n)), (.pv (.int .u64 n2)), (.pv (.recs 5 (List.map zaa.pv r2) false)), (.mp 1), (.mp 2)], [(.maph (.int .i64) false (List.map M_int_int.pv m) [])], [(.maph (.st [.i64, .u64]) false (List.map M_deed_Mark_int.pv m2) [])]], [])
def zgT (n n2 : Int) (r : List zaa) (m : List (Int × Int)) (m2 : List ((Int × Int) × Int)) : Unit → Res
 | _ => ([(.one (.own 0 0 ((List.map zaa.pv r)).length false))], [[(.pv (.int .i64 n)), (.pv (.int .u64 n2)), (.pv (.recs 5 (List.map zaa.pv r) false)), (.mp 1), (.mp 2)], [(.maph (.int .i64) false (List.map M_int_int.pv m) [])], [(.maph (.st [.i64, .u64]) false (List.map M_deed_Mark_int.pv m2) [])]], [(.recs 5 (List.map zaa.pv r))])
noncomputable def za4 (n n2 : Int) (r : List zaa) (m : List (Int × Int)) (m2 : List ((Int × Int) × Int)) : Option (Unit) :=
 (zbr r).bind fun _ =>
 some ()
theorem zam (n n2 : Int) (r : List zaa) (m : List (Int × Int)) (m2 : List ((Int × Int) × Int)) (r_ : Unit) (h : za4 n n2 r m m2 = some r_) : Runs Tryz.prog 25 [(.one (.ref 0 0))] [[(.pv (.int .i64 n)), (.pv (.int .u64 n2)), (.pv (.recs 5 (List.map zaa.pv r) false)), (.mp 1), (.mp 2)], [(.maph (.int .i64) false (List.map M_int_int.pv m) [])], [(.maph (.st [.i64, .u64]) false (List.map M_deed_Mark_int.pv m2) [])]] [] (zgT n n2 r m m2 r_) := by
 unfold za4 at h
 obtain ⟨_, h1, h⟩ := zae h
 have h := zaf h
 subst h
 have t_ := tF (rfl : false = false) <| tR (zcT r _ h1) <| tN
 exact zag (C := cfg) (sc := t_.ev) (.k0 t_.pf (by kernel_rfl))
def zfB (s : List zaa) (n : Int) : Int → Res
 | r1 => ([(.one (.pv (.int .i64 r1)))], [[(.pv (.int .u64 n))]], [])
def zh9 (g g2 g3 : Int) (g4 : Bool) (g5 : zad) (n : Int) : Bool → Res
 | r1 => ([(.one (.pv (.bool r1)))], [[(.pv (.int .u64 n))]], [])
noncomputable def zee (g g2 g3 : Int) (g4 : Bool) (g5 : zad) (n : Int) : Option (Bool) :=
 some (decide ((g : Int) = n))
theorem ze3 (g g2 g3 : Int) (g4 : Bool) (g5 : zad) (n : Int) (r_ : Bool) (h : zee g g2 g3 g4 g5 n = some r_) : Runs Tryz.prog 44 [(.agg [(.pv (.int .u64 g)), (.pv (.int .i64 g2)), (.pv (.int .i64 g3)), (.pv (.bool g4)), (.pv (zad.pv g5))]), (.one (.ref 0 0))] [[(.pv (.int .u64 n))]] [] (zh9 g g2 g3 g4 g5 n r_) := by
 unfold zee at h
 have h := zaf h
 subst h
 have t_ := tN
 exact zag (C := cfg) (sc := t_.ev) (.k0 t_.pf (by kernel_rfl))
def zce (s : List zaa) (n n2 : Int) : Int → St
 | n3 => ⟨[(0, (.av (.one (.bor (.recs 5 (List.map zaa.pv s) false))))), (1, (.av (.one (.fn 44 [(.ref 0 0)])))), (7, (.av (.one (.pv (.int .i64 n))))), (8, (.av (.one (.pv (.int .i64 n3)))))], [(0, [(.pv (.int .u64 n2))])], []⟩
def zbn (s : List zaa) (n n2 : Int) : (Int) ⊕ (Unit) → Ex × St
 | .inl r1 => (.ret, ⟨[(4, (.av (.one (.pv (.int .i64 r1)))))], [(0, [(.pv (.int .u64 n2))])], []⟩)
 | .inr _ => ((.exit 0), ⟨[], [(0, [(.pv (.int .u64 n2))])], []⟩)
noncomputable def za6 (s : List zaa) (n n2 : Int) : Int → Option ((Int) ⊕ ((Int) ⊕ (Unit)))
 | n3 =>
 bif (decide ((n3 : Int) < n)) then
  bif decide ((0 : Int) ≤ n3) && decide ((n3 : Int) < (((List.map zaa.pv s)).length : Int)) then
  (s[(n3).toNat]?).bind fun e_ => match e_ with
  | .mk n4 n5 n6 b t =>
  (zee n4 n5 n6 b t n2).bind fun b2 =>
  bif b2 then
   some (.inr (.inl n3))
  else
   some (.inl (iadd .i64 n3 1))
  else none
 else
  some (.inr (.inr ()))
theorem ze2 (s : List zaa) (n n2 n3 : Int) (z_ : (Int) ⊕ ((Int) ⊕ (Unit))) (h : za6 s n n2 n3 = some z_) : zbQ Tryz.prog cfg 43 1 (zbe Tryz.prog 43 0) (zce s n n2) (zbn s n n2) n3 z_ := by
 rcases zaj h with ⟨h1, h⟩ | ⟨h1, h⟩
 ·obtain ⟨h2, h⟩ := zar h
  obtain ⟨⟨n4, n5, n6, b, t⟩, h3, h⟩ := zae h
  obtain ⟨b2, h4, h⟩ := zae h
  rcases zaj h with ⟨h5, h⟩ | ⟨h5, h⟩
  ·have h := zaf h
   subst h
   have t_ := tT h1 <| tO h2 <| tE (.el [(.int .u64 n4), (.int .i64 n5), (.int .i64 n6), (.bool b), (zad.pv t)]) <| tO (zdi (f := zaa.pv) h3) <| tR (ze3 n4 n5 n6 b t n2 _ h4) <| tT h5 <| tN
   exact ⟨t_.ev, (zbn s n n2 (.inl n3)).2, .k0 t_.pf (by kernel_rfl), .same (by kernel_rfl)⟩
  ·have h := zaf h
   subst h
   have t_ := tT h1 <| tO h2 <| tE (.el [(.int .u64 n4), (.int .i64 n5), (.int .i64 n6), (.bool b), (zad.pv t)]) <| tO (zdi (f := zaa.pv) h3) <| tR (ze3 n4 n5 n6 b t n2 _ h4) <| tF h5 <| tN
   exact ⟨t_.ev, zce s n n2 (iadd .i64 n3 1), .k0 t_.pf (by kernel_rfl), .same (by kernel_rfl)⟩
 ·have h := zaf h
  subst h
  have t_ := tF h1 <| tN
  exact ⟨t_.ev, ⟨[(9, (.av (.one (.pv (.bool false))))), (0, (.av (.one (.bor (.recs 5 (List.map zaa.pv s) false))))), (1, (.av (.one (.fn 44 [(.ref 0 0)])))), (7, (.av (.one (.pv (.int .i64 n))))), (8, (.av (.one (.pv (.int .i64 n3))))), (9, (.av (.one (.pv (.bool (decide ((n3 : Int) < n)))))))], [(0, [(.pv (.int .u64 n2))])], []⟩, .k0 t_.pf (by kernel_rfl), ⟨trivial, ⟨⟨rfl, ⟨.eq rfl, trivial⟩⟩, trivial⟩, trivial⟩⟩
theorem zc2 (s : List zaa) (n n2 s_ : Int) (r_ : (Int) ⊕ (Unit)) (h : runL (za6 s n n2) s_ = some r_) : zbK Tryz.prog (lEnv Tryz.prog cfg 43 1).nt 1 (.loop (zbe Tryz.prog 43 0)) (zce s n n2 s_) (zbn s n n2 r_).1 (zbn s n n2 r_).2 :=
 zbA h (ze2 s n n2) (by intro r_; rcases r_ with r1 | _ <;> simp [zbn])
noncomputable def zbj (s : List zaa) (n : Int) : Option (Int) :=
 (runL (za6 s (((List.map zaa.pv s)).length : Int) n) 0).bind fun z_ => match z_ with
 | .inl n2 =>
  some n2
 | .inr _ =>
  some (-1)
theorem zcn (s : List zaa) (n r_ : Int) (h : zbj s n = some r_) : Runs Tryz.prog 43 [(.one (.bor (.recs 5 (List.map zaa.pv s) false))), (.one (.fn 44 [(.ref 0 0)]))] [[(.pv (.int .u64 n))]] [] (zfB s n r_) := by
 unfold zbj at h
 obtain ⟨z_, h1, h⟩ := zae h
 rcases z_ with n2 | _
 ·have h := zaf h
  subst h
  have t_ := tL (zc2 s (((List.map zaa.pv s)).length : Int) n _ _ h1) <| tN
  exact zag (C := cfg) (sc := t_.ev) (.k0 t_.pf (by kernel_rfl))
 ·have h := zaf h
  subst h
  have t_ := tL (zc2 s (((List.map zaa.pv s)).length : Int) n _ _ h1) <| tN
  exact zag (C := cfg) (sc := t_.ev) (.k0 t_.pf (by kernel_rfl))
noncomputable def zbV (no n n2 : Int) (r : List zaa) (m : List (Int × Int)) (m2 : List ((Int × Int) × Int)) : Option (Int × List zaa) :=
 (za4 n n2 r m m2).bind fun _ =>
 (zbj (List.take ((List.map zaa.pv r)).length r) no).bind fun n3 =>
 bif (decide ((n3 : Int) < 0)) then
  some (2, r)
 else
  (zb8 n3 (iadd .i64 n3 1) r).bind fun (k, r2) =>
  some (0, (List.take k r2))
theorem zcH (no n n2 : Int) (r : List zaa) (m : List (Int × Int)) (m2 : List ((Int × Int) × Int)) (r_ : Int × List zaa) (h : zbV no n n2 r m m2 = some r_) : Runs Tryz.prog 18 [(.one (.ref 0 0)), (.one (.pv (.int .u64 no)))] [[(.pv (.int .i64 n)), (.pv (.int .u64 n2)), (.pv (.recs 5 (List.map zaa.pv r) false)), (.mp 1), (.mp 2)], [(.maph (.int .i64) false (List.map M_int_int.pv m) [])], [(.maph (.st [.i64, .u64]) false (List.map M_deed_Mark_int.pv m2) [])]] [] (zjv no n n2 r m m2 r_) := by
 unfold zbV at h
 obtain ⟨_, h1, h⟩ := zae h
 obtain ⟨n3, h2, h⟩ := zae h
 have q_2 := (Runs.coe (as' := [(.one (.bor (.recs 5 (List.take ((List.map zaa.pv r)).length (List.map zaa.pv r)) false))), (.one (.fn 44 [(.ref 0 0)]))]) (objs' := [[(.pv (.int .u64 no))]]) (rows' := []) (zcn (List.take ((List.map zaa.pv r)).length r) no _ h2) ⟨.bor (.recsT (.eq (by first | rfl | (simp only [List.take_length]; done) | (simp; done) | (simp only [List.map_take, List.map_drop, List.map_append, List.take_length, List.nil_append]; done) | (simp only [List.length_map, List.take_length, List.length_append, List.drop_zero, List.map_append, List.map_take, List.map_drop, List.map_replicate, List.map_cons, List.map_nil, List.append_nil, List.nil_append]; done)))), .eq rfl, trivial⟩ ⟨⟨.eq rfl, trivial⟩, trivial⟩ trivial)
 rcases zaj h with ⟨h3, h⟩ | ⟨h3, h⟩
 ·have h := zaf h
  subst h
  have t_ := tR (zam n n2 r m m2 _ h1) <| tR q_2 <| tT h3 <| tN
  exact zag (C := cfg) (sc := t_.ev) (.k0 t_.pf (by kernel_rfl))
 ·obtain ⟨⟨k, r2⟩, h4, h⟩ := zae h
  have h := zaf h
  subst h
  have t_ := tR (zam n n2 r m m2 _ h1) <| tR q_2 <| tF h3 <| tR (zam n n2 r m m2 _ h1) <| tR (zdX n3 (iadd .i64 n3 1) r _ h4) <| tN
  exact Runs.out (Runs.shut (zag (C := cfg) (res := ([(.one (.pv (.int .i64 0)))], [[(.pv (.int .i64 n)), (.pv (.int .u64 n2)), (.own 0 0 k false), (.mp 1), (.mp 2)], [(.maph (.int .i64) false (List.map M_int_int.pv m) [])], [(.maph (.st [.i64, .u64]) false (List.map M_deed_Mark_int.pv m2) [])]], [(.recs 5 (List.map zaa.pv r2))])) (sc := t_.ev) (.k0 t_.pf (by kernel_rfl))) (res' := ([(.one (.pv (.int .i64 0)))], [[(.pv (.int .i64 n)), (.pv (.int .u64 n2)), (.pv (.recs 5 (List.take k (List.map zaa.pv r2)) false)), (.mp 1), (.mp 2)], [(.maph (.int .i64) false (List.map M_int_int.pv m) [])], [(.maph (.st [.i64, .u64]) false (List.map M_deed_Mark_int.pv m2) [])]], [])) [0] (by kernel_rfl)) ⟨.eq rfl, trivial⟩ ⟨⟨.eq rfl, .eq rfl, .pv (.recsT (.eq (by first | rfl | (simp only [List.take_length]; done) | (simp; done) | (simp only [List.map_take, List.map_drop, List.map_append, List.take_length, List.nil_append]; done) | (simp only [List.length_map, List.take_length, List.length_append, List.drop_zero, List.map_append, List.map_take, List.map_drop, List.map_replicate, List.map_cons, List.map_nil, List.append_nil, List.nil_append]; done)))), .eq rfl, .eq rfl, trivial⟩, ⟨.eq rfl, trivial⟩, ⟨.eq rfl, trivial⟩, trivial⟩ trivial rfl
def zjw (to n n2 : Int) (r : List zaa) (m : List (Int × Int)) (m2 : List ((Int × Int) × Int)) : Bool → Res
 | r1 => ([(.one (.pv (.bool r1)))], [[(.pv (.int .i64 n)), (.pv (.int .u64 n2)), (.pv (.recs 5 (List.map zaa.pv r) false)), (.mp 1), (.mp 2)], [(.maph (.int .i64) false (List.map M_int_int.pv m) [])], [(.maph (.st [.i64, .u64]) false (List.map M_deed_Mark_int.pv m2) [])]], [])
noncomputable def zcr (to n n2 : Int) (r : List zaa) (m : List (Int × Int)) (m2 : List ((Int × Int) × Int)) : Option (Bool) :=
 match (mget to m) with
 | .some n3 =>
  some (decide ((0 : Int) < n3))
 | .none =>
  some false
theorem zbR (to n n2 : Int) (r : List zaa) (m : List (Int × Int)) (m2 : List ((Int × Int) × Int)) (r_ : Bool) (h : zcr to n n2 r m m2 = some r_) : Runs Tryz.prog 20 [(.one (.ref 0 0)), (.one (.pv (.int .i64 to)))] [[(.pv (.int .i64 n)), (.pv (.int .u64 n2)), (.pv (.recs 5 (List.map zaa.pv r) false)), (.mp 1), (.mp 2)], [(.maph (.int .i64) false (List.map M_int_int.pv m) [])], [(.maph (.st [.i64, .u64]) false (List.map M_deed_Mark_int.pv m2) [])]] [] (zjw to n n2 r m m2 r_) := by
 unfold zcr at h
 cases h1 : (mget to m) with
 | some n3 =>
  simp only [h1] at h
  have h := zaf h
  subst h
  have t_ := tT (rfl : true = true) <| tT (show kget [(.int .i64 to)] (List.map M_int_int.pv m) = some [(.int .i64 n3)] from by first | (simp only [M_deed_Mark_int.set, M_int_int.set, M_deed_Mark_int.get, M_int_int.get, h1, Option.map_some, Option.map_none]; done) | (simp only [M_deed_Mark_int.set, M_int_int.set, M_deed_Mark_int.get, M_int_int.get, h1, Option.map_some, Option.map_none]; rfl) | (rw [← List.map_nil]; simp only [M_deed_Mark_int.set, M_int_int.set, M_deed_Mark_int.get, M_int_int.get, h1, Option.map_some, Option.map_none]; rfl)) <| tE (.el [(.int .i64 n3)]) <| tN
  exact zag (C := cfg) (sc := t_.ev) (.k0 t_.pf (by kernel_rfl))
 | none =>
  simp only [h1] at h
  have h := zaf h
  subst h
  have t_ := tT (rfl : true = true) <| tF (show kget [(.int .i64 to)] (List.map M_int_int.pv m) = none from by first | (simp only [M_deed_Mark_int.set, M_int_int.set, M_deed_Mark_int.get, M_int_int.get, h1, Option.map_some, Option.map_none]; done) | (simp only [M_deed_Mark_int.set, M_int_int.set, M_deed_Mark_int.get, M_int_int.get, h1, Option.map_some, Option.map_none]; rfl) | (rw [← List.map_nil]; simp only [M_deed_Mark_int.set, M_int_int.set, M_deed_Mark_int.get, M_int_int.get, h1, Option.map_some, Option.map_none]; rfl)) <| tN
  exact zag (C := cfg) (sc := t_.ev) (.k0 t_.pf (by kernel_rfl))
noncomputable def zgX : Option (Bool) :=
 (zgw 0).bind fun _ =>
 (zdK).bind fun _ =>
 (zbL 2 true zad.nil 0 0 [] []).bind fun z_ => match z_ with
 | .inl n =>
  bif (decide ((n : Int) = 0)) then
   some false
  else
   some false
 | .inr (n, n2, r, m_) =>
  bif (decide ((n : Int) = 1)) then
   (zbV 1 0 n2 r m_ []).bind fun (n3, r2) =>
   bif (decide ((n3 : Int) = 0)) then
    (zcr 2 0 n2 r2 m_ []).bind fun b =>
    bif b then
     (za4 0 n2 r2 m_ []).bind fun _ =>
     some (decide (((((List.map zaa.pv r2)).length : Int) : Int) = 0))
    else
     some false
   else
    some false
  else
   some false
theorem ziz (r_ : Bool) (h : zgX = some r_) : Runs Tryz.prog 7 [] [] [] (znh r_) := by
 unfold zgX at h
 obtain ⟨_, h1, h⟩ := zae h
 obtain ⟨_, h2, h⟩ := zae h
 obtain ⟨z_, h3, h⟩ := zae h
 rcases z_ with n | ⟨n, n2, r, m_⟩
 ·have q_3 := (zb9 2 true zad.nil 0 0 [] [] _ h3)
  rcases zaj h with ⟨h4, h⟩ | ⟨h4, h⟩
  ·have h := zaf h
   subst h
   have t_ := tR (zaH 0 _ h1) <| tR (zbl _ h2) <| tR q_3 <| tT h4 <| tF (rfl : false = false) <| tF (rfl : false = false) <| tF (rfl : false = false) <| tN
   exact zag (C := cfg) (sc := t_.ev) (.k0 t_.pf (by kernel_rfl))
  ·have h := zaf h
   subst h
   have t_ := tR (zaH 0 _ h1) <| tR (zbl _ h2) <| tR q_3 <| tF h4 <| tF (rfl : false = false) <| tF (rfl : false = false) <| tF (rfl : false = false) <| tN
   exact zag (C := cfg) (sc := t_.ev) (.k0 t_.pf (by kernel_rfl))
 ·have q_3 := (zb9 2 true zad.nil 0 0 [] [] _ h3)
  rcases zaj h with ⟨h4, h⟩ | ⟨h4, h⟩
  ·obtain ⟨⟨n3, r2⟩, h5, h⟩ := zae h
   rcases zaj h with ⟨h6, h⟩ | ⟨h6, h⟩
   ·obtain ⟨b, h7, h⟩ := zae h
    rcases zaj h with ⟨h8, h⟩ | ⟨h8, h⟩
    ·obtain ⟨_, h9, h⟩ := zae h
     have h := zaf h
     subst h
     have t_ := tR (zaH 0 _ h1) <| tR (zbl _ h2) <| tR q_3 <| tT (rfl : true = true) <| tT h4 <| tR (zcH 1 0 n2 r m_ [] _ h5) <| tT h6 <| tR (zbR 2 0 n2 r2 m_ [] _ h7) <| tT h8 <| tR (zam 0 n2 r2 m_ [] _ h9) <| tN
     exact zag (C := cfg) (sc := t_.ev) (.k0 t_.pf (by kernel_rfl))
    ·have h := zaf h
     subst h
     have t_ := tR (zaH 0 _ h1) <| tR (zbl _ h2) <| tR q_3 <| tT (rfl : true = true) <| tT h4 <| tR (zcH 1 0 n2 r m_ [] _ h5) <| tT h6 <| tR (zbR 2 0 n2 r2 m_ [] _ h7) <| tF h8 <| tN
     exact zag (C := cfg) (sc := t_.ev) (.k0 t_.pf (by kernel_rfl))
   ·have h := zaf h
    subst h
    have t_ := tR (zaH 0 _ h1) <| tR (zbl _ h2) <| tR q_3 <| tT (rfl : true = true) <| tT h4 <| tR (zcH 1 0 n2 r m_ [] _ h5) <| tF h6 <| tF (rfl : false = false) <| tN
    exact zag (C := cfg) (sc := t_.ev) (.k0 t_.pf (by kernel_rfl))
  ·have h := zaf h
   subst h
   have t_ := tR (zaH 0 _ h1) <| tR (zbl _ h2) <| tR q_3 <| tT (rfl : true = true) <| tF h4 <| tF (rfl : false = false) <| tF (rfl : false = false) <| tN
   exact zag (C := cfg) (sc := t_.ev) (.k0 t_.pf (by kernel_rfl))
def zon (p : List Int) : Bool × zad × zah → Res
 | (r1, r2, r3) => ([(.agg [(.pv (.bool r1)), (.pv (zad.pv r2))]), (.one (.pv (zah.pv r3)))], [], [])
def zhn (p : List Int) (most : Int) : zah × List Int → Res
 | (r1, r2) => ([(.one (.pv (zah.pv r1))), (.one (.pv (.ints .u8 r2 false)))], [], [])
def zoq : zah → Res
 | r1 => ([(.one (.pv (zah.pv r1)))], [], [])
noncomputable def ziD : Option (zah) :=
 some (zah.mk 0 zah.nil zah.nil)
theorem zdO (r_ : zah) (h : ziD = some r_) : Runs Tryz.prog 71 [] [] [] (zoq r_) := by
 unfold ziD at h
 have h := zaf h
 subst h
 have t_ := tN
 exact Runs.out (zag (C := cfg) (res := ([(.one (.pv (.imm [(.int .i64 0), .nilp, .nilp] 0)))], [], [])) (sc := t_.ev) (.k0 t_.pf (by kernel_rfl))) ⟨.eq rfl, trivial⟩ trivial trivial rfl
def zop (l r : zah) : zah → Res
 | r1 => ([(.one (.pv (zah.pv r1)))], [], [])
noncomputable def ziC (l r : zah) : Option (zah) :=
 match l with
 | .nil =>
  none
 | .mk n t t2 =>
  match r with
  | .nil =>
   none
  | .mk n2 t3 t4 =>
   bif (decide ((n : Int) = n2)) then
    bif (decide ((n : Int) < 2)) then
     some l
    else
     some (zah.mk 2 l r)
   else
    some (zah.mk 2 l r)
theorem znj (l r r_ : zah) (h : ziC l r = some r_) : Runs Tryz.prog 78 [(.one (.pv (zah.pv l))), (.one (.pv (zah.pv r)))] [] [] (zop l r r_) := by
 unfold ziC at h
 cases l with
 | nil =>
  cases h
 | mk n t t2 =>
  cases r with
  | nil =>
   cases h
  | mk n2 t3 t4 =>
   rcases zaj h with ⟨h1, h⟩ | ⟨h1, h⟩
   ·rcases zaj h with ⟨h2, h⟩ | ⟨h2, h⟩
    ·have h := zaf h
     subst h
     have t_ := tT h1 <| tT h2 <| tN
     exact zag (C := cfg) (sc := t_.ev) (.k0 t_.pf (by kernel_rfl))
    ·have h := zaf h
     subst h
     have t_ := tT h1 <| tF h2 <| tN
     exact Runs.out (zag (C := cfg) (res := ([(.one (.pv (.imm [(.int .i64 2), (zah.pv (zah.mk n t t2)), (zah.pv (zah.mk n2 t3 t4))] 0)))], [], [])) (sc := t_.ev) (.k0 t_.pf (by kernel_rfl))) ⟨.eq rfl, trivial⟩ trivial trivial rfl
   ·have h := zaf h
    subst h
    have t_ := tF h1 <| tF (rfl : false = false) <| tN
    exact Runs.out (zag (C := cfg) (res := ([(.one (.pv (.imm [(.int .i64 2), (zah.pv (zah.mk n t t2)), (zah.pv (zah.mk n2 t3 t4))] 0)))], [], [])) (sc := t_.ev) (.k0 t_.pf (by kernel_rfl))) ⟨.eq rfl, trivial⟩ trivial trivial rfl
noncomputable def zhm (rec_kr01_Make : List Int → Int → Option (zah × List Int)) (p : List Int) (most : Int) : Option (zah × List Int) :=
 bif (decide ((((p).length : Int) : Int) = 0)) then
  (ziD).bind fun t =>
  some (t, [])
 else
  bif decide ((0 : Int) ≤ 0) && decide ((0 : Int) < ((p).length : Int)) then
  bif decide ((0 : Int) ≤ 1) && decide ((1 : Int) ≤ ((p).length : Int)) && decide ((((p).length : Int) : Int) ≤ ((p).length : Int)) && decide ((((p).length : Int) : Int) = ((p).length : Int)) then
  bif (decide ((most : Int) = 0)) then
   some ((zah.mk (IntKind.i64.wrap (irem .u8 (p.getD 0 0) 2)) zah.nil zah.nil), (List.take (((p).length : Int) - 1).toNat (List.drop 1 p)))
  else
   bif (decide (((irem .u8 (p.getD 0 0) 4) : Int) < 2)) then
    some ((zah.mk (IntKind.i64.wrap (irem .u8 (p.getD 0 0) 2)) zah.nil zah.nil), (List.take (((p).length : Int) - 1).toNat (List.drop 1 p)))
   else
    (rec_kr01_Make (List.take (((p).length : Int) - 1).toNat (List.drop 1 p)) (isub .i64 most 1)).bind fun (t, l_) =>
    (rec_kr01_Make l_ (isub .i64 most 1)).bind fun (t2, l_2) =>
    (ziC t t2).bind fun t3 =>
    some (t3, l_2)
  else none
  else none
theorem zlt (rec_kr01_Make : List Int → Int → Option (zah × List Int)) (hrec_kr01_Make : ∀ p most r_, rec_kr01_Make p most = some r_ → Runs Tryz.prog 40 [(.one (.pv (.ints .u8 p false))), (.one (.pv (.int .i64 most)))] [] [] (zhn p most r_)) (p : List Int) (most : Int) (r_ : zah × List Int) (h : zhm rec_kr01_Make p most = some r_) : Runs Tryz.prog 40 [(.one (.pv (.ints .u8 p false))), (.one (.pv (.int .i64 most)))] [] [] (zhn p most r_) := by
 unfold zhm at h
 rcases zaj h with ⟨h1, h⟩ | ⟨h1, h⟩
 ·obtain ⟨t, h2, h⟩ := zae h
  have h := zaf h
  subst h
  have t_ := tT h1 <| tR (zdO _ h2) <| tN
  exact Runs.out (zag (C := cfg) (res := ([(.one (.pv (zah.pv t))), (.one (.pv .nils))], [], [])) (sc := t_.ev) (.k0 t_.pf (by kernel_rfl))) ⟨.eq rfl, .pv (.nilsI), trivial⟩ trivial trivial rfl
 ·obtain ⟨h2, h⟩ := zar h
  obtain ⟨h3, h⟩ := zar h
  rcases zaj h with ⟨h4, h⟩ | ⟨h4, h⟩
  ·have h := zaf h
   subst h
   have t_ := tF h1 <| tO h2 <| tO h3 <| tT h4 <| tT (rfl : true = true) <| tO (rfl : true = true) <| tN
   exact Runs.out (zag (C := cfg) (res := ([(.one (.pv (.imm [(.int .i64 (IntKind.i64.wrap (irem .u8 (p.getD 0 0) 2))), .nilp, .nilp] 0))), (.one (.pv (.ints .u8 (List.take (((p).length : Int) - 1).toNat (List.drop 1 p)) false)))], [], [])) (sc := t_.ev) (.k0 t_.pf (by kernel_rfl))) ⟨.eq rfl, .eq rfl, trivial⟩ trivial trivial rfl
  ·rcases zaj h with ⟨h5, h⟩ | ⟨h5, h⟩
   ·have h := zaf h
    subst h
    have t_ := tF h1 <| tO h2 <| tO h3 <| tF h4 <| tO (rfl : true = true) <| tT h5 <| tO (rfl : true = true) <| tN
    exact Runs.out (zag (C := cfg) (res := ([(.one (.pv (.imm [(.int .i64 (IntKind.i64.wrap (irem .u8 (p.getD 0 0) 2))), .nilp, .nilp] 0))), (.one (.pv (.ints .u8 (List.take (((p).length : Int) - 1).toNat (List.drop 1 p)) false)))], [], [])) (sc := t_.ev) (.k0 t_.pf (by kernel_rfl))) ⟨.eq rfl, .eq rfl, trivial⟩ trivial trivial rfl
   ·obtain ⟨⟨t, l_⟩, h6, h⟩ := zae h
    obtain ⟨⟨t2, l_2⟩, h7, h⟩ := zae h
    obtain ⟨t3, h8, h⟩ := zae h
    have h := zaf h
    subst h
    have t_ := tF h1 <| tO h2 <| tO h3 <| tF h4 <| tO (rfl : true = true) <| tF h5 <| tR (hrec_kr01_Make (List.take (((p).length : Int) - 1).toNat (List.drop 1 p)) (isub .i64 most 1) _ h6) <| tR (hrec_kr01_Make l_ (isub .i64 most 1) _ h7) <| tR (znj t t2 _ h8) <| tN
    exact zag (C := cfg) (sc := t_.ev) (.k0 t_.pf (by kernel_rfl))
noncomputable def zfz : Nat → List Int → Int → Option (zah × List Int)
 | 0, _, _ => none
 | N + 1, p, most => zhm (zfz N) p most
theorem zjf : ∀ (N : Nat) (p : List Int) (most : Int) (r_ : zah × List Int), zfz N p most = some r_ → Runs Tryz.prog 40 [(.one (.pv (.ints .u8 p false))), (.one (.pv (.int .i64 most)))] [] [] (zhn p most r_)
 | 0, _, _, _, h => by cases h
 | N + 1, p, most, r_, h => zlt (zfz N) (zjf N) p most r_ h
def ziB (x : zah) : Bool × zad → Res
 | (r1, r2) => ([(.agg [(.pv (.bool r1)), (.pv (zad.pv r2))])], [], [])
def zp7 : Unit → Res
 | _ => ([(.agg [(.pv (.bool false)), (.pv (zad.pv zad.nil))])], [], [])
noncomputable def zkQ : Option (Unit) :=
 some ()
theorem ziw (r_ : Unit) (h : zkQ = some r_) : Runs Tryz.prog 79 [] [] [] (zp7 r_) := by
 unfold zkQ at h
 have h := zaf h
 subst h
 have t_ := tN
 exact Runs.out (zag (C := cfg) (res := ([(.agg [(.pv (.bool false)), (.pv .nilp)])], [], [])) (sc := t_.ev) (.k0 t_.pf (by kernel_rfl))) ⟨⟨.eq rfl, .eq rfl, trivial⟩, trivial⟩ trivial trivial rfl
def zp6 (l : Bool) (l2 : zad) (r : Bool) (r2 : zad) : Bool × zad × Int → Res
 | (r1, r3, r4) => ([(.agg [(.pv (.bool r1)), (.pv (zad.pv r3))]), (.one (.pv (.int .i64 r4)))], [], [])
def zp8 (l : Bool) (l2 : zad) (r : Bool) (r2 : zad) : Bool × zad → Res
 | (r1, r3) => ([(.agg [(.pv (.bool r1)), (.pv (zad.pv r3))])], [], [])
def zma (i : Bool) (i2 : zad) : Unit → Res
 | _ => ([(.one (.pv (.bool i)))], [], [])
noncomputable def zcB (i : Bool) (i2 : zad) : Option (Unit) :=
 some ()
theorem zaG (i : Bool) (i2 : zad) (r_ : Unit) (h : zcB i i2 = some r_) : Runs Tryz.prog 109 [(.agg [(.pv (.bool i)), (.pv (zad.pv i2))])] [] [] (zma i i2 r_) := by
 unfold zcB at h
 have h := zaf h
 subst h
 have t_ := tN
 exact zag (C := cfg) (sc := t_.ev) (.k0 t_.pf (by kernel_rfl))
noncomputable def zmc (l : Bool) (l2 : zad) (r : Bool) (r2 : zad) : Option (Bool × zad) :=
 (zbq l l2).bind fun b =>
 bif b then
  (zbq r r2).bind fun b2 =>
  bif b2 then
   (zkQ).bind fun _ =>
   some (false, zad.nil)
  else
   (zcB l l2).bind fun _ =>
   bif l then
    (zcB r r2).bind fun _ =>
    bif r then
     (zdK).bind fun _ =>
     some (true, zad.nil)
    else
     some (false, (zad.mk l l2 r r2))
   else
    some (false, (zad.mk l l2 r r2))
 else
  (zcB l l2).bind fun _ =>
  bif l then
   (zcB r r2).bind fun _ =>
   bif r then
    (zdK).bind fun _ =>
    some (true, zad.nil)
   else
    some (false, (zad.mk l l2 r r2))
  else
   some (false, (zad.mk l l2 r r2))
theorem zlh (l : Bool) (l2 : zad) (r : Bool) (r2 : zad) (r_ : Bool × zad) (h : zmc l l2 r r2 = some r_) : Runs Tryz.prog 113 [(.agg [(.pv (.bool l)), (.pv (zad.pv l2))]), (.agg [(.pv (.bool r)), (.pv (zad.pv r2))])] [] [] (zp8 l l2 r r2 r_) := by
 unfold zmc at h
 obtain ⟨b, h1, h⟩ := zae h
 rcases zaj h with ⟨h2, h⟩ | ⟨h2, h⟩
 ·obtain ⟨b2, h3, h⟩ := zae h
  rcases zaj h with ⟨h4, h⟩ | ⟨h4, h⟩
  ·obtain ⟨_, h5, h⟩ := zae h
   have h := zaf h
   subst h
   have t_ := tR (zap l l2 _ h1) <| tT h2 <| tR (zap r r2 _ h3) <| tT h4 <| tR (ziw _ h5) <| tN
   exact zag (C := cfg) (sc := t_.ev) (.k0 t_.pf (by kernel_rfl))
  ·obtain ⟨_, h5, h⟩ := zae h
   rcases zaj h with ⟨h6, h⟩ | ⟨h6, h⟩
   ·obtain ⟨_, h7, h⟩ := zae h
    rcases zaj h with ⟨h8, h⟩ | ⟨h8, h⟩
    ·obtain ⟨_, h9, h⟩ := zae h
     have h := zaf h
     subst h
     have t_ := tR (zap l l2 _ h1) <| tT h2 <| tR (zap r r2 _ h3) <| tF h4 <| tR (zaG l l2 _ h5) <| tT h6 <| tR (zaG r r2 _ h7) <| tT h8 <| tR (zbl _ h9) <| tN
     exact zag (C := cfg) (sc := t_.ev) (.k0 t_.pf (by kernel_rfl))
    ·have h := zaf h
     subst h
     have t_ := tR (zap l l2 _ h1) <| tT h2 <| tR (zap r r2 _ h3) <| tF h4 <| tR (zaG l l2 _ h5) <| tT h6 <| tR (zaG r r2 _ h7) <| tF h8 <| tN
     exact Runs.out (zag (C := cfg) (res := ([(.agg [(.pv (.bool false)), (.pv (.imm [(.bool l), (zad.pv l2), (.bool r), (zad.pv r2)] 0))])], [], [])) (sc := t_.ev) (.k0 t_.pf (by kernel_rfl))) ⟨⟨.eq rfl, .eq rfl, trivial⟩, trivial⟩ trivial trivial rfl
   ·have h := zaf h
    subst h
    have t_ := tR (zap l l2 _ h1) <| tT h2 <| tR (zap r r2 _ h3) <| tF h4 <| tR (zaG l l2 _ h5) <| tF h6 <| tF (rfl : false = false) <| tN
    exact Runs.out (zag (C := cfg) (res := ([(.agg [(.pv (.bool false)), (.pv (.imm [(.bool l), (zad.pv l2), (.bool r), (zad.pv r2)] 0))])], [], [])) (sc := t_.ev) (.k0 t_.pf (by kernel_rfl))) ⟨⟨.eq rfl, .eq rfl, trivial⟩, trivial⟩ trivial trivial rfl
 ·obtain ⟨_, h3, h⟩ := zae h
  rcases zaj h with ⟨h4, h⟩ | ⟨h4, h⟩
  ·obtain ⟨_, h5, h⟩ := zae h
   rcases zaj h with ⟨h6, h⟩ | ⟨h6, h⟩
   ·obtain ⟨_, h7, h⟩ := zae h
    have h := zaf h
    subst h
    have t_ := tR (zap l l2 _ h1) <| tF h2 <| tF (rfl : false = false) <| tR (zaG l l2 _ h3) <| tT h4 <| tR (zaG r r2 _ h5) <| tT h6 <| tR (zbl _ h7) <| tN
    exact zag (C := cfg) (sc := t_.ev) (.k0 t_.pf (by kernel_rfl))
   ·have h := zaf h
    subst h
    have t_ := tR (zap l l2 _ h1) <| tF h2 <| tF (rfl : false = false) <| tR (zaG l l2 _ h3) <| tT h4 <| tR (zaG r r2 _ h5) <| tF h6 <| tN
    exact Runs.out (zag (C := cfg) (res := ([(.agg [(.pv (.bool false)), (.pv (.imm [(.bool l), (zad.pv l2), (.bool r), (zad.pv r2)] 0))])], [], [])) (sc := t_.ev) (.k0 t_.pf (by kernel_rfl))) ⟨⟨.eq rfl, .eq rfl, trivial⟩, trivial⟩ trivial trivial rfl
  ·have h := zaf h
   subst h
   have t_ := tR (zap l l2 _ h1) <| tF h2 <| tF (rfl : false = false) <| tR (zaG l l2 _ h3) <| tF h4 <| tF (rfl : false = false) <| tN
   exact Runs.out (zag (C := cfg) (res := ([(.agg [(.pv (.bool false)), (.pv (.imm [(.bool l), (zad.pv l2), (.bool r), (zad.pv r2)] 0))])], [], [])) (sc := t_.ev) (.k0 t_.pf (by kernel_rfl))) ⟨⟨.eq rfl, .eq rfl, trivial⟩, trivial⟩ trivial trivial rfl
def zf5 (i : Bool) (i2 : zad) : Int → Res
 | r1 => ([(.one (.pv (.int .i64 r1)))], [], [])
noncomputable def zfO (rec_id_ID_Depth : Bool → zad → Option (Int)) (i : Bool) (i2 : zad) : Option (Int) :=
 match i2 with
 | .nil =>
  some 0
 | .mk b t b2 t2 =>
  (rec_id_ID_Depth b t).bind fun n =>
  (rec_id_ID_Depth b2 t2).bind fun n2 =>
  some (iadd .i64 1 (if (n : Int) < n2 then n2 else n))
theorem zj4 (rec_id_ID_Depth : Bool → zad → Option (Int)) (hrec_id_ID_Depth : ∀ i i2 r_, rec_id_ID_Depth i i2 = some r_ → Runs Tryz.prog 114 [(.agg [(.pv (.bool i)), (.pv (zad.pv i2))])] [] [] (zf5 i i2 r_)) (i : Bool) (i2 : zad) (r_ : Int) (h : zfO rec_id_ID_Depth i i2 = some r_) : Runs Tryz.prog 114 [(.agg [(.pv (.bool i)), (.pv (zad.pv i2))])] [] [] (zf5 i i2 r_) := by
 unfold zfO at h
 cases i2 with
 | nil =>
  have h := zaf h
  subst h
  have t_ := tT (rfl : true = true) <| tN
  exact zag (C := cfg) (sc := t_.ev) (.k0 t_.pf (by kernel_rfl))
 | mk b t b2 t2 =>
  obtain ⟨n, h1, h⟩ := zae h
  obtain ⟨n2, h2, h⟩ := zae h
  have h := zaf h
  subst h
  have t_ := tF (rfl : false = false) <| tR (hrec_id_ID_Depth b t _ h1) <| tR (hrec_id_ID_Depth b t _ h1) <| tR (hrec_id_ID_Depth b2 t2 _ h2) <| tN
  exact zag (C := cfg) (sc := t_.ev) (.k1 t_.pf (by kernel_rfl) (by kernel_rfl))
noncomputable def zfa : Nat → Bool → zad → Option (Int)
 | 0, _, _ => none
 | N + 1, i, i2 => zfO (zfa N) i i2
theorem zfF : ∀ (N : Nat) (i : Bool) (i2 : zad) (r_ : Int), zfa N i i2 = some r_ → Runs Tryz.prog 114 [(.agg [(.pv (.bool i)), (.pv (zad.pv i2))])] [] [] (zf5 i i2 r_)
 | 0, _, _, _, h => by cases h
 | N + 1, i, i2, r_, h => zj4 (zfa N) (zfF N) i i2 r_ h
noncomputable def zoh (N : Nat) (l : Bool) (l2 : zad) (r : Bool) (r2 : zad) : Option (Bool × zad × Int) :=
 (zmc l l2 r r2).bind fun (b, t) =>
 (zfa N b t).bind fun n =>
 bif (decide ((16 : Int) < n)) then
  (zkQ).bind fun _ =>
  some (false, zad.nil, 3)
 else
  some (b, t, 0)
theorem zlg (N : Nat) (l : Bool) (l2 : zad) (r : Bool) (r2 : zad) (r_ : Bool × zad × Int) (h : zoh N l l2 r r2 = some r_) : Runs Tryz.prog 80 [(.agg [(.pv (.bool l)), (.pv (zad.pv l2))]), (.agg [(.pv (.bool r)), (.pv (zad.pv r2))])] [] [] (zp6 l l2 r r2 r_) := by
 unfold zoh at h
 obtain ⟨⟨b, t⟩, h1, h⟩ := zae h
 obtain ⟨n, h2, h⟩ := zae h
 rcases zaj h with ⟨h3, h⟩ | ⟨h3, h⟩
 ·obtain ⟨_, h4, h⟩ := zae h
  have h := zaf h
  subst h
  have t_ := tR (zlh l l2 r r2 _ h1) <| tR (zfF N b t _ h2) <| tT h3 <| tR (ziw _ h4) <| tN
  exact zag (C := cfg) (sc := t_.ev) (.k0 t_.pf (by kernel_rfl))
 ·have h := zaf h
  subst h
  have t_ := tR (zlh l l2 r r2 _ h1) <| tR (zfF N b t _ h2) <| tF h3 <| tN
  exact zag (C := cfg) (sc := t_.ev) (.k0 t_.pf (by kernel_rfl))
noncomputable def ziS (N : Nat) (rec_kl15_own : zah → Option (Bool × zad)) (x : zah) : Option (Bool × zad) :=
 match x with
 | .nil =>
  none
 | .mk n t t2 =>
  bif (decide ((n : Int) = 0)) then
   (zkQ).bind fun _ =>
   some (false, zad.nil)
  else
   bif (decide ((n : Int) = 1)) then
    (zdK).bind fun _ =>
    some (true, zad.nil)
   else
    (rec_kl15_own t).bind fun (b, t3) =>
    (rec_kl15_own t2).bind fun (b2, t4) =>
    (zoh N b t3 b2 t4).bind fun (b3, t5, n2) =>
    some (b3, t5)
theorem zmj (N : Nat) (rec_kl15_own : zah → Option (Bool × zad)) (hrec_kl15_own : ∀ x r_, rec_kl15_own x = some r_ → Runs Tryz.prog 41 [(.one (.pv (zah.pv x)))] [] [] (ziB x r_)) (x : zah) (r_ : Bool × zad) (h : ziS N rec_kl15_own x = some r_) : Runs Tryz.prog 41 [(.one (.pv (zah.pv x)))] [] [] (ziB x r_) := by
 unfold ziS at h
 cases x with
 | nil =>
  cases h
 | mk n t t2 =>
  rcases zaj h with ⟨h1, h⟩ | ⟨h1, h⟩
  ·obtain ⟨_, h2, h⟩ := zae h
   have h := zaf h
   subst h
   have t_ := tT h1 <| tR (ziw _ h2) <| tN
   exact zag (C := cfg) (sc := t_.ev) (.k0 t_.pf (by kernel_rfl))
  ·rcases zaj h with ⟨h2, h⟩ | ⟨h2, h⟩
   ·obtain ⟨_, h3, h⟩ := zae h
    have h := zaf h
    subst h
    have t_ := tF h1 <| tT h2 <| tR (zbl _ h3) <| tN
    exact zag (C := cfg) (sc := t_.ev) (.k0 t_.pf (by kernel_rfl))
   ·obtain ⟨⟨b, t3⟩, h3, h⟩ := zae h
    obtain ⟨⟨b2, t4⟩, h4, h⟩ := zae h
    obtain ⟨⟨b3, t5, n2⟩, h5, h⟩ := zae h
    have h := zaf h
    subst h
    have t_ := tF h1 <| tF h2 <| tR (hrec_kl15_own t _ h3) <| tR (hrec_kl15_own t _ h3) <| tR (hrec_kl15_own t2 _ h4) <| tR (zlg N b t3 b2 t4 _ h5) <| tR (hrec_kl15_own t2 _ h4) <| tR (zlg N b t3 b2 t4 _ h5) <| tN
    exact zag (C := cfg) (sc := t_.ev) (.k1 t_.pf (by kernel_rfl) (by kernel_rfl))
noncomputable def zhl : Nat → zah → Option (Bool × zad)
 | 0, _ => none
 | N + 1, x => ziS N (zhl N) x
theorem zj9 : ∀ (N : Nat) (x : zah) (r_ : Bool × zad), zhl N x = some r_ → Runs Tryz.prog 41 [(.one (.pv (zah.pv x)))] [] [] (ziB x r_)
 | 0, _, _, h => by cases h
 | N + 1, x, r_, h => zmj N (zhl N) (zj9 N) x r_ h
noncomputable def zfx (N : Nat) (p : List Int) : Option (Bool × zad × zah) :=
 bif decide ((0 : Int) ≤ 0) && decide ((0 : Int) ≤ (if (30 : Int) < ((p).length : Int) then 30 else ((p).length : Int))) && decide (((if (30 : Int) < ((p).length : Int) then 30 else ((p).length : Int)) : Int) ≤ ((p).length : Int)) && decide (((if (30 : Int) < ((p).length : Int) then 30 else ((p).length : Int)) : Int) = (if (30 : Int) < ((p).length : Int) then 30 else ((p).length : Int))) then
 (zfz N (List.take ((if (30 : Int) < ((p).length : Int) then 30 else ((p).length : Int)) - 0).toNat p) 5).bind fun (t, l_) =>
 (zhl N t).bind fun (b, t2) =>
 some (b, t2, t)
 else none
theorem zbM (N : Nat) (p : List Int) (r_ : Bool × zad × zah) (h : zfx N p = some r_) : Runs Tryz.prog 13 [(.one (.pv (.ints .u8 p false)))] [] [] (zon p r_) := by
 unfold zfx at h
 obtain ⟨h1, h⟩ := zar h
 obtain ⟨⟨t, l_⟩, h2, h⟩ := zae h
 obtain ⟨⟨b, t2⟩, h3, h⟩ := zae h
 have h := zaf h
 subst h
 have t_ := tO h1 <| tR (zjf N (List.take ((if (30 : Int) < ((p).length : Int) then 30 else ((p).length : Int)) - 0).toNat p) 5 _ h2) <| tR (zj9 N t _ h3) <| tN
 exact zag (C := cfg) (sc := t_.ev) (.k0 t_.pf (by kernel_rfl))
def zno (g g2 g3 : Int) (g4 : zah) : Bool → Res
 | r1 => ([(.one (.pv (.bool r1)))], [], [])
noncomputable def zff (g g2 g3 : Int) (g4 : zah) : Option (Bool) :=
 bif (decide ((0 : Int) < g)) then
  bif (decide ((g : Int) < 4611686018427387904)) then
   bif (decide ((0 : Int) ≤ g2)) then
    bif (decide ((g2 : Int) < 12)) then
     bif (decide ((0 : Int) ≤ g3)) then
      bif (decide ((g3 : Int) < 12)) then
       bif (decide ((g2 : Int) = g3)) then
        some false
       else
        match g4 with
        | .nil =>
         none
        | .mk n t t2 =>
         some (!(decide ((n : Int) = 0)))
      else
       some false
     else
      some false
    else
     some false
   else
    some false
  else
   some false
 else
  some false
theorem zcw (g g2 g3 : Int) (g4 : zah) (r_ : Bool) (h : zff g g2 g3 g4 = some r_) : Runs Tryz.prog 68 [(.agg [(.pv (.int .u64 g)), (.pv (.int .i64 g2)), (.pv (.int .i64 g3)), (.pv (zah.pv g4))])] [] [] (zno g g2 g3 g4 r_) := by
 unfold zff at h
 rcases zaj h with ⟨h1, h⟩ | ⟨h1, h⟩
 ·rcases zaj h with ⟨h2, h⟩ | ⟨h2, h⟩
  ·rcases zaj h with ⟨h3, h⟩ | ⟨h3, h⟩
   ·rcases zaj h with ⟨h4, h⟩ | ⟨h4, h⟩
    ·rcases zaj h with ⟨h5, h⟩ | ⟨h5, h⟩
     ·rcases zaj h with ⟨h6, h⟩ | ⟨h6, h⟩
      ·rcases zaj h with ⟨h7, h⟩ | ⟨h7, h⟩
       ·have h := zaf h
        subst h
        have t_ := tT h1 <| tT h2 <| tT h3 <| tT h4 <| tT h5 <| tT h6 <| tF (zaz h7) <| tN
        exact zag (C := cfg) (sc := t_.ev) (.k0 t_.pf (by kernel_rfl))
       ·cases g4 with
        | nil =>
         cases h
        | mk n t t2 =>
         have h := zaf h
         subst h
         have t_ := tT h1 <| tT h2 <| tT h3 <| tT h4 <| tT h5 <| tT h6 <| tT (zbc h7) <| tN
         exact zag (C := cfg) (sc := t_.ev) (.k0 t_.pf (by kernel_rfl))
      ·have h := zaf h
       subst h
       have t_ := tT h1 <| tT h2 <| tT h3 <| tT h4 <| tT h5 <| tF h6 <| tF (rfl : false = false) <| tN
       exact zag (C := cfg) (sc := t_.ev) (.k0 t_.pf (by kernel_rfl))
     ·have h := zaf h
      subst h
      have t_ := tT h1 <| tT h2 <| tT h3 <| tT h4 <| tF h5 <| tF (rfl : false = false) <| tF (rfl : false = false) <| tN
      exact zag (C := cfg) (sc := t_.ev) (.k0 t_.pf (by kernel_rfl))
    ·have h := zaf h
     subst h
     have t_ := tT h1 <| tT h2 <| tT h3 <| tF h4 <| tF (rfl : false = false) <| tF (rfl : false = false) <| tF (rfl : false = false) <| tN
     exact zag (C := cfg) (sc := t_.ev) (.k0 t_.pf (by kernel_rfl))
   ·have h := zaf h
    subst h
    have t_ := tT h1 <| tT h2 <| tF h3 <| tF (rfl : false = false) <| tF (rfl : false = false) <| tF (rfl : false = false) <| tF (rfl : false = false) <| tN
    exact zag (C := cfg) (sc := t_.ev) (.k0 t_.pf (by kernel_rfl))
  ·have h := zaf h
   subst h
   have t_ := tT h1 <| tF h2 <| tF (rfl : false = false) <| tF (rfl : false = false) <| tF (rfl : false = false) <| tF (rfl : false = false) <| tF (rfl : false = false) <| tN
   exact zag (C := cfg) (sc := t_.ev) (.k0 t_.pf (by kernel_rfl))
 ·have h := zaf h
  subst h
  have t_ := tF h1 <| tF (rfl : false = false) <| tF (rfl : false = false) <| tF (rfl : false = false) <| tF (rfl : false = false) <| tF (rfl : false = false) <| tF (rfl : false = false) <| tN
  exact zag (C := cfg) (sc := t_.ev) (.k0 t_.pf (by kernel_rfl))
def zoo (g g2 g3 : Int) (g4 : Bool) (g5 : zad) (h_ h_2 h_3 : Int) (h_4 : zah) : Bool → Res
 | r1 => ([(.one (.pv (.bool r1)))], [], [])
def zgH (i : Bool) (i2 : zad) : ByteArray → Res
 | r1 => ([(.one (.pv (.str r1)))], [], [])
noncomputable def zgy (rec_id_ID_Text : Bool → zad → Option (ByteArray)) (i : Bool) (i2 : zad) : Option (ByteArray) :=
 (zbq i i2).bind fun b =>
 bif b then
  some (⟨#[48]⟩ : ByteArray)
 else
  (zcB i i2).bind fun _ =>
  bif i then
   some (⟨#[49]⟩ : ByteArray)
  else
   match i2 with
   | .nil =>
    none
   | .mk b2 t b3 t2 =>
    (rec_id_ID_Text b2 t).bind fun s =>
    bif decide ((⟨#[40]⟩ : ByteArray).size + s.size ≤ 140737488355328) then
    bif decide (((⟨#[40]⟩ : ByteArray) ++ s).size + (⟨#[44]⟩ : ByteArray).size ≤ 140737488355328) then
    (rec_id_ID_Text b3 t2).bind fun s2 =>
    bif decide ((((⟨#[40]⟩ : ByteArray) ++ s) ++ (⟨#[44]⟩ : ByteArray)).size + s2.size ≤ 140737488355328) then
    bif decide (((((⟨#[40]⟩ : ByteArray) ++ s) ++ (⟨#[44]⟩ : ByteArray)) ++ s2).size + (⟨#[41]⟩ : ByteArray).size ≤ 140737488355328) then
    some (((((⟨#[40]⟩ : ByteArray) ++ s) ++ (⟨#[44]⟩ : ByteArray)) ++ s2) ++ (⟨#[41]⟩ : ByteArray))
    else none
    else none
    else none
    else none
theorem zkP (rec_id_ID_Text : Bool → zad → Option (ByteArray)) (hrec_id_ID_Text : ∀ i i2 r_, rec_id_ID_Text i i2 = some r_ → Runs Tryz.prog 72 [(.agg [(.pv (.bool i)), (.pv (zad.pv i2))])] [] [] (zgH i i2 r_)) (i : Bool) (i2 : zad) (r_ : ByteArray) (h : zgy rec_id_ID_Text i i2 = some r_) : Runs Tryz.prog 72 [(.agg [(.pv (.bool i)), (.pv (zad.pv i2))])] [] [] (zgH i i2 r_) := by
 unfold zgy at h
 obtain ⟨b, h1, h⟩ := zae h
 rcases zaj h with ⟨h2, h⟩ | ⟨h2, h⟩
 ·have h := zaf h
  subst h
  have t_ := tR (zap i i2 _ h1) <| tT h2 <| tN
  exact zag (C := cfg) (sc := t_.ev) (.k0 t_.pf (by kernel_rfl))
 ·obtain ⟨_, h3, h⟩ := zae h
  rcases zaj h with ⟨h4, h⟩ | ⟨h4, h⟩
  ·have h := zaf h
   subst h
   have t_ := tR (zap i i2 _ h1) <| tF h2 <| tR (zaG i i2 _ h3) <| tT h4 <| tN
   exact zag (C := cfg) (sc := t_.ev) (.k0 t_.pf (by kernel_rfl))
  ·cases i2 with
   | nil =>
    cases h
   | mk b2 t b3 t2 =>
    obtain ⟨s, h5, h⟩ := zae h
    obtain ⟨h6, h⟩ := zar h
    obtain ⟨h7, h⟩ := zar h
    obtain ⟨s2, h8, h⟩ := zae h
    obtain ⟨h9, h⟩ := zar h
    obtain ⟨h10, h⟩ := zar h
    have h := zaf h
    subst h
    have t_ := tR (zap i (zad.mk b2 t b3 t2) _ h1) <| tF h2 <| tR (zaG i (zad.mk b2 t b3 t2) _ h3) <| tF h4 <| tR (hrec_id_ID_Text b2 t _ h5) <| tO h6 <| tO h7 <| tR (hrec_id_ID_Text b2 t _ h5) <| tO h6 <| tO h7 <| tR (hrec_id_ID_Text b3 t2 _ h8) <| tO h9 <| tO h10 <| tN
    exact zag (C := cfg) (sc := t_.ev) (.k1 t_.pf (by kernel_rfl) (by kernel_rfl))
noncomputable def zfW : Nat → Bool → zad → Option (ByteArray)
 | 0, _, _ => none
 | N + 1, i, i2 => zgy (zfW N) i i2
theorem zf6 : ∀ (N : Nat) (i : Bool) (i2 : zad) (r_ : ByteArray), zfW N i i2 = some r_ → Runs Tryz.prog 72 [(.agg [(.pv (.bool i)), (.pv (zad.pv i2))])] [] [] (zgH i i2 r_)
 | 0, _, _, _, h => by cases h
 | N + 1, i, i2, r_, h => zkP (zfW N) (zf6 N) i i2 r_ h
def zhp (i : zah) : ByteArray → Res
 | r1 => ([(.one (.pv (.str r1)))], [], [])
noncomputable def zho (rec_kr01_Text : zah → Option (ByteArray)) (i : zah) : Option (ByteArray) :=
 match i with
 | .nil =>
  none
 | .mk n t t2 =>
  bif (decide ((n : Int) = 0)) then
   some (⟨#[48]⟩ : ByteArray)
  else
   bif (decide ((n : Int) = 1)) then
    some (⟨#[49]⟩ : ByteArray)
   else
    (rec_kr01_Text t).bind fun s =>
    bif decide ((⟨#[40]⟩ : ByteArray).size + s.size ≤ 140737488355328) then
    bif decide (((⟨#[40]⟩ : ByteArray) ++ s).size + (⟨#[44]⟩ : ByteArray).size ≤ 140737488355328) then
    (rec_kr01_Text t2).bind fun s2 =>
    bif decide ((((⟨#[40]⟩ : ByteArray) ++ s) ++ (⟨#[44]⟩ : ByteArray)).size + s2.size ≤ 140737488355328) then
    bif decide (((((⟨#[40]⟩ : ByteArray) ++ s) ++ (⟨#[44]⟩ : ByteArray)) ++ s2).size + (⟨#[41]⟩ : ByteArray).size ≤ 140737488355328) then
    some (((((⟨#[40]⟩ : ByteArray) ++ s) ++ (⟨#[44]⟩ : ByteArray)) ++ s2) ++ (⟨#[41]⟩ : ByteArray))
    else none
    else none
    else none
    else none
theorem zlu (rec_kr01_Text : zah → Option (ByteArray)) (hrec_kr01_Text : ∀ i r_, rec_kr01_Text i = some r_ → Runs Tryz.prog 73 [(.one (.pv (zah.pv i)))] [] [] (zhp i r_)) (i : zah) (r_ : ByteArray) (h : zho rec_kr01_Text i = some r_) : Runs Tryz.prog 73 [(.one (.pv (zah.pv i)))] [] [] (zhp i r_) := by
 unfold zho at h
 cases i with
 | nil =>
  cases h
 | mk n t t2 =>
  rcases zaj h with ⟨h1, h⟩ | ⟨h1, h⟩
  ·have h := zaf h
   subst h
   have t_ := tT h1 <| tN
   exact zag (C := cfg) (sc := t_.ev) (.k0 t_.pf (by kernel_rfl))
  ·rcases zaj h with ⟨h2, h⟩ | ⟨h2, h⟩
   ·have h := zaf h
    subst h
    have t_ := tF h1 <| tT h2 <| tN
    exact zag (C := cfg) (sc := t_.ev) (.k0 t_.pf (by kernel_rfl))
   ·obtain ⟨s, h3, h⟩ := zae h
    obtain ⟨h4, h⟩ := zar h
    obtain ⟨h5, h⟩ := zar h
    obtain ⟨s2, h6, h⟩ := zae h
    obtain ⟨h7, h⟩ := zar h
    obtain ⟨h8, h⟩ := zar h
    have h := zaf h
    subst h
    have t_ := tF h1 <| tF h2 <| tR (hrec_kr01_Text t _ h3) <| tO h4 <| tO h5 <| tR (hrec_kr01_Text t2 _ h6) <| tO h7 <| tO h8 <| tN
    exact zag (C := cfg) (sc := t_.ev) (.k0 t_.pf (by kernel_rfl))
noncomputable def zg1 : Nat → zah → Option (ByteArray)
 | 0, _ => none
 | N + 1, i => zho (zg1 N) i
theorem zjg : ∀ (N : Nat) (i : zah) (r_ : ByteArray), zg1 N i = some r_ → Runs Tryz.prog 73 [(.one (.pv (zah.pv i)))] [] [] (zhp i r_)
 | 0, _, _, h => by cases h
 | N + 1, i, r_, h => zlu (zg1 N) (zjg N) i r_ h
noncomputable def zfy (N : Nat) (g g2 g3 : Int) (g4 : Bool) (g5 : zad) (h_ h_2 h_3 : Int) (h_4 : zah) : Option (Bool) :=
 bif (decide ((g : Int) = h_)) then
  bif (decide ((g2 : Int) = h_2)) then
   bif (decide ((g3 : Int) = h_3)) then
    (zfW N g4 g5).bind fun s =>
    (zg1 N h_4).bind fun s2 =>
    some (decide (s = s2))
   else
    none
  else
   none
 else
  none
theorem zfp (N : Nat) (g g2 g3 : Int) (g4 : Bool) (g5 : zad) (h_ h_2 h_3 : Int) (h_4 : zah) (r_ : Bool) (h : zfy N g g2 g3 g4 g5 h_ h_2 h_3 h_4 = some r_) : Runs Tryz.prog 34 [(.agg [(.pv (.int .u64 g)), (.pv (.int .i64 g2)), (.pv (.int .i64 g3)), (.pv (.bool g4)), (.pv (zad.pv g5))]), (.agg [(.pv (.int .u64 h_)), (.pv (.int .i64 h_2)), (.pv (.int .i64 h_3)), (.pv (zah.pv h_4))])] [] [] (zoo g g2 g3 g4 g5 h_ h_2 h_3 h_4 r_) := by
 unfold zfy at h
 rcases zaj h with ⟨h1, h⟩ | ⟨h1, h⟩
 ·rcases zaj h with ⟨h2, h⟩ | ⟨h2, h⟩
  ·rcases zaj h with ⟨h3, h⟩ | ⟨h3, h⟩
   ·obtain ⟨s, h4, h⟩ := zae h
    obtain ⟨s2, h5, h⟩ := zae h
    have h := zaf h
    subst h
    have t_ := tT h1 <| tT h2 <| tT h3 <| tR (zf6 N g4 g5 _ h4) <| tR (zf6 N g4 g5 _ h4) <| tR (zjg N h_4 _ h5) <| tN
    exact zag (C := cfg) (sc := t_.ev) (.k1 t_.pf (by kernel_rfl) (by kernel_rfl))
   ·cases h
  ·cases h
 ·cases h
def zmv (a a2 b b2 : Int) : Bool → Res
 | r1 => ([(.one (.pv (.bool r1)))], [], [])
noncomputable def zgk (a a2 b b2 : Int) : Option (Bool) :=
 bif (decide ((a : Int) < b)) then
  some true
 else
  bif (decide ((a : Int) = b)) then
   some (decide ((a2 : Int) < b2))
  else
   some false
theorem zhK (a a2 b b2 : Int) (r_ : Bool) (h : zgk a a2 b b2 = some r_) : Runs Tryz.prog 69 [(.agg [(.pv (.int .i64 a)), (.pv (.int .u64 a2))]), (.agg [(.pv (.int .i64 b)), (.pv (.int .u64 b2))])] [] [] (zmv a a2 b b2 r_) := by
 unfold zgk at h
 rcases zaj h with ⟨h1, h⟩ | ⟨h1, h⟩
 ·have h := zaf h
  subst h
  have t_ := tT h1 <| tN
  exact zag (C := cfg) (sc := t_.ev) (.k0 t_.pf (by kernel_rfl))
 ·rcases zaj h with ⟨h2, h⟩ | ⟨h2, h⟩
  ·have h := zaf h
   subst h
   have t_ := tF h1 <| tT h2 <| tN
   exact zag (C := cfg) (sc := t_.ev) (.k0 t_.pf (by kernel_rfl))
  ·have h := zaf h
   subst h
   have t_ := tF h1 <| tF h2 <| tN
   exact zag (C := cfg) (sc := t_.ev) (.k0 t_.pf (by kernel_rfl))
def zmo (no n n2 : Int) (r : List zab) (l : List Int) (r2 : List zac) : Int × List zab → Res
 | (r1, r3) => ([(.one (.pv (.int .i64 r1)))], [[(.pv (.int .i64 n)), (.pv (.int .u64 n2)), (.pv (.recs 4 (List.map zab.pv r3) false)), (.pv (.ints .i64 l false)), (.pv (.recs 2 (List.map zac.pv r2) false))]], [])
def zfc (no : Int) (r : List zab) (n n2 n3 : Int) (r2 : List zab) (l : List Int) (r3 : List zac) : Int → St
 | n4 => ⟨[(0, (.av (.one (.ref 0 0)))), (1, (.av (.one (.pv (.int .u64 no))))), (10, (.av (.one (.pv (.recs 4 (List.map zab.pv r) false))))), (11, (.av (.one (.pv (.int .i64 n))))), (12, (.av (.one (.pv (.int .i64 n4)))))], [(0, [(.pv (.int .i64 n2)), (.pv (.int .u64 n3)), (.pv (.recs 4 (List.map zab.pv r2) false)), (.pv (.ints .i64 l false)), (.pv (.recs 2 (List.map zac.pv r3) false))])], []⟩
def zel (no : Int) (r : List zab) (n n2 n3 : Int) (r2 : List zab) (l : List Int) (r3 : List zac) : (List zab) ⊕ (Unit) → Ex × St
 | .inl r1 => (.ret, ⟨[(4, (.av (.one (.pv (.int .i64 0)))))], [(0, [(.pv (.int .i64 n2)), (.pv (.int .u64 n3)), (.own 0 0 ((List.map zab.pv r1)).length false), (.pv (.ints .i64 l false)), (.pv (.recs 2 (List.map zac.pv r3) false))])], [(0, (.live (.recs 4 (List.map zab.pv r1))))]⟩)
 | .inr _ => ((.exit 0), ⟨[], [(0, [(.pv (.int .i64 n2)), (.pv (.int .u64 n3)), (.pv (.recs 4 (List.map zab.pv r2) false)), (.pv (.ints .i64 l false)), (.pv (.recs 2 (List.map zac.pv r3) false))])], []⟩)
noncomputable def zci (no : Int) (r : List zab) (n n2 n3 : Int) (r2 : List zab) (l : List Int) (r3 : List zac) : Int → Option ((Int) ⊕ ((List zab) ⊕ (Unit)))
 | n4 =>
 bif (decide ((n4 : Int) < n)) then
  bif decide ((0 : Int) ≤ n4) && decide ((n4 : Int) < (((List.map zab.pv r)).length : Int)) then
  (r[(n4).toNat]?).bind fun e_ => match e_ with
  | .mk n5 n6 n7 t =>
  bif (decide ((n5 : Int) = no)) then
   bif decide ((0 : Int) ≤ (iadd .i64 n4 1)) && decide (((iadd .i64 n4 1) : Int) ≤ (((List.map zab.pv r2)).length : Int)) && decide (((((List.map zab.pv r2)).length : Int) : Int) ≤ (((List.map zab.pv r2)).length : Int)) && decide (((((List.map zab.pv r2)).length : Int) : Int) = (((List.map zab.pv r2)).length : Int)) then
   bif decide ((0 : Int) ≤ 0) && decide ((0 : Int) ≤ n4) && decide ((n4 : Int) ≤ (((List.map zab.pv r2)).length : Int)) && decide ((n4 : Int) = n4) then
   bif Nat.beq ((List.take (n4 - 0).toNat (List.map zab.pv r2))).length 0 then
    bif fits ((([] : List (List PV)) ++ (List.take ((((List.map zab.pv r2)).length : Int) - (iadd .i64 n4 1)).toNat (List.drop ((iadd .i64 n4 1)).toNat (List.map zab.pv r2))))).length then
    some (.inr (.inl ([] ++ (List.take ((((List.map zab.pv r2)).length : Int) - (iadd .i64 n4 1)).toNat (List.drop ((iadd .i64 n4 1)).toNat r2)))))
    else none
   else
    bif fits ((([] : List (List PV)) ++ (List.take (n4 - 0).toNat (List.map zab.pv r2)))).length then
    bif fits (((([] : List (List PV)) ++ (List.take (n4 - 0).toNat (List.map zab.pv r2))) ++ (List.take ((((List.map zab.pv r2)).length : Int) - (iadd .i64 n4 1)).toNat (List.drop ((iadd .i64 n4 1)).toNat (List.map zab.pv r2))))).length then
    some (.inr (.inl (([] ++ (List.take (n4 - 0).toNat r2)) ++ (List.take ((((List.map zab.pv r2)).length : Int) - (iadd .i64 n4 1)).toNat (List.drop ((iadd .i64 n4 1)).toNat r2)))))
    else none
    else none
   else none
   else none
  else
   some (.inl (iadd .i64 n4 1))
  else none
 else
  some (.inr (.inr ()))
theorem zkU (no : Int) (r : List zab) (n n2 n3 : Int) (r2 : List zab) (l : List Int) (r3 : List zac) (n4 : Int) (z_ : (Int) ⊕ ((List zab) ⊕ (Unit))) (h : zci no r n n2 n3 r2 l r3 n4 = some z_) : zbQ Tryz.prog cfg 31 1 (zbe Tryz.prog 31 0) (zfc no r n n2 n3 r2 l r3) (zel no r n n2 n3 r2 l r3) n4 z_ := by
 rcases zaj h with ⟨h1, h⟩ | ⟨h1, h⟩
 ·obtain ⟨h2, h⟩ := zar h
  obtain ⟨⟨n5, n6, n7, t⟩, h3, h⟩ := zae h
  rcases zaj h with ⟨h4, h⟩ | ⟨h4, h⟩
  ·obtain ⟨h5, h⟩ := zar h
   obtain ⟨h6, h⟩ := zar h
   rcases zaj h with ⟨h7, h⟩ | ⟨h7, h⟩
   ·obtain ⟨h8, h⟩ := zar h
    have h := zaf h
    subst h
    have t_ := tT h1 <| tO h2 <| tE (.el [(.int .u64 n5), (.int .i64 n6), (.int .i64 n7), (zah.pv t)]) <| tO (zdi (f := zab.pv) h3) <| tT h4 <| tO h5 <| tO h6 <| tO h5 <| tO h6 <| tO h6 <| tO h5 <| tT h7 <| tO h6 <| tO h5 <| tO h5 <| tT h7 <| tO (rfl : true = true) <| tO h8 <| tN
    exact ⟨t_.ev, ⟨[(4, (.av (.one (.pv (.int .i64 0)))))], [(0, [(.pv (.int .i64 n2)), (.pv (.int .u64 n3)), (.own 0 0 ((([] : List (List PV)) ++ (List.take ((((List.map zab.pv r2)).length : Int) - (iadd .i64 n4 1)).toNat (List.drop ((iadd .i64 n4 1)).toNat (List.map zab.pv r2))))).length false), (.pv (.ints .i64 l false)), (.pv (.recs 2 (List.map zac.pv r3) false))])], [(0, (.live (.recs 4 (([] : List (List PV)) ++ (List.take ((((List.map zab.pv r2)).length : Int) - (iadd .i64 n4 1)).toNat (List.drop ((iadd .i64 n4 1)).toNat (List.map zab.pv r2)))))))]⟩, .k1 t_.pf (by kernel_rfl) (by kernel_rfl), ⟨⟨⟨_, rfl, .eq rfl⟩, trivial⟩, ⟨⟨rfl, ⟨.eq rfl, .eq rfl, .own (by first | rfl | (simp only [List.take_length]; done) | (simp; done) | (simp only [List.map_take, List.map_drop, List.map_append, List.take_length, List.nil_append]; done) | (simp only [List.length_map, List.take_length, List.length_append, List.drop_zero, List.map_append, List.map_take, List.map_drop, List.map_replicate, List.map_cons, List.map_nil, List.append_nil, List.nil_append]; done)), .eq rfl, .eq rfl, trivial⟩⟩, trivial⟩, ⟨⟨rfl, .recs (.app (.nil) (.eq (by first | rfl | (simp only [List.take_length]; done) | (simp; done) | (simp only [List.map_take, List.map_drop, List.map_append, List.take_length, List.nil_append]; done) | (simp only [List.length_map, List.take_length, List.length_append, List.drop_zero, List.map_append, List.map_take, List.map_drop, List.map_replicate, List.map_cons, List.map_nil, List.append_nil, List.nil_append]; done))))⟩, trivial⟩⟩⟩
   ·obtain ⟨h8, h⟩ := zar h
    obtain ⟨h9, h⟩ := zar h
    have h := zaf h
    subst h
    have t_ := tT h1 <| tO h2 <| tE (.el [(.int .u64 n5), (.int .i64 n6), (.int .i64 n7), (zah.pv t)]) <| tO (zdi (f := zab.pv) h3) <| tT h4 <| tO h5 <| tO h6 <| tO h5 <| tO h6 <| tO h6 <| tO h5 <| tF (zbc h7) <| tO h8 <| tO h6 <| tO h5 <| tO h5 <| tF (zbc h7) <| tO h8 <| tO (show (Nat.beq ((([] : List (List PV)) ++ (List.take (n4 - 0).toNat (List.map zab.pv r2)))).length ((([] : List (List PV)) ++ (List.take (n4 - 0).toNat (List.map zab.pv r2)))).length) = true from Nat.beq_refl _) <| tO h9 <| tN
    exact ⟨t_.ev, ⟨[(4, (.av (.one (.pv (.int .i64 0)))))], [(0, [(.pv (.int .i64 n2)), (.pv (.int .u64 n3)), (.own 0 0 (((([] : List (List PV)) ++ (List.take (n4 - 0).toNat (List.map zab.pv r2))) ++ (List.take ((((List.map zab.pv r2)).length : Int) - (iadd .i64 n4 1)).toNat (List.drop ((iadd .i64 n4 1)).toNat (List.map zab.pv r2))))).length false), (.pv (.ints .i64 l false)), (.pv (.recs 2 (List.map zac.pv r3) false))])], [(0, (.live (.recs 4 ((([] : List (List PV)) ++ (List.take (n4 - 0).toNat (List.map zab.pv r2))) ++ (List.take ((((List.map zab.pv r2)).length : Int) - (iadd .i64 n4 1)).toNat (List.drop ((iadd .i64 n4 1)).toNat (List.map zab.pv r2)))))))]⟩, .k1 t_.pf (by kernel_rfl) (by kernel_rfl), ⟨⟨⟨_, rfl, .eq rfl⟩, trivial⟩, ⟨⟨rfl, ⟨.eq rfl, .eq rfl, .own (by first | rfl | (simp only [List.take_length]; done) | (simp; done) | (simp only [List.map_take, List.map_drop, List.map_append, List.take_length, List.nil_append]; done) | (simp only [List.length_map, List.take_length, List.length_append, List.drop_zero, List.map_append, List.map_take, List.map_drop, List.map_replicate, List.map_cons, List.map_nil, List.append_nil, List.nil_append]; done)), .eq rfl, .eq rfl, trivial⟩⟩, trivial⟩, ⟨⟨rfl, .recs (.app (.app (.nil) (.eq (by first | rfl | (simp only [List.take_length]; done) | (simp; done) | (simp only [List.map_take, List.map_drop, List.map_append, List.take_length, List.nil_append]; done) | (simp only [List.length_map, List.take_length, List.length_append, List.drop_zero, List.map_append, List.map_take, List.map_drop, List.map_replicate, List.map_cons, List.map_nil, List.append_nil, List.nil_append]; done)))) (.eq (by first | rfl | (simp only [List.take_length]; done) | (simp; done) | (simp only [List.map_take, List.map_drop, List.map_append, List.take_length, List.nil_append]; done) | (simp only [List.length_map, List.take_length, List.length_append, List.drop_zero, List.map_append, List.map_take, List.map_drop, List.map_replicate, List.map_cons, List.map_nil, List.append_nil, List.nil_append]; done))))⟩, trivial⟩⟩⟩
  ·have h := zaf h
   subst h
   have t_ := tT h1 <| tO h2 <| tE (.el [(.int .u64 n5), (.int .i64 n6), (.int .i64 n7), (zah.pv t)]) <| tO (zdi (f := zab.pv) h3) <| tF h4 <| tN
   exact ⟨t_.ev, zfc no r n n2 n3 r2 l r3 (iadd .i64 n4 1), .k0 t_.pf (by kernel_rfl), .same (by kernel_rfl)⟩
 ·have h := zaf h
  subst h
  have t_ := tF h1 <| tN
  exact ⟨t_.ev, ⟨[(13, (.av (.one (.pv (.bool false))))), (0, (.av (.one (.ref 0 0)))), (1, (.av (.one (.pv (.int .u64 no))))), (10, (.av (.one (.pv (.recs 4 (List.map zab.pv r) false))))), (11, (.av (.one (.pv (.int .i64 n))))), (12, (.av (.one (.pv (.int .i64 n4))))), (13, (.av (.one (.pv (.bool (decide ((n4 : Int) < n)))))))], [(0, [(.pv (.int .i64 n2)), (.pv (.int .u64 n3)), (.pv (.recs 4 (List.map zab.pv r2) false)), (.pv (.ints .i64 l false)), (.pv (.recs 2 (List.map zac.pv r3) false))])], []⟩, .k0 t_.pf (by kernel_rfl), ⟨trivial, ⟨⟨rfl, ⟨.eq rfl, .eq rfl, .eq rfl, .eq rfl, .eq rfl, trivial⟩⟩, trivial⟩, trivial⟩⟩
theorem zgc (no : Int) (r : List zab) (n n2 n3 : Int) (r2 : List zab) (l : List Int) (r3 : List zac) (s_ : Int) (r_ : (List zab) ⊕ (Unit)) (h : runL (zci no r n n2 n3 r2 l r3) s_ = some r_) : zbK Tryz.prog (lEnv Tryz.prog cfg 31 1).nt 1 (.loop (zbe Tryz.prog 31 0)) (zfc no r n n2 n3 r2 l r3 s_) (zel no r n n2 n3 r2 l r3 r_).1 (zel no r n n2 n3 r2 l r3 r_).2 :=
 zbA h (zkU no r n n2 n3 r2 l r3) (by intro r_; rcases r_ with r1 | _ <;> simp [zel])
noncomputable def zeG (no n n2 : Int) (r : List zab) (l : List Int) (r2 : List zac) : Option (Int × List zab) :=
 (runL (zci no r (((List.map zab.pv r)).length : Int) n n2 r l r2) 0).bind fun z_ => match z_ with
 | .inl r3 =>
  some (0, (List.take ((List.map zab.pv r3)).length r3))
 | .inr _ =>
  some (2, r)
theorem zhI (no n n2 : Int) (r : List zab) (l : List Int) (r2 : List zac) (r_ : Int × List zab) (h : zeG no n n2 r l r2 = some r_) : Runs Tryz.prog 31 [(.one (.ref 0 0)), (.one (.pv (.int .u64 no)))] [[(.pv (.int .i64 n)), (.pv (.int .u64 n2)), (.pv (.recs 4 (List.map zab.pv r) false)), (.pv (.ints .i64 l false)), (.pv (.recs 2 (List.map zac.pv r2) false))]] [] (zmo no n n2 r l r2 r_) := by
 unfold zeG at h
 obtain ⟨z_, h1, h⟩ := zae h
 rcases z_ with r3 | _
 ·have h := zaf h
  subst h
  have t_ := tL (zgc no r (((List.map zab.pv r)).length : Int) n n2 r l r2 _ _ h1) <| tN
  exact Runs.out (Runs.shut (zag (C := cfg) (res := ([(.one (.pv (.int .i64 0)))], [[(.pv (.int .i64 n)), (.pv (.int .u64 n2)), (.own 0 0 ((List.map zab.pv r3)).length false), (.pv (.ints .i64 l false)), (.pv (.recs 2 (List.map zac.pv r2) false))]], [(.recs 4 (List.map zab.pv r3))])) (sc := t_.ev) (.k0 t_.pf (by kernel_rfl))) (res' := ([(.one (.pv (.int .i64 0)))], [[(.pv (.int .i64 n)), (.pv (.int .u64 n2)), (.pv (.recs 4 (List.take ((List.map zab.pv r3)).length (List.map zab.pv r3)) false)), (.pv (.ints .i64 l false)), (.pv (.recs 2 (List.map zac.pv r2) false))]], [])) [0] (by kernel_rfl)) ⟨.eq rfl, trivial⟩ ⟨⟨.eq rfl, .eq rfl, .pv (.recsT (.eq (by first | rfl | (simp only [List.take_length]; done) | (simp; done) | (simp only [List.map_take, List.map_drop, List.map_append, List.take_length, List.nil_append]; done) | (simp only [List.length_map, List.take_length, List.length_append, List.drop_zero, List.map_append, List.map_take, List.map_drop, List.map_replicate, List.map_cons, List.map_nil, List.append_nil, List.nil_append]; done)))), .eq rfl, .eq rfl, trivial⟩, trivial⟩ trivial rfl
 ·have h := zaf h
  subst h
  have t_ := tL (zgc no r (((List.map zab.pv r)).length : Int) n n2 r l r2 _ _ h1) <| tN
  exact zag (C := cfg) (sc := t_.ev) (.k0 t_.pf (by kernel_rfl))
def zms (g g2 g3 : Int) (g4 : zah) (n n2 : Int) (r : List zab) (l : List Int) (r2 : List zac) : Int × List zac → Res
 | (r1, r3) => ([(.one (.pv (.int .i64 r1)))], [[(.pv (.int .i64 n)), (.pv (.int .u64 n2)), (.pv (.recs 4 (List.map zab.pv r) false)), (.pv (.ints .i64 l false)), (.pv (.recs 2 (List.map zac.pv r3) false))]], [])
def zmu (m m2 n n2 : Int) (r : List zab) (l : List Int) (r2 : List zac) : Bool → Res
 | r1 => ([(.one (.pv (.bool r1)))], [[(.pv (.int .i64 n)), (.pv (.int .u64 n2)), (.pv (.recs 4 (List.map zab.pv r) false)), (.pv (.ints .i64 l false)), (.pv (.recs 2 (List.map zac.pv r2) false))]], [])
end Go.Proofs.YtjjcmgdgifcmgaaGreat
