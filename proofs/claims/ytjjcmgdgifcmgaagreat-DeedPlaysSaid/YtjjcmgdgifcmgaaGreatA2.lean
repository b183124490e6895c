/- What functions compute, and that they do. -/
import Derived.Test.YtjjcmgdgifcmgaaGreatSo
set_option linter.unusedVariables false
set_option linter.unusedSimpArgs false
set_option maxRecDepth 100000
namespace Go.Proofs.YtjjcmgdgifcmgaaGreat
open Go.Ev
def kl15_DeedPlays_out (self : Int) (acts : List E_kl15_Act) : Bool → Res
 | r1 => ([(.one (.pv (.bool r1)))], [], [])
def kl15_awake_out : Bool → Res
 | r1 => ([(.one (.pv (.bool r1)))], [], [])
def deed_New_out (self : Int) : Unit → Res
 | _ => ([(.one (.ref 0 0))], [[(.pv (.int .i64 self)), (.pv (.int .u64 0)), (.pv .nils), (.mp 1), (.mp 2)], [(.maph (.int .i64) false (List.map M_int_int.pv []) [])], [(.maph (.st [.i64, .u64]) false (List.map M_deed_Mark_int.pv []) [])]], [])
noncomputable def deed_New (self : Int) : Option (Unit) :=
 some ()
theorem deed_New_runs (self : Int) (r_ : Unit) (h : deed_New self = some r_) : Runs Tryz.prog 8 [(.one (.pv (.int .i64 self)))] [] [] (deed_New_out self r_) := by
 unfold deed_New at h
 have h := some_of h
 subst h
 have t_ := tN
 have e_ : Runs Tryz.prog 8 [(.one (.pv (.int .i64 self)))] [] [] ([(.one (.ref 0 0))], [[(.pv (.int .i64 self)), (.pv (.int .u64 0)), (.pv .nils), (.mp 1), (.mp 2)], [(.maph (.int .i64) false [] [])], [(.maph (.st [.i64, .u64]) false [] [])]], []) := runs_of (C := cfg) (objs := []) (sc := t_.ev) (.k0 t_.pf (by kernel_rfl))
 exact e_.out ⟨.eq rfl, trivial⟩ ⟨⟨.eq rfl, .eq rfl, .eq rfl, .eq rfl, .eq rfl, trivial⟩, ⟨.maph (WkEs.to (WkEs.refl _) (by first | rfl | (simp only [M_deed_Mark_int.set, M_int_int.set]; done) | (simp only [M_deed_Mark_int.set, M_int_int.set, kset, kdel]; rfl))), trivial⟩, ⟨.maph (WkEs.to (WkEs.refl _) (by first | rfl | (simp only [M_deed_Mark_int.set, M_int_int.set]; done) | (simp only [M_deed_Mark_int.set, M_int_int.set, kset, kdel]; rfl))), trivial⟩, trivial⟩ trivial rfl
def id_One_out : Unit → Res
 | _ => ([(.agg [(.pv (.bool true)), (.pv (T_id_halves.pv T_id_halves.nil))])], [], [])
noncomputable def id_One : Option (Unit) :=
 some ()
theorem id_One_runs (r_ : Unit) (h : id_One = some r_) : Runs Tryz.prog 16 [] [] [] (id_One_out r_) := by
 unfold id_One at h
 have h := some_of h
 subst h
 have t_ := tN
 have e_ : Runs Tryz.prog 16 [] [] [] ([(.agg [(.pv (.bool true)), (.pv .nilp)])], [], []) := runs_of (C := cfg) (objs := []) (sc := t_.ev) (.k0 t_.pf (by kernel_rfl))
 exact e_.out ⟨⟨.eq rfl, .eq rfl, trivial⟩, trivial⟩ trivial trivial rfl
def deed_Deeds_Give_out (to : Int) (share : Bool) (share2 : T_id_halves) (n : Int) (n2 : Int) (m : List (Int × Int)) (m2 : List ((Int × Int) × Int)) : (Int) ⊕ (Int × Int × List E_deed_Gift × List (Int × Int)) → Res
 | .inl r1 => ([(.agg [(.pv (.int .u64 0)), (.pv (.int .i64 0)), (.pv (.int .i64 0)), (.pv (.bool false)), (.pv (T_id_halves.pv T_id_halves.nil))]), (.one (.pv (.int .i64 r1)))], [[(.pv (.int .i64 n)), (.pv (.int .u64 n2)), (.pv .nils), (.mp 1), (.mp 2)], [(.maph (.int .i64) false (List.map M_int_int.pv m) [])], [(.maph (.st [.i64, .u64]) false (List.map M_deed_Mark_int.pv m2) [])]], [])
 | .inr (r1, r2, r3, r4) => ([(.agg [(.pv (.int .u64 r1)), (.pv (.int .i64 n)), (.pv (.int .i64 to)), (.pv (.bool share)), (.pv (T_id_halves.pv share2))]), (.one (.pv (.int .i64 0)))], [[(.pv (.int .i64 n)), (.pv (.int .u64 r2)), (.pv (.recs 5 (List.map E_deed_Gift.pv r3) false)), (.mp 1), (.mp 2)], [(.maph (.int .i64) false (List.map M_int_int.pv r4) [])], [(.maph (.st [.i64, .u64]) false (List.map M_deed_Mark_int.pv m2) [])]], [])
def deed_Deeds_Last_out (n : Int) (n2 : Int) (m : List (Int × Int)) (m2 : List ((Int × Int) × Int)) : Unit → Res
 | _ => ([(.one (.pv (.int .u64 n2)))], [[(.pv (.int .i64 n)), (.pv (.int .u64 n2)), (.pv .nils), (.mp 1), (.mp 2)], [(.maph (.int .i64) false (List.map M_int_int.pv m) [])], [(.maph (.st [.i64, .u64]) false (List.map M_deed_Mark_int.pv m2) [])]], [])
noncomputable def deed_Deeds_Last (n : Int) (n2 : Int) (m : List (Int × Int)) (m2 : List ((Int × Int) × Int)) : Option (Unit) :=
 some ()
theorem deed_Deeds_Last_runs (n : Int) (n2 : Int) (m : List (Int × Int)) (m2 : List ((Int × Int) × Int)) (r_ : Unit) (h : deed_Deeds_Last n n2 m m2 = some r_) : Runs Tryz.prog 23 [(.one (.ref 0 0))] [[(.pv (.int .i64 n)), (.pv (.int .u64 n2)), (.pv .nils), (.mp 1), (.mp 2)], [(.maph (.int .i64) false (List.map M_int_int.pv m) [])], [(.maph (.st [.i64, .u64]) false (List.map M_deed_Mark_int.pv m2) [])]] [] (deed_Deeds_Last_out n n2 m m2 r_) := by
 unfold deed_Deeds_Last at h
 have h := some_of h
 subst h
 have t_ := tF (rfl : false = false) <| tN
 exact runs_of (C := cfg) (objs := [[(.pv (.int .i64 n)), (.pv (.int .u64 n2)), (.pv .nils), (.mp 1), (.mp 2)], [(.maph (.int .i64) false (List.map M_int_int.pv m) [])], [(.maph (.st [.i64, .u64]) false (List.map M_deed_Mark_int.pv m2) [])]]) (sc := t_.ev) (.k0 t_.pf (by kernel_rfl))
def deed_Deeds_Self_out (n : Int) (n2 : Int) (m : List (Int × Int)) (m2 : List ((Int × Int) × Int)) : Unit → Res
 | _ => ([(.one (.pv (.int .i64 n)))], [[(.pv (.int .i64 n)), (.pv (.int .u64 n2)), (.pv .nils), (.mp 1), (.mp 2)], [(.maph (.int .i64) false (List.map M_int_int.pv m) [])], [(.maph (.st [.i64, .u64]) false (List.map M_deed_Mark_int.pv m2) [])]], [])
noncomputable def deed_Deeds_Self (n : Int) (n2 : Int) (m : List (Int × Int)) (m2 : List ((Int × Int) × Int)) : Option (Unit) :=
 some ()
theorem deed_Deeds_Self_runs (n : Int) (n2 : Int) (m : List (Int × Int)) (m2 : List ((Int × Int) × Int)) (r_ : Unit) (h : deed_Deeds_Self n n2 m m2 = some r_) : Runs Tryz.prog 22 [(.one (.ref 0 0))] [[(.pv (.int .i64 n)), (.pv (.int .u64 n2)), (.pv .nils), (.mp 1), (.mp 2)], [(.maph (.int .i64) false (List.map M_int_int.pv m) [])], [(.maph (.st [.i64, .u64]) false (List.map M_deed_Mark_int.pv m2) [])]] [] (deed_Deeds_Self_out n n2 m m2 r_) := by
 unfold deed_Deeds_Self at h
 have h := some_of h
 subst h
 have t_ := tF (rfl : false = false) <| tN
 exact runs_of (C := cfg) (objs := [[(.pv (.int .i64 n)), (.pv (.int .u64 n2)), (.pv .nils), (.mp 1), (.mp 2)], [(.maph (.int .i64) false (List.map M_int_int.pv m) [])], [(.maph (.st [.i64, .u64]) false (List.map M_deed_Mark_int.pv m2) [])]]) (sc := t_.ev) (.k0 t_.pf (by kernel_rfl))
def deed_Deeds_To_out (to : Int) (n : Int) (n2 : Int) (m : List (Int × Int)) (m2 : List ((Int × Int) × Int)) : Int × Int × Int × Bool × T_id_halves × Bool → Res
 | (r1, r2, r3, r4, r5, r6) => ([(.agg [(.pv (.int .u64 r1)), (.pv (.int .i64 r2)), (.pv (.int .i64 r3)), (.pv (.bool r4)), (.pv (T_id_halves.pv r5))]), (.one (.pv (.bool r6)))], [[(.pv (.int .i64 n)), (.pv (.int .u64 n2)), (.pv .nils), (.mp 1), (.mp 2)], [(.maph (.int .i64) false (List.map M_int_int.pv m) [])], [(.maph (.st [.i64, .u64]) false (List.map M_deed_Mark_int.pv m2) [])]], [])
def deed_Deeds_Pending_out (n : Int) (n2 : Int) (m : List (Int × Int)) (m2 : List ((Int × Int) × Int)) : Unit → Res
 | _ => ([(.one (.own 0 0 ((List.map E_deed_Gift.pv [])).length false))], [[(.pv (.int .i64 n)), (.pv (.int .u64 n2)), (.pv .nils), (.mp 1), (.mp 2)], [(.maph (.int .i64) false (List.map M_int_int.pv m) [])], [(.maph (.st [.i64, .u64]) false (List.map M_deed_Mark_int.pv m2) [])]], [(.recs 5 (List.map E_deed_Gift.pv []))])
noncomputable def deed_Deeds_Pending (n : Int) (n2 : Int) (m : List (Int × Int)) (m2 : List ((Int × Int) × Int)) : Option (Unit) :=
 (slices_Clone_deed_Gift []).bind fun _ =>
 some ()
theorem deed_Deeds_Pending_runs (n : Int) (n2 : Int) (m : List (Int × Int)) (m2 : List ((Int × Int) × Int)) (r_ : Unit) (h : deed_Deeds_Pending n n2 m m2 = some r_) : Runs Tryz.prog 25 [(.one (.ref 0 0))] [[(.pv (.int .i64 n)), (.pv (.int .u64 n2)), (.pv .nils), (.mp 1), (.mp 2)], [(.maph (.int .i64) false (List.map M_int_int.pv m) [])], [(.maph (.st [.i64, .u64]) false (List.map M_deed_Mark_int.pv m2) [])]] [] (deed_Deeds_Pending_out n n2 m m2 r_) := by
 unfold deed_Deeds_Pending at h
 obtain ⟨_, h1, h⟩ := bind_of h
 have h := some_of h
 subst h
 have t_ := tF (rfl : false = false) <| tR (Runs.coe (as' := [(.one (.pv .nils))]) (objs' := []) (rows' := []) (slices_Clone_deed_Gift_runs [] _ h1) ⟨.pv (.nilsR), trivial⟩ trivial trivial) <| tN
 exact runs_of (C := cfg) (objs := [[(.pv (.int .i64 n)), (.pv (.int .u64 n2)), (.pv .nils), (.mp 1), (.mp 2)], [(.maph (.int .i64) false (List.map M_int_int.pv m) [])], [(.maph (.st [.i64, .u64]) false (List.map M_deed_Mark_int.pv m2) [])]]) (sc := t_.ev) (.k0 t_.pf (by kernel_rfl))
def deed_Deeds_To_L0_st (to : Int) (n : Int) (n2 : Int) (n3 : Int) (m : List (Int × Int)) (m2 : List ((Int × Int) × Int)) : Int → St
 | n4 => ⟨[(1, (.av (.one (.pv (.int .i64 to))))), (4, (.av (.one (.ref 3 0)))), (9, (.av (.one (.own 0 0 ((List.map E_deed_Gift.pv [])).length false)))), (10, (.av (.one (.pv (.int .i64 n))))), (11, (.av (.one (.pv (.int .i64 n4)))))], [(0, [(.pv (.int .i64 n2)), (.pv (.int .u64 n3)), (.pv .nils), (.mp 1), (.mp 2)]), (1, [(.maph (.int .i64) false (List.map M_int_int.pv m) [])]), (2, [(.maph (.st [.i64, .u64]) false (List.map M_deed_Mark_int.pv m2) [])]), (3, [(.pv (.int .u64 0)), (.pv (.int .i64 0)), (.pv (.int .i64 0)), (.pv (.bool false)), (.pv (T_id_halves.pv T_id_halves.nil))])], [(0, (.live (.recs 5 (List.map E_deed_Gift.pv []))))]⟩
def deed_Deeds_To_L0_ex (to : Int) (n : Int) (n2 : Int) (n3 : Int) (m : List (Int × Int)) (m2 : List ((Int × Int) × Int)) : (Int × Int × Int × Bool × T_id_halves) ⊕ (Unit) → Ex × St
 | .inl (r1, r2, r3, r4, r5) => (.ret, ⟨[(4, (.av (.one (.ref 3 0)))), (5, (.av (.one (.pv (.bool true)))))], [(0, [(.pv (.int .i64 n2)), (.pv (.int .u64 n3)), (.pv .nils), (.mp 1), (.mp 2)]), (1, [(.maph (.int .i64) false (List.map M_int_int.pv m) [])]), (2, [(.maph (.st [.i64, .u64]) false (List.map M_deed_Mark_int.pv m2) [])]), (3, [(.pv (.int .u64 r1)), (.pv (.int .i64 r2)), (.pv (.int .i64 r3)), (.pv (.bool r4)), (.pv (T_id_halves.pv r5))])], []⟩)
 | .inr _ => ((.exit 0), ⟨[(4, (.av (.one (.ref 3 0))))], [(0, [(.pv (.int .i64 n2)), (.pv (.int .u64 n3)), (.pv .nils), (.mp 1), (.mp 2)]), (1, [(.maph (.int .i64) false (List.map M_int_int.pv m) [])]), (2, [(.maph (.st [.i64, .u64]) false (List.map M_deed_Mark_int.pv m2) [])]), (3, [(.pv (.int .u64 0)), (.pv (.int .i64 0)), (.pv (.int .i64 0)), (.pv (.bool false)), (.pv (T_id_halves.pv T_id_halves.nil))])], [(0, (.live (.recs 5 (List.map E_deed_Gift.pv []))))]⟩)
noncomputable def deed_Deeds_To_L0_step (to : Int) (n : Int) (n2 : Int) (n3 : Int) (m : List (Int × Int)) (m2 : List ((Int × Int) × Int)) : Int → Option ((Int) ⊕ ((Int × Int × Int × Bool × T_id_halves) ⊕ (Unit)))
 | n4 =>
 bif (decide ((n4 : Int) < n)) then
  bif decide ((0 : Int) ≤ n4) && decide ((n4 : Int) < (((List.map E_deed_Gift.pv [])).length : Int)) then
  (([] : List E_deed_Gift)[(0 + (n4).toNat)]?).bind fun e_ => match e_ with
  | .mk n5 n6 n7 b t =>
  bif (decide ((n7 : Int) = to)) then
   some (.inr (.inl (n5, n6, n7, b, t)))
  else
   some (.inl (iadd .i64 n4 1))
  else none
 else
  some (.inr (.inr ()))
theorem deed_Deeds_To_L0_ok (to : Int) (n : Int) (n2 : Int) (n3 : Int) (m : List (Int × Int)) (m2 : List ((Int × Int) × Int)) (n4 : Int) (z_ : (Int) ⊕ ((Int × Int × Int × Bool × T_id_halves) ⊕ (Unit))) (h : deed_Deeds_To_L0_step to n n2 n3 m m2 n4 = some z_) : RoundOk Tryz.prog cfg 17 3 (loopAt Tryz.prog 17 0) (deed_Deeds_To_L0_st to n n2 n3 m m2) (deed_Deeds_To_L0_ex to n n2 n3 m m2) n4 z_ := by
 rcases cond_of h with ⟨h1, h⟩ | ⟨h1, h⟩
 ·obtain ⟨h2, h⟩ := need_of h
  obtain ⟨⟨n5, n6, n7, b, t⟩, h3, h⟩ := bind_of h
  rcases cond_of h with ⟨h4, h⟩ | ⟨h4, h⟩
  ·have h := some_of h
   subst h
   have t_ := tT h1 <| tO h2 <| tE (.el [(.int .u64 n5), (.int .i64 n6), (.int .i64 n7), (.bool b), (T_id_halves.pv t)]) <| tO (el_of (f := E_deed_Gift.pv) h3) <| tT h4 <| tN
   exact ⟨t_.ev, (deed_Deeds_To_L0_ex to n n2 n3 m m2 (.inl (n5, n6, n7, b, t))).2, .k0 t_.pf (by kernel_rfl), .same (by kernel_rfl)⟩
  ·have h := some_of h
   subst h
   have t_ := tT h1 <| tO h2 <| tE (.el [(.int .u64 n5), (.int .i64 n6), (.int .i64 n7), (.bool b), (T_id_halves.pv t)]) <| tO (el_of (f := E_deed_Gift.pv) h3) <| tF h4 <| tN
   exact ⟨t_.ev, deed_Deeds_To_L0_st to n n2 n3 m m2 (iadd .i64 n4 1), .k0 t_.pf (by kernel_rfl), .same (by kernel_rfl)⟩
 ·have h := some_of h
  subst h
  have t_ := tF h1 <| tN
  exact ⟨t_.ev, ⟨[(12, (.av (.one (.pv (.bool false))))), (1, (.av (.one (.pv (.int .i64 to))))), (4, (.av (.one (.ref 3 0)))), (9, (.av (.one (.own 0 0 ((List.map E_deed_Gift.pv [])).length false)))), (10, (.av (.one (.pv (.int .i64 n))))), (11, (.av (.one (.pv (.int .i64 n4))))), (12, (.av (.one (.pv (.bool (decide ((n4 : Int) < n)))))))], [(0, [(.pv (.int .i64 n2)), (.pv (.int .u64 n3)), (.pv .nils), (.mp 1), (.mp 2)]), (1, [(.maph (.int .i64) false (List.map M_int_int.pv m) [])]), (2, [(.maph (.st [.i64, .u64]) false (List.map M_deed_Mark_int.pv m2) [])]), (3, [(.pv (.int .u64 0)), (.pv (.int .i64 0)), (.pv (.int .i64 0)), (.pv (.bool false)), (.pv (T_id_halves.pv T_id_halves.nil))])], [(0, (.live (.recs 5 (List.map E_deed_Gift.pv []))))]⟩, .k0 t_.pf (by kernel_rfl), ⟨⟨⟨_, rfl, .eq rfl⟩, trivial⟩, ⟨⟨rfl, ⟨.eq rfl, .eq rfl, .eq rfl, .eq rfl, .eq rfl, trivial⟩⟩, ⟨rfl, ⟨.eq rfl, trivial⟩⟩, ⟨rfl, ⟨.eq rfl, trivial⟩⟩, ⟨rfl, ⟨.eq rfl, .eq rfl, .eq rfl, .eq rfl, .eq rfl, trivial⟩⟩, trivial⟩, ⟨⟨rfl, .eq rfl⟩, trivial⟩⟩⟩
theorem deed_Deeds_To_L0_runs (to : Int) (n : Int) (n2 : Int) (n3 : Int) (m : List (Int × Int)) (m2 : List ((Int × Int) × Int)) (s_ : Int) (r_ : (Int × Int × Int × Bool × T_id_halves) ⊕ (Unit)) (h : runL (deed_Deeds_To_L0_step to n n2 n3 m m2) s_ = some r_) : LRuns Tryz.prog (lEnv Tryz.prog cfg 17 3).nt 3 (.loop (loopAt Tryz.prog 17 0)) (deed_Deeds_To_L0_st to n n2 n3 m m2 s_) (deed_Deeds_To_L0_ex to n n2 n3 m m2 r_).1 (deed_Deeds_To_L0_ex to n n2 n3 m m2 r_).2 :=
 loop_run h (deed_Deeds_To_L0_ok to n n2 n3 m m2) (by intro r_; rcases r_ with ⟨r1, r2, r3, r4, r5⟩ | _ <;> simp [deed_Deeds_To_L0_ex])
noncomputable def deed_Deeds_To (to : Int) (n : Int) (n2 : Int) (m : List (Int × Int)) (m2 : List ((Int × Int) × Int)) : Option (Int × Int × Int × Bool × T_id_halves × Bool) :=
 (deed_Deeds_Pending n n2 m m2).bind fun _ =>
 (runL (deed_Deeds_To_L0_step to (((List.map E_deed_Gift.pv [])).length : Int) n n2 m m2) 0).bind fun z_ => match z_ with
 | .inl (n3, n4, n5, b, t) =>
  some (n3, n4, n5, b, t, true)
 | .inr _ =>
  some (0, 0, 0, false, T_id_halves.nil, false)
theorem deed_Deeds_To_runs (to : Int) (n : Int) (n2 : Int) (m : List (Int × Int)) (m2 : List ((Int × Int) × Int)) (r_ : Int × Int × Int × Bool × T_id_halves × Bool) (h : deed_Deeds_To to n n2 m m2 = some r_) : Runs Tryz.prog 17 [(.one (.ref 0 0)), (.one (.pv (.int .i64 to)))] [[(.pv (.int .i64 n)), (.pv (.int .u64 n2)), (.pv .nils), (.mp 1), (.mp 2)], [(.maph (.int .i64) false (List.map M_int_int.pv m) [])], [(.maph (.st [.i64, .u64]) false (List.map M_deed_Mark_int.pv m2) [])]] [] (deed_Deeds_To_out to n n2 m m2 r_) := by
 unfold deed_Deeds_To at h
 obtain ⟨_, h1, h⟩ := bind_of h
 obtain ⟨z_, h2, h⟩ := bind_of h
 rcases z_ with ⟨n3, n4, n5, b, t⟩ | _
 ·have h := some_of h
  subst h
  have t_ := tR (deed_Deeds_Pending_runs n n2 m m2 _ h1) <| tL (LRuns.coe (s0 := ⟨[(1, (.av (.one (.pv (.int .i64 to))))), (4, (.av (.one (.ref 3 0)))), (9, (.av (.one (.own 0 0 ((List.map E_deed_Gift.pv [])).length false)))), (10, (.av (.one (.pv (.int .i64 (((List.map E_deed_Gift.pv [])).length : Int)))))), (11, (.av (.one (.pv (.int .i64 0)))))], [(0, [(.pv (.int .i64 n)), (.pv (.int .u64 n2)), (.pv .nils), (.mp 1), (.mp 2)]), (1, [(.maph (.int .i64) false (List.map M_int_int.pv m) [])]), (2, [(.maph (.st [.i64, .u64]) false (List.map M_deed_Mark_int.pv m2) [])]), (3, [(.pv (.int .u64 0)), (.pv (.int .i64 0)), (.pv (.int .i64 0)), (.pv (.bool false)), (.pv .nilp)])], [(0, (.live (.recs 5 (List.map E_deed_Gift.pv []))))]⟩) (deed_Deeds_To_L0_runs to (((List.map E_deed_Gift.pv [])).length : Int) n n2 m m2 _ _ h2) ⟨⟨⟨_, rfl, .eq rfl⟩, ⟨_, rfl, .eq rfl⟩, ⟨_, rfl, .eq rfl⟩, ⟨_, rfl, .eq rfl⟩, ⟨_, rfl, .eq rfl⟩, trivial⟩, ⟨⟨rfl, ⟨.eq rfl, .eq rfl, .eq rfl, .eq rfl, .eq rfl, trivial⟩⟩, ⟨rfl, ⟨.eq rfl, trivial⟩⟩, ⟨rfl, ⟨.eq rfl, trivial⟩⟩, ⟨rfl, ⟨.eq rfl, .eq rfl, .eq rfl, .eq rfl, .eq rfl, trivial⟩⟩, trivial⟩, ⟨⟨rfl, .eq rfl⟩, trivial⟩⟩) <| tN
  exact runs_of (C := cfg) (objs := [[(.pv (.int .i64 n)), (.pv (.int .u64 n2)), (.pv .nils), (.mp 1), (.mp 2)], [(.maph (.int .i64) false (List.map M_int_int.pv m) [])], [(.maph (.st [.i64, .u64]) false (List.map M_deed_Mark_int.pv m2) [])]]) (sc := t_.ev) (.k0 t_.pf (by kernel_rfl))
 ·have h := some_of h
  subst h
  have t_ := tR (deed_Deeds_Pending_runs n n2 m m2 _ h1) <| tL (LRuns.coe (s0 := ⟨[(1, (.av (.one (.pv (.int .i64 to))))), (4, (.av (.one (.ref 3 0)))), (9, (.av (.one (.own 0 0 ((List.map E_deed_Gift.pv [])).length false)))), (10, (.av (.one (.pv (.int .i64 (((List.map E_deed_Gift.pv [])).length : Int)))))), (11, (.av (.one (.pv (.int .i64 0)))))], [(0, [(.pv (.int .i64 n)), (.pv (.int .u64 n2)), (.pv .nils), (.mp 1), (.mp 2)]), (1, [(.maph (.int .i64) false (List.map M_int_int.pv m) [])]), (2, [(.maph (.st [.i64, .u64]) false (List.map M_deed_Mark_int.pv m2) [])]), (3, [(.pv (.int .u64 0)), (.pv (.int .i64 0)), (.pv (.int .i64 0)), (.pv (.bool false)), (.pv .nilp)])], [(0, (.live (.recs 5 (List.map E_deed_Gift.pv []))))]⟩) (deed_Deeds_To_L0_runs to (((List.map E_deed_Gift.pv [])).length : Int) n n2 m m2 _ _ h2) ⟨⟨⟨_, rfl, .eq rfl⟩, ⟨_, rfl, .eq rfl⟩, ⟨_, rfl, .eq rfl⟩, ⟨_, rfl, .eq rfl⟩, ⟨_, rfl, .eq rfl⟩, trivial⟩, ⟨⟨rfl, ⟨.eq rfl, .eq rfl, .eq rfl, .eq rfl, .eq rfl, trivial⟩⟩, ⟨rfl, ⟨.eq rfl, trivial⟩⟩, ⟨rfl, ⟨.eq rfl, trivial⟩⟩, ⟨rfl, ⟨.eq rfl, .eq rfl, .eq rfl, .eq rfl, .eq rfl, trivial⟩⟩, trivial⟩, ⟨⟨rfl, .eq rfl⟩, trivial⟩⟩) <| tN
  have e_ : Runs Tryz.prog 17 [(.one (.ref 0 0)), (.one (.pv (.int .i64 to)))] [[(.pv (.int .i64 n)), (.pv (.int .u64 n2)), (.pv .nils), (.mp 1), (.mp 2)], [(.maph (.int .i64) false (List.map M_int_int.pv m) [])], [(.maph (.st [.i64, .u64]) false (List.map M_deed_Mark_int.pv m2) [])]] [] ([(.agg [(.pv (.int .u64 0)), (.pv (.int .i64 0)), (.pv (.int .i64 0)), (.pv (.bool false)), (.pv .nilp)]), (.one (.pv (.bool false)))], [[(.pv (.int .i64 n)), (.pv (.int .u64 n2)), (.pv .nils), (.mp 1), (.mp 2)], [(.maph (.int .i64) false (List.map M_int_int.pv m) [])], [(.maph (.st [.i64, .u64]) false (List.map M_deed_Mark_int.pv m2) [])]], []) := runs_of (C := cfg) (objs := [[(.pv (.int .i64 n)), (.pv (.int .u64 n2)), (.pv .nils), (.mp 1), (.mp 2)], [(.maph (.int .i64) false (List.map M_int_int.pv m) [])], [(.maph (.st [.i64, .u64]) false (List.map M_deed_Mark_int.pv m2) [])]]) (sc := t_.ev) (.k0 t_.pf (by kernel_rfl))
  exact e_.out ⟨⟨.eq rfl, .eq rfl, .eq rfl, .eq rfl, .eq rfl, trivial⟩, .eq rfl, trivial⟩ ⟨⟨.eq rfl, .eq rfl, .eq rfl, .eq rfl, .eq rfl, trivial⟩, ⟨.eq rfl, trivial⟩, ⟨.eq rfl, trivial⟩, trivial⟩ trivial rfl
def deed_Gift_Right_out (g : Int) (g2 : Int) (g3 : Int) (g4 : Bool) (g5 : T_id_halves) : Bool → Res
 | r1 => ([(.one (.pv (.bool r1)))], [], [])
def deed_node_out (n : Int) : Bool → Res
 | r1 => ([(.one (.pv (.bool r1)))], [], [])
noncomputable def deed_node (n : Int) : Option (Bool) :=
 bif (decide ((0 : Int) ≤ n)) then
  some (decide ((n : Int) < 12))
 else
  some false
theorem deed_node_runs (n : Int) (r_ : Bool) (h : deed_node n = some r_) : Runs Tryz.prog 81 [(.one (.pv (.int .i64 n)))] [] [] (deed_node_out n r_) := by
 unfold deed_node at h
 rcases cond_of h with ⟨h1, h⟩ | ⟨h1, h⟩
 ·have h := some_of h
  subst h
  have t_ := tT h1 <| tN
  exact runs_of (C := cfg) (objs := []) (sc := t_.ev) (.k0 t_.pf (by kernel_rfl))
 ·have h := some_of h
  subst h
  have t_ := tF h1 <| tN
  exact runs_of (C := cfg) (objs := []) (sc := t_.ev) (.k0 t_.pf (by kernel_rfl))
def id_ID_IsZero_out (i : Bool) (i2 : T_id_halves) : Bool → Res
 | r1 => ([(.one (.pv (.bool r1)))], [], [])
noncomputable def id_ID_IsZero (i : Bool) (i2 : T_id_halves) : Option (Bool) :=
 bif i then
  some false
 else
  match i2 with
  | .nil =>
   some true
  | .mk b t b2 t2 =>
   some false
theorem id_ID_IsZero_runs (i : Bool) (i2 : T_id_halves) (r_ : Bool) (h : id_ID_IsZero i i2 = some r_) : Runs Tryz.prog 15 [(.agg [(.pv (.bool i)), (.pv (T_id_halves.pv i2))])] [] [] (id_ID_IsZero_out i i2 r_) := by
 unfold id_ID_IsZero at h
 rcases cond_of h with ⟨h1, h⟩ | ⟨h1, h⟩
 ·have h := some_of h
  subst h
  have t_ := tF (not_of2 h1) <| tN
  exact runs_of (C := cfg) (objs := []) (sc := t_.ev) (.k0 t_.pf (by kernel_rfl))
 ·cases i2 with
  | nil =>
   have h := some_of h
   subst h
   have t_ := tT (not_of h1) <| tN
   exact runs_of (C := cfg) (objs := []) (sc := t_.ev) (.k0 t_.pf (by kernel_rfl))
  | mk b t b2 t2 =>
   have h := some_of h
   subst h
   have t_ := tT (not_of h1) <| tN
   exact runs_of (C := cfg) (objs := []) (sc := t_.ev) (.k0 t_.pf (by kernel_rfl))
noncomputable def deed_Gift_Right (g : Int) (g2 : Int) (g3 : Int) (g4 : Bool) (g5 : T_id_halves) : Option (Bool) :=
 bif (decide ((1 : Int) ≤ g)) then
  bif (decide ((g : Int) < 4611686018427387904)) then
   (deed_node g2).bind fun b =>
   bif b then
    (deed_node g3).bind fun b2 =>
    bif b2 then
     bif (decide ((g2 : Int) = g3)) then
      some false
     else
      (id_ID_IsZero g4 g5).bind fun b3 =>
      some (!b3)
    else
     some false
   else
    some false
  else
   some false
 else
  some false
theorem deed_Gift_Right_runs (g : Int) (g2 : Int) (g3 : Int) (g4 : Bool) (g5 : T_id_halves) (r_ : Bool) (h : deed_Gift_Right g g2 g3 g4 g5 = some r_) : Runs Tryz.prog 42 [(.agg [(.pv (.int .u64 g)), (.pv (.int .i64 g2)), (.pv (.int .i64 g3)), (.pv (.bool g4)), (.pv (T_id_halves.pv g5))])] [] [] (deed_Gift_Right_out g g2 g3 g4 g5 r_) := by
 unfold deed_Gift_Right at h
 rcases cond_of h with ⟨h1, h⟩ | ⟨h1, h⟩
 ·rcases cond_of h with ⟨h2, h⟩ | ⟨h2, h⟩
  ·obtain ⟨b, h3, h⟩ := bind_of h
   rcases cond_of h with ⟨h4, h⟩ | ⟨h4, h⟩
   ·obtain ⟨b2, h5, h⟩ := bind_of h
    rcases cond_of h with ⟨h6, h⟩ | ⟨h6, h⟩
    ·rcases cond_of h with ⟨h7, h⟩ | ⟨h7, h⟩
     ·have h := some_of h
      subst h
      have t_ := tT h1 <| tT h2 <| tR (deed_node_runs g2 _ h3) <| tT h4 <| tR (deed_node_runs g3 _ h5) <| tT h6 <| tF (not_of2 h7) <| tN
      exact runs_of (C := cfg) (objs := []) (sc := t_.ev) (.k0 t_.pf (by kernel_rfl))
     ·obtain ⟨b3, h8, h⟩ := bind_of h
      have h := some_of h
      subst h
      have t_ := tT h1 <| tT h2 <| tR (deed_node_runs g2 _ h3) <| tT h4 <| tR (deed_node_runs g3 _ h5) <| tT h6 <| tT (not_of h7) <| tR (id_ID_IsZero_runs g4 g5 _ h8) <| tN
      exact runs_of (C := cfg) (objs := []) (sc := t_.ev) (.k0 t_.pf (by kernel_rfl))
    ·have h := some_of h
     subst h
     have t_ := tT h1 <| tT h2 <| tR (deed_node_runs g2 _ h3) <| tT h4 <| tR (deed_node_runs g3 _ h5) <| tF h6 <| tF (rfl : false = false) <| tN
     exact runs_of (C := cfg) (objs := []) (sc := t_.ev) (.k0 t_.pf (by kernel_rfl))
   ·have h := some_of h
    subst h
    have t_ := tT h1 <| tT h2 <| tR (deed_node_runs g2 _ h3) <| tF h4 <| tF (rfl : false = false) <| tF (rfl : false = false) <| tN
    exact runs_of (C := cfg) (objs := []) (sc := t_.ev) (.k0 t_.pf (by kernel_rfl))
  ·have h := some_of h
   subst h
   have t_ := tT h1 <| tF h2 <| tF (rfl : false = false) <| tF (rfl : false = false) <| tF (rfl : false = false) <| tN
   exact runs_of (C := cfg) (objs := []) (sc := t_.ev) (.k0 t_.pf (by kernel_rfl))
 ·have h := some_of h
  subst h
  have t_ := tF h1 <| tF (rfl : false = false) <| tF (rfl : false = false) <| tF (rfl : false = false) <| tF (rfl : false = false) <| tN
  exact runs_of (C := cfg) (objs := []) (sc := t_.ev) (.k0 t_.pf (by kernel_rfl))
noncomputable def deed_Deeds_Give (to : Int) (share : Bool) (share2 : T_id_halves) (n : Int) (n2 : Int) (m : List (Int × Int)) (m2 : List ((Int × Int) × Int)) : Option ((Int) ⊕ (Int × Int × List E_deed_Gift × List (Int × Int))) :=
 (deed_Deeds_Last n n2 m m2).bind fun _ =>
 (deed_Deeds_Self n n2 m m2).bind fun _ =>
 (deed_Deeds_To to n n2 m m2).bind fun (n3, n4, n5, b, t, b2) =>
 (deed_Gift_Right (iadd .u64 n2 1) n to share share2).bind fun b3 =>
 bif b3 then
  bif b2 then
   some (.inl 14)
  else
   (deed_Deeds_Pending n (iadd .u64 n2 1) m m2).bind fun _ =>
   bif fits (((List.map E_deed_Gift.pv []) ++ ([[(.int .u64 (iadd .u64 n2 1)), (.int .i64 n), (.int .i64 to), (.bool share), (T_id_halves.pv share2)]] : List (List PV)))).length then
   match (mget to m) with
   | .some n6 =>
    some (.inr ((iadd .u64 n2 1), (iadd .u64 n2 1), (List.take (((List.map E_deed_Gift.pv []) ++ ([[(.int .u64 (iadd .u64 n2 1)), (.int .i64 n), (.int .i64 to), (.bool share), (T_id_halves.pv share2)]] : List (List PV)))).length ([] ++ [(E_deed_Gift.mk (iadd .u64 n2 1) n to share share2)])), (mset to (iadd .i64 n6 1) m)))
   | .none =>
    some (.inr ((iadd .u64 n2 1), (iadd .u64 n2 1), (List.take (((List.map E_deed_Gift.pv []) ++ ([[(.int .u64 (iadd .u64 n2 1)), (.int .i64 n), (.int .i64 to), (.bool share), (T_id_halves.pv share2)]] : List (List PV)))).length ([] ++ [(E_deed_Gift.mk (iadd .u64 n2 1) n to share share2)])), (mset to 1 m)))
   else none
 else
  some (.inl 1)
theorem deed_Deeds_Give_runs (to : Int) (share : Bool) (share2 : T_id_halves) (n : Int) (n2 : Int) (m : List (Int × Int)) (m2 : List ((Int × Int) × Int)) (r_ : (Int) ⊕ (Int × Int × List E_deed_Gift × List (Int × Int))) (h : deed_Deeds_Give to share share2 n n2 m m2 = some r_) : Runs Tryz.prog 14 [(.one (.ref 0 0)), (.one (.pv (.int .i64 to))), (.agg [(.pv (.bool share)), (.pv (T_id_halves.pv share2))])] [[(.pv (.int .i64 n)), (.pv (.int .u64 n2)), (.pv .nils), (.mp 1), (.mp 2)], [(.maph (.int .i64) false (List.map M_int_int.pv m) [])], [(.maph (.st [.i64, .u64]) false (List.map M_deed_Mark_int.pv m2) [])]] [] (deed_Deeds_Give_out to share share2 n n2 m m2 r_) := by
 unfold deed_Deeds_Give at h
 obtain ⟨_, h1, h⟩ := bind_of h
 obtain ⟨_, h2, h⟩ := bind_of h
 obtain ⟨⟨n3, n4, n5, b, t, b2⟩, h3, h⟩ := bind_of h
 obtain ⟨b3, h4, h⟩ := bind_of h
 have q_4 := (deed_Gift_Right_runs (iadd .u64 n2 1) n to share share2 _ h4)
 have p4_ := fun {sc_ : List Ev} {Q_ : Prop} (t_ : Tell sc_ Q_) => tR (deed_Deeds_Last_runs n n2 m m2 _ h1) <| tR (deed_Deeds_Last_runs n n2 m m2 _ h1) <| tR (deed_Deeds_Last_runs n n2 m m2 _ h1) <| tR (deed_Deeds_Self_runs n n2 m m2 _ h2) <| tR (deed_Deeds_Last_runs n n2 m m2 _ h1) <| tR (deed_Deeds_Self_runs n n2 m m2 _ h2) <| tR (deed_Deeds_Self_runs n n2 m m2 _ h2) <| tR (deed_Deeds_Self_runs n n2 m m2 _ h2) <| tR (deed_Deeds_To_runs to n n2 m m2 _ h3) <| tF (rfl : false = false) <| tR q_4 <| t_
 rcases cond_of h with ⟨h5, h⟩ | ⟨h5, h⟩
 ·rcases cond_of h with ⟨h6, h⟩ | ⟨h6, h⟩
  ·have h := some_of h
   subst h
   have t_ := p4_ <| tF (not_of2 h5) <| tT h6 <| tN
   have e_ : Runs Tryz.prog 14 [(.one (.ref 0 0)), (.one (.pv (.int .i64 to))), (.agg [(.pv (.bool share)), (.pv (T_id_halves.pv share2))])] [[(.pv (.int .i64 n)), (.pv (.int .u64 n2)), (.pv .nils), (.mp 1), (.mp 2)], [(.maph (.int .i64) false (List.map M_int_int.pv m) [])], [(.maph (.st [.i64, .u64]) false (List.map M_deed_Mark_int.pv m2) [])]] [] ([(.agg [(.pv (.int .u64 0)), (.pv (.int .i64 0)), (.pv (.int .i64 0)), (.pv (.bool false)), (.pv .nilp)]), (.one (.pv (.int .i64 14)))], [[(.pv (.int .i64 n)), (.pv (.int .u64 n2)), (.pv .nils), (.mp 1), (.mp 2)], [(.maph (.int .i64) false (List.map M_int_int.pv m) [])], [(.maph (.st [.i64, .u64]) false (List.map M_deed_Mark_int.pv m2) [])]], []) := runs_of (C := cfg) (objs := [[(.pv (.int .i64 n)), (.pv (.int .u64 n2)), (.pv .nils), (.mp 1), (.mp 2)], [(.maph (.int .i64) false (List.map M_int_int.pv m) [])], [(.maph (.st [.i64, .u64]) false (List.map M_deed_Mark_int.pv m2) [])]]) (sc := t_.ev) (.k1 t_.pf (by kernel_rfl) (by kernel_rfl))
   exact e_.out ⟨⟨.eq rfl, .eq rfl, .eq rfl, .eq rfl, .eq rfl, trivial⟩, .eq rfl, trivial⟩ ⟨⟨.eq rfl, .eq rfl, .eq rfl, .eq rfl, .eq rfl, trivial⟩, ⟨.eq rfl, trivial⟩, ⟨.eq rfl, trivial⟩, trivial⟩ trivial rfl
  ·obtain ⟨_, h7, h⟩ := bind_of h
   have q_7 := (deed_Deeds_Pending_runs n (iadd .u64 n2 1) m m2 _ h7)
   obtain ⟨h8, h⟩ := need_of h
   cases h9 : (mget to m) with
   | some n6 =>
    simp only [h9] at h
    have h := some_of h
    subst h
    have t_ := p4_ <| tF (not_of2 h5) <| tF h6 <| tR q_7 <| tR q_7 <| tR q_7 <| tO (show (Nat.beq ((List.map E_deed_Gift.pv [])).length ((List.map E_deed_Gift.pv [])).length) = true from Nat.beq_refl _) <| tO h8 <| tT (show kget [(.int .i64 to)] (List.map M_int_int.pv m) = some [(.int .i64 n6)] from by first | (simp only [M_deed_Mark_int.set, M_int_int.set, M_deed_Mark_int.get, M_int_int.get, h9, Option.map_some, Option.map_none]; done) | (simp only [M_deed_Mark_int.set, M_int_int.set, M_deed_Mark_int.get, M_int_int.get, h9, Option.map_some, Option.map_none]; rfl) | (rw [← List.map_nil]; simp only [M_deed_Mark_int.set, M_int_int.set, M_deed_Mark_int.get, M_int_int.get, h9, Option.map_some, Option.map_none]; rfl)) <| tE (.el [(.int .i64 n6)]) <| tN
    have e_ : Runs Tryz.prog 14 [(.one (.ref 0 0)), (.one (.pv (.int .i64 to))), (.agg [(.pv (.bool share)), (.pv (T_id_halves.pv share2))])] [[(.pv (.int .i64 n)), (.pv (.int .u64 n2)), (.pv .nils), (.mp 1), (.mp 2)], [(.maph (.int .i64) false (List.map M_int_int.pv m) [])], [(.maph (.st [.i64, .u64]) false (List.map M_deed_Mark_int.pv m2) [])]] [] ([(.agg [(.pv (.int .u64 (iadd .u64 n2 1))), (.pv (.int .i64 n)), (.pv (.int .i64 to)), (.pv (.bool share)), (.pv (T_id_halves.pv share2))]), (.one (.pv (.int .i64 0)))], [[(.pv (.int .i64 n)), (.pv (.int .u64 (iadd .u64 n2 1))), (.own 0 0 (((List.map E_deed_Gift.pv []) ++ ([[(.int .u64 (iadd .u64 n2 1)), (.int .i64 n), (.int .i64 to), (.bool share), (T_id_halves.pv share2)]] : List (List PV)))).length false), (.mp 1), (.mp 2)], [(.maph (.int .i64) false (kset [(.int .i64 to)] [(.int .i64 (iadd .i64 n6 1))] (List.map M_int_int.pv m)) [])], [(.maph (.st [.i64, .u64]) false (List.map M_deed_Mark_int.pv m2) [])]], [(.recs 5 ((List.map E_deed_Gift.pv []) ++ ([[(.int .u64 (iadd .u64 n2 1)), (.int .i64 n), (.int .i64 to), (.bool share), (T_id_halves.pv share2)]] : List (List PV))))]) := runs_of (C := cfg) (objs := [[(.pv (.int .i64 n)), (.pv (.int .u64 n2)), (.pv .nils), (.mp 1), (.mp 2)], [(.maph (.int .i64) false (List.map M_int_int.pv m) [])], [(.maph (.st [.i64, .u64]) false (List.map M_deed_Mark_int.pv m2) [])]]) (sc := t_.ev) (.k1 t_.pf (by kernel_rfl) (by kernel_rfl))
    have e_ := e_.shut (res' := ([(.agg [(.pv (.int .u64 (iadd .u64 n2 1))), (.pv (.int .i64 n)), (.pv (.int .i64 to)), (.pv (.bool share)), (.pv (T_id_halves.pv share2))]), (.one (.pv (.int .i64 0)))], [[(.pv (.int .i64 n)), (.pv (.int .u64 (iadd .u64 n2 1))), (.pv (.recs 5 (List.take (((List.map E_deed_Gift.pv []) ++ ([[(.int .u64 (iadd .u64 n2 1)), (.int .i64 n), (.int .i64 to), (.bool share), (T_id_halves.pv share2)]] : List (List PV)))).length ((List.map E_deed_Gift.pv []) ++ ([[(.int .u64 (iadd .u64 n2 1)), (.int .i64 n), (.int .i64 to), (.bool share), (T_id_halves.pv share2)]] : List (List PV)))) false)), (.mp 1), (.mp 2)], [(.maph (.int .i64) false (kset [(.int .i64 to)] [(.int .i64 (iadd .i64 n6 1))] (List.map M_int_int.pv m)) [])], [(.maph (.st [.i64, .u64]) false (List.map M_deed_Mark_int.pv m2) [])]], [])) [0] (by kernel_rfl)
    exact e_.out ⟨⟨.eq rfl, .eq rfl, .eq rfl, .eq rfl, .eq rfl, trivial⟩, .eq rfl, trivial⟩ ⟨⟨.eq rfl, .eq rfl, .pv (.recsT (.takeN (by first | rfl | (simp only [List.take_length]; done) | (simp; done)) (.app (.eq rfl) (.cons (.cons (.eq rfl) (.cons (.eq rfl) (.cons (.eq rfl) (.cons (.eq rfl) (.cons (.eq rfl) (.nil)))))) (.nil))))), .eq rfl, .eq rfl, trivial⟩, ⟨.maph (WkEs.to (WkEs.set (.cons (.eq rfl) (.nil)) (WkEs.refl _)) (by first | rfl | (simp only [M_deed_Mark_int.set, M_int_int.set]; done) | (simp only [M_deed_Mark_int.set, M_int_int.set, kset, kdel]; rfl))), trivial⟩, ⟨.eq rfl, trivial⟩, trivial⟩ trivial rfl
   | none =>
    simp only [h9] at h
    have h := some_of h
    subst h
    have t_ := p4_ <| tF (not_of2 h5) <| tF h6 <| tR q_7 <| tR q_7 <| tR q_7 <| tO (show (Nat.beq ((List.map E_deed_Gift.pv [])).length ((List.map E_deed_Gift.pv [])).length) = true from Nat.beq_refl _) <| tO h8 <| tF (show kget [(.int .i64 to)] (List.map M_int_int.pv m) = none from by first | (simp only [M_deed_Mark_int.set, M_int_int.set, M_deed_Mark_int.get, M_int_int.get, h9, Option.map_some, Option.map_none]; done) | (simp only [M_deed_Mark_int.set, M_int_int.set, M_deed_Mark_int.get, M_int_int.get, h9, Option.map_some, Option.map_none]; rfl) | (rw [← List.map_nil]; simp only [M_deed_Mark_int.set, M_int_int.set, M_deed_Mark_int.get, M_int_int.get, h9, Option.map_some, Option.map_none]; rfl)) <| tN
    have e_ : Runs Tryz.prog 14 [(.one (.ref 0 0)), (.one (.pv (.int .i64 to))), (.agg [(.pv (.bool share)), (.pv (T_id_halves.pv share2))])] [[(.pv (.int .i64 n)), (.pv (.int .u64 n2)), (.pv .nils), (.mp 1), (.mp 2)], [(.maph (.int .i64) false (List.map M_int_int.pv m) [])], [(.maph (.st [.i64, .u64]) false (List.map M_deed_Mark_int.pv m2) [])]] [] ([(.agg [(.pv (.int .u64 (iadd .u64 n2 1))), (.pv (.int .i64 n)), (.pv (.int .i64 to)), (.pv (.bool share)), (.pv (T_id_halves.pv share2))]), (.one (.pv (.int .i64 0)))], [[(.pv (.int .i64 n)), (.pv (.int .u64 (iadd .u64 n2 1))), (.own 0 0 (((List.map E_deed_Gift.pv []) ++ ([[(.int .u64 (iadd .u64 n2 1)), (.int .i64 n), (.int .i64 to), (.bool share), (T_id_halves.pv share2)]] : List (List PV)))).length false), (.mp 1), (.mp 2)], [(.maph (.int .i64) false (kset [(.int .i64 to)] [(.int .i64 1)] (List.map M_int_int.pv m)) [])], [(.maph (.st [.i64, .u64]) false (List.map M_deed_Mark_int.pv m2) [])]], [(.recs 5 ((List.map E_deed_Gift.pv []) ++ ([[(.int .u64 (iadd .u64 n2 1)), (.int .i64 n), (.int .i64 to), (.bool share), (T_id_halves.pv share2)]] : List (List PV))))]) := runs_of (C := cfg) (objs := [[(.pv (.int .i64 n)), (.pv (.int .u64 n2)), (.pv .nils), (.mp 1), (.mp 2)], [(.maph (.int .i64) false (List.map M_int_int.pv m) [])], [(.maph (.st [.i64, .u64]) false (List.map M_deed_Mark_int.pv m2) [])]]) (sc := t_.ev) (.k1 t_.pf (by kernel_rfl) (by kernel_rfl))
    have e_ := e_.shut (res' := ([(.agg [(.pv (.int .u64 (iadd .u64 n2 1))), (.pv (.int .i64 n)), (.pv (.int .i64 to)), (.pv (.bool share)), (.pv (T_id_halves.pv share2))]), (.one (.pv (.int .i64 0)))], [[(.pv (.int .i64 n)), (.pv (.int .u64 (iadd .u64 n2 1))), (.pv (.recs 5 (List.take (((List.map E_deed_Gift.pv []) ++ ([[(.int .u64 (iadd .u64 n2 1)), (.int .i64 n), (.int .i64 to), (.bool share), (T_id_halves.pv share2)]] : List (List PV)))).length ((List.map E_deed_Gift.pv []) ++ ([[(.int .u64 (iadd .u64 n2 1)), (.int .i64 n), (.int .i64 to), (.bool share), (T_id_halves.pv share2)]] : List (List PV)))) false)), (.mp 1), (.mp 2)], [(.maph (.int .i64) false (kset [(.int .i64 to)] [(.int .i64 1)] (List.map M_int_int.pv m)) [])], [(.maph (.st [.i64, .u64]) false (List.map M_deed_Mark_int.pv m2) [])]], [])) [0] (by kernel_rfl)
    exact e_.out ⟨⟨.eq rfl, .eq rfl, .eq rfl, .eq rfl, .eq rfl, trivial⟩, .eq rfl, trivial⟩ ⟨⟨.eq rfl, .eq rfl, .pv (.recsT (.takeN (by first | rfl | (simp only [List.take_length]; done) | (simp; done)) (.app (.eq rfl) (.cons (.cons (.eq rfl) (.cons (.eq rfl) (.cons (.eq rfl) (.cons (.eq rfl) (.cons (.eq rfl) (.nil)))))) (.nil))))), .eq rfl, .eq rfl, trivial⟩, ⟨.maph (WkEs.to (WkEs.set (.cons (.eq rfl) (.nil)) (WkEs.refl _)) (by first | rfl | (simp only [M_deed_Mark_int.set, M_int_int.set]; done) | (simp only [M_deed_Mark_int.set, M_int_int.set, kset, kdel]; rfl))), trivial⟩, ⟨.eq rfl, trivial⟩, trivial⟩ trivial rfl
 ·have h := some_of h
  subst h
  have t_ := p4_ <| tT (not_of h5) <| tN
  have e_ : Runs Tryz.prog 14 [(.one (.ref 0 0)), (.one (.pv (.int .i64 to))), (.agg [(.pv (.bool share)), (.pv (T_id_halves.pv share2))])] [[(.pv (.int .i64 n)), (.pv (.int .u64 n2)), (.pv .nils), (.mp 1), (.mp 2)], [(.maph (.int .i64) false (List.map M_int_int.pv m) [])], [(.maph (.st [.i64, .u64]) false (List.map M_deed_Mark_int.pv m2) [])]] [] ([(.agg [(.pv (.int .u64 0)), (.pv (.int .i64 0)), (.pv (.int .i64 0)), (.pv (.bool false)), (.pv .nilp)]), (.one (.pv (.int .i64 1)))], [[(.pv (.int .i64 n)), (.pv (.int .u64 n2)), (.pv .nils), (.mp 1), (.mp 2)], [(.maph (.int .i64) false (List.map M_int_int.pv m) [])], [(.maph (.st [.i64, .u64]) false (List.map M_deed_Mark_int.pv m2) [])]], []) := runs_of (C := cfg) (objs := [[(.pv (.int .i64 n)), (.pv (.int .u64 n2)), (.pv .nils), (.mp 1), (.mp 2)], [(.maph (.int .i64) false (List.map M_int_int.pv m) [])], [(.maph (.st [.i64, .u64]) false (List.map M_deed_Mark_int.pv m2) [])]]) (sc := t_.ev) (.k1 t_.pf (by kernel_rfl) (by kernel_rfl))
  exact e_.out ⟨⟨.eq rfl, .eq rfl, .eq rfl, .eq rfl, .eq rfl, trivial⟩, .eq rfl, trivial⟩ ⟨⟨.eq rfl, .eq rfl, .eq rfl, .eq rfl, .eq rfl, trivial⟩, ⟨.eq rfl, trivial⟩, ⟨.eq rfl, trivial⟩, trivial⟩ trivial rfl
def deed_Deeds_Done_out (no : Int) (n : Int) (n2 : Int) (r : List E_deed_Gift) (m : List (Int × Int)) (m2 : List ((Int × Int) × Int)) : Int × List E_deed_Gift → Res
 | (r1, r2) => ([(.one (.pv (.int .i64 r1)))], [[(.pv (.int .i64 n)), (.pv (.int .u64 n2)), (.pv (.recs 5 (List.map E_deed_Gift.pv r2) false)), (.mp 1), (.mp 2)], [(.maph (.int .i64) false (List.map M_int_int.pv m) [])], [(.maph (.st [.i64, .u64]) false (List.map M_deed_Mark_int.pv m2) [])]], [])
def deed_Deeds_Pending_2_out (n : Int) (n2 : Int) (r : List E_deed_Gift) (m : List (Int × Int)) (m2 : List ((Int × Int) × Int)) : Unit → Res
 | _ => ([(.one (.own 0 0 ((List.map E_deed_Gift.pv r)).length false))], [[(.pv (.int .i64 n)), (.pv (.int .u64 n2)), (.pv (.recs 5 (List.map E_deed_Gift.pv r) false)), (.mp 1), (.mp 2)], [(.maph (.int .i64) false (List.map M_int_int.pv m) [])], [(.maph (.st [.i64, .u64]) false (List.map M_deed_Mark_int.pv m2) [])]], [(.recs 5 (List.map E_deed_Gift.pv r))])
noncomputable def deed_Deeds_Pending_2 (n : Int) (n2 : Int) (r : List E_deed_Gift) (m : List (Int × Int)) (m2 : List ((Int × Int) × Int)) : Option (Unit) :=
 (slices_Clone_deed_Gift r).bind fun _ =>
 some ()
theorem deed_Deeds_Pending_2_runs (n : Int) (n2 : Int) (r : List E_deed_Gift) (m : List (Int × Int)) (m2 : List ((Int × Int) × Int)) (r_ : Unit) (h : deed_Deeds_Pending_2 n n2 r m m2 = some r_) : Runs Tryz.prog 25 [(.one (.ref 0 0))] [[(.pv (.int .i64 n)), (.pv (.int .u64 n2)), (.pv (.recs 5 (List.map E_deed_Gift.pv r) false)), (.mp 1), (.mp 2)], [(.maph (.int .i64) false (List.map M_int_int.pv m) [])], [(.maph (.st [.i64, .u64]) false (List.map M_deed_Mark_int.pv m2) [])]] [] (deed_Deeds_Pending_2_out n n2 r m m2 r_) := by
 unfold deed_Deeds_Pending_2 at h
 obtain ⟨_, h1, h⟩ := bind_of h
 have h := some_of h
 subst h
 have t_ := tF (rfl : false = false) <| tR (slices_Clone_deed_Gift_runs r _ h1) <| tN
 exact runs_of (C := cfg) (objs := [[(.pv (.int .i64 n)), (.pv (.int .u64 n2)), (.pv (.recs 5 (List.map E_deed_Gift.pv r) false)), (.mp 1), (.mp 2)], [(.maph (.int .i64) false (List.map M_int_int.pv m) [])], [(.maph (.st [.i64, .u64]) false (List.map M_deed_Mark_int.pv m2) [])]]) (sc := t_.ev) (.k0 t_.pf (by kernel_rfl))
def slices_IndexFunc_deed_Gift_out (s : List E_deed_Gift) (n : Int) : Int → Res
 | r1 => ([(.one (.pv (.int .i64 r1)))], [[(.pv (.int .u64 n))]], [])
def deed_Deeds_Done_1_out (g : Int) (g2 : Int) (g3 : Int) (g4 : Bool) (g5 : T_id_halves) (n : Int) : Bool → Res
 | r1 => ([(.one (.pv (.bool r1)))], [[(.pv (.int .u64 n))]], [])
noncomputable def deed_Deeds_Done_1 (g : Int) (g2 : Int) (g3 : Int) (g4 : Bool) (g5 : T_id_halves) (n : Int) : Option (Bool) :=
 some (decide ((g : Int) = n))
theorem deed_Deeds_Done_1_runs (g : Int) (g2 : Int) (g3 : Int) (g4 : Bool) (g5 : T_id_halves) (n : Int) (r_ : Bool) (h : deed_Deeds_Done_1 g g2 g3 g4 g5 n = some r_) : Runs Tryz.prog 44 [(.agg [(.pv (.int .u64 g)), (.pv (.int .i64 g2)), (.pv (.int .i64 g3)), (.pv (.bool g4)), (.pv (T_id_halves.pv g5))]), (.one (.ref 0 0))] [[(.pv (.int .u64 n))]] [] (deed_Deeds_Done_1_out g g2 g3 g4 g5 n r_) := by
 unfold deed_Deeds_Done_1 at h
 have h := some_of h
 subst h
 have t_ := tN
 exact runs_of (C := cfg) (objs := [[(.pv (.int .u64 n))]]) (sc := t_.ev) (.k0 t_.pf (by kernel_rfl))
def slices_IndexFunc_deed_Gift_L0_st (s : List E_deed_Gift) (n : Int) (n2 : Int) : Int → St
 | n3 => ⟨[(0, (.av (.one (.bor (.recs 5 (List.map E_deed_Gift.pv s) false))))), (1, (.av (.one (.fn 44 [(.ref 0 0)])))), (7, (.av (.one (.pv (.int .i64 n))))), (8, (.av (.one (.pv (.int .i64 n3)))))], [(0, [(.pv (.int .u64 n2))])], []⟩
def slices_IndexFunc_deed_Gift_L0_ex (s : List E_deed_Gift) (n : Int) (n2 : Int) : (Int) ⊕ (Unit) → Ex × St
 | .inl r1 => (.ret, ⟨[(4, (.av (.one (.pv (.int .i64 r1)))))], [(0, [(.pv (.int .u64 n2))])], []⟩)
 | .inr _ => ((.exit 0), ⟨[], [(0, [(.pv (.int .u64 n2))])], []⟩)
noncomputable def slices_IndexFunc_deed_Gift_L0_step (s : List E_deed_Gift) (n : Int) (n2 : Int) : Int → Option ((Int) ⊕ ((Int) ⊕ (Unit)))
 | n3 =>
 bif (decide ((n3 : Int) < n)) then
  bif decide ((0 : Int) ≤ n3) && decide ((n3 : Int) < (((List.map E_deed_Gift.pv s)).length : Int)) then
  (s[(n3).toNat]?).bind fun e_ => match e_ with
  | .mk n4 n5 n6 b t =>
  (deed_Deeds_Done_1 n4 n5 n6 b t n2).bind fun b2 =>
  bif b2 then
   some (.inr (.inl n3))
  else
   some (.inl (iadd .i64 n3 1))
  else none
 else
  some (.inr (.inr ()))
theorem slices_IndexFunc_deed_Gift_L0_ok (s : List E_deed_Gift) (n : Int) (n2 : Int) (n3 : Int) (z_ : (Int) ⊕ ((Int) ⊕ (Unit))) (h : slices_IndexFunc_deed_Gift_L0_step s n n2 n3 = some z_) : RoundOk Tryz.prog cfg 43 1 (loopAt Tryz.prog 43 0) (slices_IndexFunc_deed_Gift_L0_st s n n2) (slices_IndexFunc_deed_Gift_L0_ex s n n2) n3 z_ := by
 rcases cond_of h with ⟨h1, h⟩ | ⟨h1, h⟩
 ·obtain ⟨h2, h⟩ := need_of h
  obtain ⟨⟨n4, n5, n6, b, t⟩, h3, h⟩ := bind_of h
  obtain ⟨b2, h4, h⟩ := bind_of h
  rcases cond_of h with ⟨h5, h⟩ | ⟨h5, h⟩
  ·have h := some_of h
   subst h
   have t_ := tT h1 <| tO h2 <| tE (.el [(.int .u64 n4), (.int .i64 n5), (.int .i64 n6), (.bool b), (T_id_halves.pv t)]) <| tO (el_of (f := E_deed_Gift.pv) h3) <| tR (deed_Deeds_Done_1_runs n4 n5 n6 b t n2 _ h4) <| tT h5 <| tN
   exact ⟨t_.ev, (slices_IndexFunc_deed_Gift_L0_ex s n n2 (.inl n3)).2, .k0 t_.pf (by kernel_rfl), .same (by kernel_rfl)⟩
  ·have h := some_of h
   subst h
   have t_ := tT h1 <| tO h2 <| tE (.el [(.int .u64 n4), (.int .i64 n5), (.int .i64 n6), (.bool b), (T_id_halves.pv t)]) <| tO (el_of (f := E_deed_Gift.pv) h3) <| tR (deed_Deeds_Done_1_runs n4 n5 n6 b t n2 _ h4) <| tF h5 <| tN
   exact ⟨t_.ev, slices_IndexFunc_deed_Gift_L0_st s n n2 (iadd .i64 n3 1), .k0 t_.pf (by kernel_rfl), .same (by kernel_rfl)⟩
 ·have h := some_of h
  subst h
  have t_ := tF h1 <| tN
  exact ⟨t_.ev, ⟨[(9, (.av (.one (.pv (.bool false))))), (0, (.av (.one (.bor (.recs 5 (List.map E_deed_Gift.pv s) false))))), (1, (.av (.one (.fn 44 [(.ref 0 0)])))), (7, (.av (.one (.pv (.int .i64 n))))), (8, (.av (.one (.pv (.int .i64 n3))))), (9, (.av (.one (.pv (.bool (decide ((n3 : Int) < n)))))))], [(0, [(.pv (.int .u64 n2))])], []⟩, .k0 t_.pf (by kernel_rfl), ⟨trivial, ⟨⟨rfl, ⟨.eq rfl, trivial⟩⟩, trivial⟩, trivial⟩⟩
theorem slices_IndexFunc_deed_Gift_L0_runs (s : List E_deed_Gift) (n : Int) (n2 : Int) (s_ : Int) (r_ : (Int) ⊕ (Unit)) (h : runL (slices_IndexFunc_deed_Gift_L0_step s n n2) s_ = some r_) : LRuns Tryz.prog (lEnv Tryz.prog cfg 43 1).nt 1 (.loop (loopAt Tryz.prog 43 0)) (slices_IndexFunc_deed_Gift_L0_st s n n2 s_) (slices_IndexFunc_deed_Gift_L0_ex s n n2 r_).1 (slices_IndexFunc_deed_Gift_L0_ex s n n2 r_).2 :=
 loop_run h (slices_IndexFunc_deed_Gift_L0_ok s n n2) (by intro r_; rcases r_ with r1 | _ <;> simp [slices_IndexFunc_deed_Gift_L0_ex])
noncomputable def slices_IndexFunc_deed_Gift (s : List E_deed_Gift) (n : Int) : Option (Int) :=
 (runL (slices_IndexFunc_deed_Gift_L0_step s (((List.map E_deed_Gift.pv s)).length : Int) n) 0).bind fun z_ => match z_ with
 | .inl n2 =>
  some n2
 | .inr _ =>
  some (-1)
theorem slices_IndexFunc_deed_Gift_runs (s : List E_deed_Gift) (n : Int) (r_ : Int) (h : slices_IndexFunc_deed_Gift s n = some r_) : Runs Tryz.prog 43 [(.one (.bor (.recs 5 (List.map E_deed_Gift.pv s) false))), (.one (.fn 44 [(.ref 0 0)]))] [[(.pv (.int .u64 n))]] [] (slices_IndexFunc_deed_Gift_out s n r_) := by
 unfold slices_IndexFunc_deed_Gift at h
 obtain ⟨z_, h1, h⟩ := bind_of h
 rcases z_ with n2 | _
 ·have h := some_of h
  subst h
  have t_ := tL (slices_IndexFunc_deed_Gift_L0_runs s (((List.map E_deed_Gift.pv s)).length : Int) n _ _ h1) <| tN
  exact runs_of (C := cfg) (objs := [[(.pv (.int .u64 n))]]) (sc := t_.ev) (.k0 t_.pf (by kernel_rfl))
 ·have h := some_of h
  subst h
  have t_ := tL (slices_IndexFunc_deed_Gift_L0_runs s (((List.map E_deed_Gift.pv s)).length : Int) n _ _ h1) <| tN
  exact runs_of (C := cfg) (objs := [[(.pv (.int .u64 n))]]) (sc := t_.ev) (.k0 t_.pf (by kernel_rfl))
noncomputable def deed_Deeds_Done (no : Int) (n : Int) (n2 : Int) (r : List E_deed_Gift) (m : List (Int × Int)) (m2 : List ((Int × Int) × Int)) : Option (Int × List E_deed_Gift) :=
 (deed_Deeds_Pending_2 n n2 r m m2).bind fun _ =>
 (slices_IndexFunc_deed_Gift (List.take ((List.map E_deed_Gift.pv r)).length r) no).bind fun n3 =>
 bif (decide ((n3 : Int) < 0)) then
  some (2, r)
 else
  (slices_Delete_deed_Gift n3 (iadd .i64 n3 1) r).bind fun (k, r2) =>
  some (0, (List.take k r2))
theorem deed_Deeds_Done_runs (no : Int) (n : Int) (n2 : Int) (r : List E_deed_Gift) (m : List (Int × Int)) (m2 : List ((Int × Int) × Int)) (r_ : Int × List E_deed_Gift) (h : deed_Deeds_Done no n n2 r m m2 = some r_) : Runs Tryz.prog 18 [(.one (.ref 0 0)), (.one (.pv (.int .u64 no)))] [[(.pv (.int .i64 n)), (.pv (.int .u64 n2)), (.pv (.recs 5 (List.map E_deed_Gift.pv r) false)), (.mp 1), (.mp 2)], [(.maph (.int .i64) false (List.map M_int_int.pv m) [])], [(.maph (.st [.i64, .u64]) false (List.map M_deed_Mark_int.pv m2) [])]] [] (deed_Deeds_Done_out no n n2 r m m2 r_) := by
 unfold deed_Deeds_Done at h
 obtain ⟨_, h1, h⟩ := bind_of h
 obtain ⟨n3, h2, h⟩ := bind_of h
 have q_2 := (Runs.coe (as' := [(.one (.bor (.recs 5 (List.take ((List.map E_deed_Gift.pv r)).length (List.map E_deed_Gift.pv r)) false))), (.one (.fn 44 [(.ref 0 0)]))]) (objs' := [[(.pv (.int .u64 no))]]) (rows' := []) (slices_IndexFunc_deed_Gift_runs (List.take ((List.map E_deed_Gift.pv r)).length r) no _ h2) ⟨.bor (.recsT (.eq (by first | rfl | (simp only [List.take_length]; done) | (simp; done) | (simp only [List.map_take, List.map_drop, List.map_append, List.take_length, List.nil_append]; done) | (simp only [List.length_map, List.take_length, List.length_append, List.drop_zero, List.map_append, List.map_take, List.map_drop, List.map_replicate, List.map_cons, List.map_nil, List.append_nil, List.nil_append]; done)))), .eq rfl, trivial⟩ ⟨⟨.eq rfl, trivial⟩, trivial⟩ trivial)
 rcases cond_of h with ⟨h3, h⟩ | ⟨h3, h⟩
 ·have h := some_of h
  subst h
  have t_ := tR (deed_Deeds_Pending_2_runs n n2 r m m2 _ h1) <| tR q_2 <| tT h3 <| tN
  exact runs_of (C := cfg) (objs := [[(.pv (.int .i64 n)), (.pv (.int .u64 n2)), (.pv (.recs 5 (List.map E_deed_Gift.pv r) false)), (.mp 1), (.mp 2)], [(.maph (.int .i64) false (List.map M_int_int.pv m) [])], [(.maph (.st [.i64, .u64]) false (List.map M_deed_Mark_int.pv m2) [])]]) (sc := t_.ev) (.k0 t_.pf (by kernel_rfl))
 ·obtain ⟨⟨k, r2⟩, h4, h⟩ := bind_of h
  have h := some_of h
  subst h
  have t_ := tR (deed_Deeds_Pending_2_runs n n2 r m m2 _ h1) <| tR q_2 <| tF h3 <| tR (deed_Deeds_Pending_2_runs n n2 r m m2 _ h1) <| tR (slices_Delete_deed_Gift_runs n3 (iadd .i64 n3 1) r _ h4) <| tN
  have e_ : Runs Tryz.prog 18 [(.one (.ref 0 0)), (.one (.pv (.int .u64 no)))] [[(.pv (.int .i64 n)), (.pv (.int .u64 n2)), (.pv (.recs 5 (List.map E_deed_Gift.pv r) false)), (.mp 1), (.mp 2)], [(.maph (.int .i64) false (List.map M_int_int.pv m) [])], [(.maph (.st [.i64, .u64]) false (List.map M_deed_Mark_int.pv m2) [])]] [] ([(.one (.pv (.int .i64 0)))], [[(.pv (.int .i64 n)), (.pv (.int .u64 n2)), (.own 0 0 k false), (.mp 1), (.mp 2)], [(.maph (.int .i64) false (List.map M_int_int.pv m) [])], [(.maph (.st [.i64, .u64]) false (List.map M_deed_Mark_int.pv m2) [])]], [(.recs 5 (List.map E_deed_Gift.pv r2))]) := runs_of (C := cfg) (objs := [[(.pv (.int .i64 n)), (.pv (.int .u64 n2)), (.pv (.recs 5 (List.map E_deed_Gift.pv r) false)), (.mp 1), (.mp 2)], [(.maph (.int .i64) false (List.map M_int_int.pv m) [])], [(.maph (.st [.i64, .u64]) false (List.map M_deed_Mark_int.pv m2) [])]]) (sc := t_.ev) (.k0 t_.pf (by kernel_rfl))
  have e_ := e_.shut (res' := ([(.one (.pv (.int .i64 0)))], [[(.pv (.int .i64 n)), (.pv (.int .u64 n2)), (.pv (.recs 5 (List.take k (List.map E_deed_Gift.pv r2)) false)), (.mp 1), (.mp 2)], [(.maph (.int .i64) false (List.map M_int_int.pv m) [])], [(.maph (.st [.i64, .u64]) false (List.map M_deed_Mark_int.pv m2) [])]], [])) [0] (by kernel_rfl)
  exact e_.out ⟨.eq rfl, trivial⟩ ⟨⟨.eq rfl, .eq rfl, .pv (.recsT (.eq (by first | rfl | (simp only [List.take_length]; done) | (simp; done) | (simp only [List.map_take, List.map_drop, List.map_append, List.take_length, List.nil_append]; done) | (simp only [List.length_map, List.take_length, List.length_append, List.drop_zero, List.map_append, List.map_take, List.map_drop, List.map_replicate, List.map_cons, List.map_nil, List.append_nil, List.nil_append]; done)))), .eq rfl, .eq rfl, trivial⟩, ⟨.eq rfl, trivial⟩, ⟨.eq rfl, trivial⟩, trivial⟩ trivial rfl
def deed_Deeds_Gave_out (to : Int) (n : Int) (n2 : Int) (r : List E_deed_Gift) (m : List (Int × Int)) (m2 : List ((Int × Int) × Int)) : Bool → Res
 | r1 => ([(.one (.pv (.bool r1)))], [[(.pv (.int .i64 n)), (.pv (.int .u64 n2)), (.pv (.recs 5 (List.map E_deed_Gift.pv r) false)), (.mp 1), (.mp 2)], [(.maph (.int .i64) false (List.map M_int_int.pv m) [])], [(.maph (.st [.i64, .u64]) false (List.map M_deed_Mark_int.pv m2) [])]], [])
noncomputable def deed_Deeds_Gave (to : Int) (n : Int) (n2 : Int) (r : List E_deed_Gift) (m : List (Int × Int)) (m2 : List ((Int × Int) × Int)) : Option (Bool) :=
 match (mget to m) with
 | .some n3 =>
  some (decide ((0 : Int) < n3))
 | .none =>
  some false
theorem deed_Deeds_Gave_runs (to : Int) (n : Int) (n2 : Int) (r : List E_deed_Gift) (m : List (Int × Int)) (m2 : List ((Int × Int) × Int)) (r_ : Bool) (h : deed_Deeds_Gave to n n2 r m m2 = some r_) : Runs Tryz.prog 20 [(.one (.ref 0 0)), (.one (.pv (.int .i64 to)))] [[(.pv (.int .i64 n)), (.pv (.int .u64 n2)), (.pv (.recs 5 (List.map E_deed_Gift.pv r) false)), (.mp 1), (.mp 2)], [(.maph (.int .i64) false (List.map M_int_int.pv m) [])], [(.maph (.st [.i64, .u64]) false (List.map M_deed_Mark_int.pv m2) [])]] [] (deed_Deeds_Gave_out to n n2 r m m2 r_) := by
 unfold deed_Deeds_Gave at h
 cases h1 : (mget to m) with
 | some n3 =>
  simp only [h1] at h
  have h := some_of h
  subst h
  have t_ := tT (rfl : true = true) <| tT (show kget [(.int .i64 to)] (List.map M_int_int.pv m) = some [(.int .i64 n3)] from by first | (simp only [M_deed_Mark_int.set, M_int_int.set, M_deed_Mark_int.get, M_int_int.get, h1, Option.map_some, Option.map_none]; done) | (simp only [M_deed_Mark_int.set, M_int_int.set, M_deed_Mark_int.get, M_int_int.get, h1, Option.map_some, Option.map_none]; rfl) | (rw [← List.map_nil]; simp only [M_deed_Mark_int.set, M_int_int.set, M_deed_Mark_int.get, M_int_int.get, h1, Option.map_some, Option.map_none]; rfl)) <| tE (.el [(.int .i64 n3)]) <| tN
  exact runs_of (C := cfg) (objs := [[(.pv (.int .i64 n)), (.pv (.int .u64 n2)), (.pv (.recs 5 (List.map E_deed_Gift.pv r) false)), (.mp 1), (.mp 2)], [(.maph (.int .i64) false (List.map M_int_int.pv m) [])], [(.maph (.st [.i64, .u64]) false (List.map M_deed_Mark_int.pv m2) [])]]) (sc := t_.ev) (.k0 t_.pf (by kernel_rfl))
 | none =>
  simp only [h1] at h
  have h := some_of h
  subst h
  have t_ := tT (rfl : true = true) <| tF (show kget [(.int .i64 to)] (List.map M_int_int.pv m) = none from by first | (simp only [M_deed_Mark_int.set, M_int_int.set, M_deed_Mark_int.get, M_int_int.get, h1, Option.map_some, Option.map_none]; done) | (simp only [M_deed_Mark_int.set, M_int_int.set, M_deed_Mark_int.get, M_int_int.get, h1, Option.map_some, Option.map_none]; rfl) | (rw [← List.map_nil]; simp only [M_deed_Mark_int.set, M_int_int.set, M_deed_Mark_int.get, M_int_int.get, h1, Option.map_some, Option.map_none]; rfl)) <| tN
  exact runs_of (C := cfg) (objs := [[(.pv (.int .i64 n)), (.pv (.int .u64 n2)), (.pv (.recs 5 (List.map E_deed_Gift.pv r) false)), (.mp 1), (.mp 2)], [(.maph (.int .i64) false (List.map M_int_int.pv m) [])], [(.maph (.st [.i64, .u64]) false (List.map M_deed_Mark_int.pv m2) [])]]) (sc := t_.ev) (.k0 t_.pf (by kernel_rfl))
noncomputable def kl15_awake : Option (Bool) :=
 (deed_New 0).bind fun _ =>
 (id_One).bind fun _ =>
 (deed_Deeds_Give 2 true T_id_halves.nil 0 0 [] []).bind fun z_ => match z_ with
 | .inl n =>
  bif (decide ((n : Int) = 0)) then
   some false
  else
   some false
 | .inr (n, n2, r, m_) =>
  bif (decide ((n : Int) = 1)) then
   (deed_Deeds_Done 1 0 n2 r m_ []).bind fun (n3, r2) =>
   bif (decide ((n3 : Int) = 0)) then
    (deed_Deeds_Gave 2 0 n2 r2 m_ []).bind fun b =>
    bif b then
     (deed_Deeds_Pending_2 0 n2 r2 m_ []).bind fun _ =>
     some (decide (((((List.map E_deed_Gift.pv r2)).length : Int) : Int) = 0))
    else
     some false
   else
    some false
  else
   some false
theorem kl15_awake_runs (r_ : Bool) (h : kl15_awake = some r_) : Runs Tryz.prog 7 [] [] [] (kl15_awake_out r_) := by
 unfold kl15_awake at h
 obtain ⟨_, h1, h⟩ := bind_of h
 obtain ⟨_, h2, h⟩ := bind_of h
 obtain ⟨z_, h3, h⟩ := bind_of h
 rcases z_ with n | ⟨n, n2, r, m_⟩
 ·have q_3 := (deed_Deeds_Give_runs 2 true T_id_halves.nil 0 0 [] [] _ h3)
  rcases cond_of h with ⟨h4, h⟩ | ⟨h4, h⟩
  ·have h := some_of h
   subst h
   have t_ := tR (deed_New_runs 0 _ h1) <| tR (id_One_runs _ h2) <| tR q_3 <| tT h4 <| tF (rfl : false = false) <| tF (rfl : false = false) <| tF (rfl : false = false) <| tN
   exact runs_of (C := cfg) (objs := []) (sc := t_.ev) (.k0 t_.pf (by kernel_rfl))
  ·have h := some_of h
   subst h
   have t_ := tR (deed_New_runs 0 _ h1) <| tR (id_One_runs _ h2) <| tR q_3 <| tF h4 <| tF (rfl : false = false) <| tF (rfl : false = false) <| tF (rfl : false = false) <| tN
   exact runs_of (C := cfg) (objs := []) (sc := t_.ev) (.k0 t_.pf (by kernel_rfl))
 ·have q_3 := (deed_Deeds_Give_runs 2 true T_id_halves.nil 0 0 [] [] _ h3)
  rcases cond_of h with ⟨h4, h⟩ | ⟨h4, h⟩
  ·obtain ⟨⟨n3, r2⟩, h5, h⟩ := bind_of h
   rcases cond_of h with ⟨h6, h⟩ | ⟨h6, h⟩
   ·obtain ⟨b, h7, h⟩ := bind_of h
    rcases cond_of h with ⟨h8, h⟩ | ⟨h8, h⟩
    ·obtain ⟨_, h9, h⟩ := bind_of h
     have h := some_of h
     subst h
     have t_ := tR (deed_New_runs 0 _ h1) <| tR (id_One_runs _ h2) <| tR q_3 <| tT (rfl : true = true) <| tT h4 <| tR (deed_Deeds_Done_runs 1 0 n2 r m_ [] _ h5) <| tT h6 <| tR (deed_Deeds_Gave_runs 2 0 n2 r2 m_ [] _ h7) <| tT h8 <| tR (deed_Deeds_Pending_2_runs 0 n2 r2 m_ [] _ h9) <| tN
     exact runs_of (C := cfg) (objs := []) (sc := t_.ev) (.k0 t_.pf (by kernel_rfl))
    ·have h := some_of h
     subst h
     have t_ := tR (deed_New_runs 0 _ h1) <| tR (id_One_runs _ h2) <| tR q_3 <| tT (rfl : true = true) <| tT h4 <| tR (deed_Deeds_Done_runs 1 0 n2 r m_ [] _ h5) <| tT h6 <| tR (deed_Deeds_Gave_runs 2 0 n2 r2 m_ [] _ h7) <| tF h8 <| tN
     exact runs_of (C := cfg) (objs := []) (sc := t_.ev) (.k0 t_.pf (by kernel_rfl))
   ·have h := some_of h
    subst h
    have t_ := tR (deed_New_runs 0 _ h1) <| tR (id_One_runs _ h2) <| tR q_3 <| tT (rfl : true = true) <| tT h4 <| tR (deed_Deeds_Done_runs 1 0 n2 r m_ [] _ h5) <| tF h6 <| tF (rfl : false = false) <| tN
    exact runs_of (C := cfg) (objs := []) (sc := t_.ev) (.k0 t_.pf (by kernel_rfl))
  ·have h := some_of h
   subst h
   have t_ := tR (deed_New_runs 0 _ h1) <| tR (id_One_runs _ h2) <| tR q_3 <| tT (rfl : true = true) <| tF h4 <| tF (rfl : false = false) <| tF (rfl : false = false) <| tN
   exact runs_of (C := cfg) (objs := []) (sc := t_.ev) (.k0 t_.pf (by kernel_rfl))
def kl15_made_out (p : List Int) : Bool × T_id_halves × T_kr01_ID → Res
 | (r1, r2, r3) => ([(.agg [(.pv (.bool r1)), (.pv (T_id_halves.pv r2))]), (.one (.pv (T_kr01_ID.pv r3)))], [], [])
def kr01_Make_out (p : List Int) (most : Int) : T_kr01_ID × List Int → Res
 | (r1, r2) => ([(.one (.pv (T_kr01_ID.pv r1))), (.one (.pv (.ints .u8 r2 false)))], [], [])
def kr01_Zero_out : T_kr01_ID → Res
 | r1 => ([(.one (.pv (T_kr01_ID.pv r1)))], [], [])
noncomputable def kr01_Zero : Option (T_kr01_ID) :=
 some (T_kr01_ID.mk 0 T_kr01_ID.nil T_kr01_ID.nil)
theorem kr01_Zero_runs (r_ : T_kr01_ID) (h : kr01_Zero = some r_) : Runs Tryz.prog 71 [] [] [] (kr01_Zero_out r_) := by
 unfold kr01_Zero at h
 have h := some_of h
 subst h
 have t_ := tN
 have e_ : Runs Tryz.prog 71 [] [] [] ([(.one (.pv (.imm [(.int .i64 0), .nilp, .nilp] 0)))], [], []) := runs_of (C := cfg) (objs := []) (sc := t_.ev) (.k0 t_.pf (by kernel_rfl))
 exact e_.out ⟨.eq rfl, trivial⟩ trivial trivial rfl
def kr01_Pair_out (l : T_kr01_ID) (r : T_kr01_ID) : T_kr01_ID → Res
 | r1 => ([(.one (.pv (T_kr01_ID.pv r1)))], [], [])
noncomputable def kr01_Pair (l : T_kr01_ID) (r : T_kr01_ID) : Option (T_kr01_ID) :=
 match l with
 | .nil =>
  none
 | .mk n t t2 =>
  match r with
  | .nil =>
   none
  | .mk n2 t3 t4 =>
   bif (decide ((n : Int) = n2)) then
    bif (decide ((n : Int) < 2)) then
     some l
    else
     some (T_kr01_ID.mk 2 l r)
   else
    some (T_kr01_ID.mk 2 l r)
theorem kr01_Pair_runs (l : T_kr01_ID) (r : T_kr01_ID) (r_ : T_kr01_ID) (h : kr01_Pair l r = some r_) : Runs Tryz.prog 78 [(.one (.pv (T_kr01_ID.pv l))), (.one (.pv (T_kr01_ID.pv r)))] [] [] (kr01_Pair_out l r r_) := by
 unfold kr01_Pair at h
 cases l with
 | nil =>
  cases h
 | mk n t t2 =>
  cases r with
  | nil =>
   cases h
  | mk n2 t3 t4 =>
   rcases cond_of h with ⟨h1, h⟩ | ⟨h1, h⟩
   ·rcases cond_of h with ⟨h2, h⟩ | ⟨h2, h⟩
    ·have h := some_of h
     subst h
     have t_ := tT h1 <| tT h2 <| tN
     exact runs_of (C := cfg) (objs := []) (sc := t_.ev) (.k0 t_.pf (by kernel_rfl))
    ·have h := some_of h
     subst h
     have t_ := tT h1 <| tF h2 <| tN
     have e_ : Runs Tryz.prog 78 [(.one (.pv (T_kr01_ID.pv (T_kr01_ID.mk n t t2)))), (.one (.pv (T_kr01_ID.pv (T_kr01_ID.mk n2 t3 t4))))] [] [] ([(.one (.pv (.imm [(.int .i64 2), (T_kr01_ID.pv (T_kr01_ID.mk n t t2)), (T_kr01_ID.pv (T_kr01_ID.mk n2 t3 t4))] 0)))], [], []) := runs_of (C := cfg) (objs := []) (sc := t_.ev) (.k0 t_.pf (by kernel_rfl))
     exact e_.out ⟨.eq rfl, trivial⟩ trivial trivial rfl
   ·have h := some_of h
    subst h
    have t_ := tF h1 <| tF (rfl : false = false) <| tN
    have e_ : Runs Tryz.prog 78 [(.one (.pv (T_kr01_ID.pv (T_kr01_ID.mk n t t2)))), (.one (.pv (T_kr01_ID.pv (T_kr01_ID.mk n2 t3 t4))))] [] [] ([(.one (.pv (.imm [(.int .i64 2), (T_kr01_ID.pv (T_kr01_ID.mk n t t2)), (T_kr01_ID.pv (T_kr01_ID.mk n2 t3 t4))] 0)))], [], []) := runs_of (C := cfg) (objs := []) (sc := t_.ev) (.k0 t_.pf (by kernel_rfl))
    exact e_.out ⟨.eq rfl, trivial⟩ trivial trivial rfl
noncomputable def kr01_Make_b (rec_kr01_Make : List Int → Int → Option (T_kr01_ID × List Int)) (p : List Int) (most : Int) : Option (T_kr01_ID × List Int) :=
 bif (decide ((((p).length : Int) : Int) = 0)) then
  (kr01_Zero).bind fun t =>
  some (t, [])
 else
  bif decide ((0 : Int) ≤ 0) && decide ((0 : Int) < ((p).length : Int)) then
  bif decide ((0 : Int) ≤ 1) && decide ((1 : Int) ≤ ((p).length : Int)) && decide ((((p).length : Int) : Int) ≤ ((p).length : Int)) && decide ((((p).length : Int) : Int) = ((p).length : Int)) then
  bif (decide ((most : Int) = 0)) then
   some ((T_kr01_ID.mk (IntKind.i64.wrap (irem .u8 (p.getD 0 0) 2)) T_kr01_ID.nil T_kr01_ID.nil), (List.take (((p).length : Int) - 1).toNat (List.drop 1 p)))
  else
   bif (decide (((irem .u8 (p.getD 0 0) 4) : Int) < 2)) then
    some ((T_kr01_ID.mk (IntKind.i64.wrap (irem .u8 (p.getD 0 0) 2)) T_kr01_ID.nil T_kr01_ID.nil), (List.take (((p).length : Int) - 1).toNat (List.drop 1 p)))
   else
    (rec_kr01_Make (List.take (((p).length : Int) - 1).toNat (List.drop 1 p)) (isub .i64 most 1)).bind fun (t, l_) =>
    (rec_kr01_Make l_ (isub .i64 most 1)).bind fun (t2, l_2) =>
    (kr01_Pair t t2).bind fun t3 =>
    some (t3, l_2)
  else none
  else none
theorem kr01_Make_b_runs (rec_kr01_Make : List Int → Int → Option (T_kr01_ID × List Int)) (hrec_kr01_Make : ∀ p most r_, rec_kr01_Make p most = some r_ → Runs Tryz.prog 40 [(.one (.pv (.ints .u8 p false))), (.one (.pv (.int .i64 most)))] [] [] (kr01_Make_out p most r_)) (p : List Int) (most : Int) (r_ : T_kr01_ID × List Int) (h : kr01_Make_b rec_kr01_Make p most = some r_) : Runs Tryz.prog 40 [(.one (.pv (.ints .u8 p false))), (.one (.pv (.int .i64 most)))] [] [] (kr01_Make_out p most r_) := by
 unfold kr01_Make_b at h
 rcases cond_of h with ⟨h1, h⟩ | ⟨h1, h⟩
 ·obtain ⟨t, h2, h⟩ := bind_of h
  have h := some_of h
  subst h
  have t_ := tT h1 <| tR (kr01_Zero_runs _ h2) <| tN
  have e_ : Runs Tryz.prog 40 [(.one (.pv (.ints .u8 p false))), (.one (.pv (.int .i64 most)))] [] [] ([(.one (.pv (T_kr01_ID.pv t))), (.one (.pv .nils))], [], []) := runs_of (C := cfg) (objs := []) (sc := t_.ev) (.k0 t_.pf (by kernel_rfl))
  exact e_.out ⟨.eq rfl, .pv (.nilsI), trivial⟩ trivial trivial rfl
 ·obtain ⟨h2, h⟩ := need_of h
  obtain ⟨h3, h⟩ := need_of h
  rcases cond_of h with ⟨h4, h⟩ | ⟨h4, h⟩
  ·have h := some_of h
   subst h
   have t_ := tF h1 <| tO h2 <| tO h3 <| tT h4 <| tT (rfl : true = true) <| tO (rfl : true = true) <| tN
   have e_ : Runs Tryz.prog 40 [(.one (.pv (.ints .u8 p false))), (.one (.pv (.int .i64 most)))] [] [] ([(.one (.pv (.imm [(.int .i64 (IntKind.i64.wrap (irem .u8 (p.getD 0 0) 2))), .nilp, .nilp] 0))), (.one (.pv (.ints .u8 (List.take (((p).length : Int) - 1).toNat (List.drop 1 p)) false)))], [], []) := runs_of (C := cfg) (objs := []) (sc := t_.ev) (.k0 t_.pf (by kernel_rfl))
   exact e_.out ⟨.eq rfl, .eq rfl, trivial⟩ trivial trivial rfl
  ·rcases cond_of h with ⟨h5, h⟩ | ⟨h5, h⟩
   ·have h := some_of h
    subst h
    have t_ := tF h1 <| tO h2 <| tO h3 <| tF h4 <| tO (rfl : true = true) <| tT h5 <| tO (rfl : true = true) <| tN
    have e_ : Runs Tryz.prog 40 [(.one (.pv (.ints .u8 p false))), (.one (.pv (.int .i64 most)))] [] [] ([(.one (.pv (.imm [(.int .i64 (IntKind.i64.wrap (irem .u8 (p.getD 0 0) 2))), .nilp, .nilp] 0))), (.one (.pv (.ints .u8 (List.take (((p).length : Int) - 1).toNat (List.drop 1 p)) false)))], [], []) := runs_of (C := cfg) (objs := []) (sc := t_.ev) (.k0 t_.pf (by kernel_rfl))
    exact e_.out ⟨.eq rfl, .eq rfl, trivial⟩ trivial trivial rfl
   ·obtain ⟨⟨t, l_⟩, h6, h⟩ := bind_of h
    obtain ⟨⟨t2, l_2⟩, h7, h⟩ := bind_of h
    obtain ⟨t3, h8, h⟩ := bind_of h
    have h := some_of h
    subst h
    have t_ := tF h1 <| tO h2 <| tO h3 <| tF h4 <| tO (rfl : true = true) <| tF h5 <| tR (hrec_kr01_Make (List.take (((p).length : Int) - 1).toNat (List.drop 1 p)) (isub .i64 most 1) _ h6) <| tR (hrec_kr01_Make l_ (isub .i64 most 1) _ h7) <| tR (kr01_Pair_runs t t2 _ h8) <| tN
    exact runs_of (C := cfg) (objs := []) (sc := t_.ev) (.k0 t_.pf (by kernel_rfl))
noncomputable def kr01_Make : Nat → List Int → Int → Option (T_kr01_ID × List Int)
 | 0, _, _ => none
 | N + 1, p, most => kr01_Make_b (kr01_Make N) p most
theorem kr01_Make_runs : ∀ (N : Nat) (p : List Int) (most : Int) (r_ : T_kr01_ID × List Int), kr01_Make N p most = some r_ → Runs Tryz.prog 40 [(.one (.pv (.ints .u8 p false))), (.one (.pv (.int .i64 most)))] [] [] (kr01_Make_out p most r_)
 | 0, _, _, _, h => by cases h
 | N + 1, p, most, r_, h => kr01_Make_b_runs (kr01_Make N) (kr01_Make_runs N) p most r_ h
def kl15_own_out (x : T_kr01_ID) : Bool × T_id_halves → Res
 | (r1, r2) => ([(.agg [(.pv (.bool r1)), (.pv (T_id_halves.pv r2))])], [], [])
def id_Zero_out : Unit → Res
 | _ => ([(.agg [(.pv (.bool false)), (.pv (T_id_halves.pv T_id_halves.nil))])], [], [])
noncomputable def id_Zero : Option (Unit) :=
 some ()
theorem id_Zero_runs (r_ : Unit) (h : id_Zero = some r_) : Runs Tryz.prog 79 [] [] [] (id_Zero_out r_) := by
 unfold id_Zero at h
 have h := some_of h
 subst h
 have t_ := tN
 have e_ : Runs Tryz.prog 79 [] [] [] ([(.agg [(.pv (.bool false)), (.pv .nilp)])], [], []) := runs_of (C := cfg) (objs := []) (sc := t_.ev) (.k0 t_.pf (by kernel_rfl))
 exact e_.out ⟨⟨.eq rfl, .eq rfl, trivial⟩, trivial⟩ trivial trivial rfl
def id_Pair_out (l : Bool) (l2 : T_id_halves) (r : Bool) (r2 : T_id_halves) : Bool × T_id_halves × Int → Res
 | (r1, r3, r4) => ([(.agg [(.pv (.bool r1)), (.pv (T_id_halves.pv r3))]), (.one (.pv (.int .i64 r4)))], [], [])
def id_pair_out (l : Bool) (l2 : T_id_halves) (r : Bool) (r2 : T_id_halves) : Bool × T_id_halves → Res
 | (r1, r3) => ([(.agg [(.pv (.bool r1)), (.pv (T_id_halves.pv r3))])], [], [])
def id_ID_IsOne_out (i : Bool) (i2 : T_id_halves) : Unit → Res
 | _ => ([(.one (.pv (.bool i)))], [], [])
noncomputable def id_ID_IsOne (i : Bool) (i2 : T_id_halves) : Option (Unit) :=
 some ()
theorem id_ID_IsOne_runs (i : Bool) (i2 : T_id_halves) (r_ : Unit) (h : id_ID_IsOne i i2 = some r_) : Runs Tryz.prog 109 [(.agg [(.pv (.bool i)), (.pv (T_id_halves.pv i2))])] [] [] (id_ID_IsOne_out i i2 r_) := by
 unfold id_ID_IsOne at h
 have h := some_of h
 subst h
 have t_ := tN
 exact runs_of (C := cfg) (objs := []) (sc := t_.ev) (.k0 t_.pf (by kernel_rfl))
noncomputable def id_pair (l : Bool) (l2 : T_id_halves) (r : Bool) (r2 : T_id_halves) : Option (Bool × T_id_halves) :=
 (id_ID_IsZero l l2).bind fun b =>
 bif b then
  (id_ID_IsZero r r2).bind fun b2 =>
  bif b2 then
   (id_Zero).bind fun _ =>
   some (false, T_id_halves.nil)
  else
   (id_ID_IsOne l l2).bind fun _ =>
   bif l then
    (id_ID_IsOne r r2).bind fun _ =>
    bif r then
     (id_One).bind fun _ =>
     some (true, T_id_halves.nil)
    else
     some (false, (T_id_halves.mk l l2 r r2))
   else
    some (false, (T_id_halves.mk l l2 r r2))
 else
  (id_ID_IsOne l l2).bind fun _ =>
  bif l then
   (id_ID_IsOne r r2).bind fun _ =>
   bif r then
    (id_One).bind fun _ =>
    some (true, T_id_halves.nil)
   else
    some (false, (T_id_halves.mk l l2 r r2))
  else
   some (false, (T_id_halves.mk l l2 r r2))
theorem id_pair_runs (l : Bool) (l2 : T_id_halves) (r : Bool) (r2 : T_id_halves) (r_ : Bool × T_id_halves) (h : id_pair l l2 r r2 = some r_) : Runs Tryz.prog 113 [(.agg [(.pv (.bool l)), (.pv (T_id_halves.pv l2))]), (.agg [(.pv (.bool r)), (.pv (T_id_halves.pv r2))])] [] [] (id_pair_out l l2 r r2 r_) := by
 unfold id_pair at h
 obtain ⟨b, h1, h⟩ := bind_of h
 rcases cond_of h with ⟨h2, h⟩ | ⟨h2, h⟩
 ·obtain ⟨b2, h3, h⟩ := bind_of h
  rcases cond_of h with ⟨h4, h⟩ | ⟨h4, h⟩
  ·obtain ⟨_, h5, h⟩ := bind_of h
   have h := some_of h
   subst h
   have t_ := tR (id_ID_IsZero_runs l l2 _ h1) <| tT h2 <| tR (id_ID_IsZero_runs r r2 _ h3) <| tT h4 <| tR (id_Zero_runs _ h5) <| tN
   exact runs_of (C := cfg) (objs := []) (sc := t_.ev) (.k0 t_.pf (by kernel_rfl))
  ·obtain ⟨_, h5, h⟩ := bind_of h
   rcases cond_of h with ⟨h6, h⟩ | ⟨h6, h⟩
   ·obtain ⟨_, h7, h⟩ := bind_of h
    rcases cond_of h with ⟨h8, h⟩ | ⟨h8, h⟩
    ·obtain ⟨_, h9, h⟩ := bind_of h
     have h := some_of h
     subst h
     have t_ := tR (id_ID_IsZero_runs l l2 _ h1) <| tT h2 <| tR (id_ID_IsZero_runs r r2 _ h3) <| tF h4 <| tR (id_ID_IsOne_runs l l2 _ h5) <| tT h6 <| tR (id_ID_IsOne_runs r r2 _ h7) <| tT h8 <| tR (id_One_runs _ h9) <| tN
     exact runs_of (C := cfg) (objs := []) (sc := t_.ev) (.k0 t_.pf (by kernel_rfl))
    ·have h := some_of h
     subst h
     have t_ := tR (id_ID_IsZero_runs l l2 _ h1) <| tT h2 <| tR (id_ID_IsZero_runs r r2 _ h3) <| tF h4 <| tR (id_ID_IsOne_runs l l2 _ h5) <| tT h6 <| tR (id_ID_IsOne_runs r r2 _ h7) <| tF h8 <| tN
     have e_ : Runs Tryz.prog 113 [(.agg [(.pv (.bool l)), (.pv (T_id_halves.pv l2))]), (.agg [(.pv (.bool r)), (.pv (T_id_halves.pv r2))])] [] [] ([(.agg [(.pv (.bool false)), (.pv (.imm [(.bool l), (T_id_halves.pv l2), (.bool r), (T_id_halves.pv r2)] 0))])], [], []) := runs_of (C := cfg) (objs := []) (sc := t_.ev) (.k0 t_.pf (by kernel_rfl))
     exact e_.out ⟨⟨.eq rfl, .eq rfl, trivial⟩, trivial⟩ trivial trivial rfl
   ·have h := some_of h
    subst h
    have t_ := tR (id_ID_IsZero_runs l l2 _ h1) <| tT h2 <| tR (id_ID_IsZero_runs r r2 _ h3) <| tF h4 <| tR (id_ID_IsOne_runs l l2 _ h5) <| tF h6 <| tF (rfl : false = false) <| tN
    have e_ : Runs Tryz.prog 113 [(.agg [(.pv (.bool l)), (.pv (T_id_halves.pv l2))]), (.agg [(.pv (.bool r)), (.pv (T_id_halves.pv r2))])] [] [] ([(.agg [(.pv (.bool false)), (.pv (.imm [(.bool l), (T_id_halves.pv l2), (.bool r), (T_id_halves.pv r2)] 0))])], [], []) := runs_of (C := cfg) (objs := []) (sc := t_.ev) (.k0 t_.pf (by kernel_rfl))
    exact e_.out ⟨⟨.eq rfl, .eq rfl, trivial⟩, trivial⟩ trivial trivial rfl
 ·obtain ⟨_, h3, h⟩ := bind_of h
  rcases cond_of h with ⟨h4, h⟩ | ⟨h4, h⟩
  ·obtain ⟨_, h5, h⟩ := bind_of h
   rcases cond_of h with ⟨h6, h⟩ | ⟨h6, h⟩
   ·obtain ⟨_, h7, h⟩ := bind_of h
    have h := some_of h
    subst h
    have t_ := tR (id_ID_IsZero_runs l l2 _ h1) <| tF h2 <| tF (rfl : false = false) <| tR (id_ID_IsOne_runs l l2 _ h3) <| tT h4 <| tR (id_ID_IsOne_runs r r2 _ h5) <| tT h6 <| tR (id_One_runs _ h7) <| tN
    exact runs_of (C := cfg) (objs := []) (sc := t_.ev) (.k0 t_.pf (by kernel_rfl))
   ·have h := some_of h
    subst h
    have t_ := tR (id_ID_IsZero_runs l l2 _ h1) <| tF h2 <| tF (rfl : false = false) <| tR (id_ID_IsOne_runs l l2 _ h3) <| tT h4 <| tR (id_ID_IsOne_runs r r2 _ h5) <| tF h6 <| tN
    have e_ : Runs Tryz.prog 113 [(.agg [(.pv (.bool l)), (.pv (T_id_halves.pv l2))]), (.agg [(.pv (.bool r)), (.pv (T_id_halves.pv r2))])] [] [] ([(.agg [(.pv (.bool false)), (.pv (.imm [(.bool l), (T_id_halves.pv l2), (.bool r), (T_id_halves.pv r2)] 0))])], [], []) := runs_of (C := cfg) (objs := []) (sc := t_.ev) (.k0 t_.pf (by kernel_rfl))
    exact e_.out ⟨⟨.eq rfl, .eq rfl, trivial⟩, trivial⟩ trivial trivial rfl
  ·have h := some_of h
   subst h
   have t_ := tR (id_ID_IsZero_runs l l2 _ h1) <| tF h2 <| tF (rfl : false = false) <| tR (id_ID_IsOne_runs l l2 _ h3) <| tF h4 <| tF (rfl : false = false) <| tN
   have e_ : Runs Tryz.prog 113 [(.agg [(.pv (.bool l)), (.pv (T_id_halves.pv l2))]), (.agg [(.pv (.bool r)), (.pv (T_id_halves.pv r2))])] [] [] ([(.agg [(.pv (.bool false)), (.pv (.imm [(.bool l), (T_id_halves.pv l2), (.bool r), (T_id_halves.pv r2)] 0))])], [], []) := runs_of (C := cfg) (objs := []) (sc := t_.ev) (.k0 t_.pf (by kernel_rfl))
   exact e_.out ⟨⟨.eq rfl, .eq rfl, trivial⟩, trivial⟩ trivial trivial rfl
def id_ID_Depth_out (i : Bool) (i2 : T_id_halves) : Int → Res
 | r1 => ([(.one (.pv (.int .i64 r1)))], [], [])
noncomputable def id_ID_Depth_b (rec_id_ID_Depth : Bool → T_id_halves → Option (Int)) (i : Bool) (i2 : T_id_halves) : Option (Int) :=
 match i2 with
 | .nil =>
  some 0
 | .mk b t b2 t2 =>
  (rec_id_ID_Depth b t).bind fun n =>
  (rec_id_ID_Depth b2 t2).bind fun n2 =>
  some (iadd .i64 1 (if (n : Int) < n2 then n2 else n))
theorem id_ID_Depth_b_runs (rec_id_ID_Depth : Bool → T_id_halves → Option (Int)) (hrec_id_ID_Depth : ∀ i i2 r_, rec_id_ID_Depth i i2 = some r_ → Runs Tryz.prog 114 [(.agg [(.pv (.bool i)), (.pv (T_id_halves.pv i2))])] [] [] (id_ID_Depth_out i i2 r_)) (i : Bool) (i2 : T_id_halves) (r_ : Int) (h : id_ID_Depth_b rec_id_ID_Depth i i2 = some r_) : Runs Tryz.prog 114 [(.agg [(.pv (.bool i)), (.pv (T_id_halves.pv i2))])] [] [] (id_ID_Depth_out i i2 r_) := by
 unfold id_ID_Depth_b at h
 cases i2 with
 | nil =>
  have h := some_of h
  subst h
  have t_ := tT (rfl : true = true) <| tN
  exact runs_of (C := cfg) (objs := []) (sc := t_.ev) (.k0 t_.pf (by kernel_rfl))
 | mk b t b2 t2 =>
  obtain ⟨n, h1, h⟩ := bind_of h
  obtain ⟨n2, h2, h⟩ := bind_of h
  have h := some_of h
  subst h
  have t_ := tF (rfl : false = false) <| tR (hrec_id_ID_Depth b t _ h1) <| tR (hrec_id_ID_Depth b t _ h1) <| tR (hrec_id_ID_Depth b2 t2 _ h2) <| tN
  exact runs_of (C := cfg) (objs := []) (sc := t_.ev) (.k1 t_.pf (by kernel_rfl) (by kernel_rfl))
noncomputable def id_ID_Depth : Nat → Bool → T_id_halves → Option (Int)
 | 0, _, _ => none
 | N + 1, i, i2 => id_ID_Depth_b (id_ID_Depth N) i i2
theorem id_ID_Depth_runs : ∀ (N : Nat) (i : Bool) (i2 : T_id_halves) (r_ : Int), id_ID_Depth N i i2 = some r_ → Runs Tryz.prog 114 [(.agg [(.pv (.bool i)), (.pv (T_id_halves.pv i2))])] [] [] (id_ID_Depth_out i i2 r_)
 | 0, _, _, _, h => by cases h
 | N + 1, i, i2, r_, h => id_ID_Depth_b_runs (id_ID_Depth N) (id_ID_Depth_runs N) i i2 r_ h
noncomputable def id_Pair (N : Nat) (l : Bool) (l2 : T_id_halves) (r : Bool) (r2 : T_id_halves) : Option (Bool × T_id_halves × Int) :=
 (id_pair l l2 r r2).bind fun (b, t) =>
 (id_ID_Depth N b t).bind fun n =>
 bif (decide ((16 : Int) < n)) then
  (id_Zero).bind fun _ =>
  some (false, T_id_halves.nil, 3)
 else
  some (b, t, 0)
theorem id_Pair_runs (N : Nat) (l : Bool) (l2 : T_id_halves) (r : Bool) (r2 : T_id_halves) (r_ : Bool × T_id_halves × Int) (h : id_Pair N l l2 r r2 = some r_) : Runs Tryz.prog 80 [(.agg [(.pv (.bool l)), (.pv (T_id_halves.pv l2))]), (.agg [(.pv (.bool r)), (.pv (T_id_halves.pv r2))])] [] [] (id_Pair_out l l2 r r2 r_) := by
 unfold id_Pair at h
 obtain ⟨⟨b, t⟩, h1, h⟩ := bind_of h
 obtain ⟨n, h2, h⟩ := bind_of h
 rcases cond_of h with ⟨h3, h⟩ | ⟨h3, h⟩
 ·obtain ⟨_, h4, h⟩ := bind_of h
  have h := some_of h
  subst h
  have t_ := tR (id_pair_runs l l2 r r2 _ h1) <| tR (id_ID_Depth_runs N b t _ h2) <| tT h3 <| tR (id_Zero_runs _ h4) <| tN
  exact runs_of (C := cfg) (objs := []) (sc := t_.ev) (.k0 t_.pf (by kernel_rfl))
 ·have h := some_of h
  subst h
  have t_ := tR (id_pair_runs l l2 r r2 _ h1) <| tR (id_ID_Depth_runs N b t _ h2) <| tF h3 <| tN
  exact runs_of (C := cfg) (objs := []) (sc := t_.ev) (.k0 t_.pf (by kernel_rfl))
noncomputable def kl15_own_b (N : Nat) (rec_kl15_own : T_kr01_ID → Option (Bool × T_id_halves)) (x : T_kr01_ID) : Option (Bool × T_id_halves) :=
 match x with
 | .nil =>
  none
 | .mk n t t2 =>
  bif (decide ((n : Int) = 0)) then
   (id_Zero).bind fun _ =>
   some (false, T_id_halves.nil)
  else
   bif (decide ((n : Int) = 1)) then
    (id_One).bind fun _ =>
    some (true, T_id_halves.nil)
   else
    (rec_kl15_own t).bind fun (b, t3) =>
    (rec_kl15_own t2).bind fun (b2, t4) =>
    (id_Pair N b t3 b2 t4).bind fun (b3, t5, n2) =>
    some (b3, t5)
theorem kl15_own_b_runs (N : Nat) (rec_kl15_own : T_kr01_ID → Option (Bool × T_id_halves)) (hrec_kl15_own : ∀ x r_, rec_kl15_own x = some r_ → Runs Tryz.prog 41 [(.one (.pv (T_kr01_ID.pv x)))] [] [] (kl15_own_out x r_)) (x : T_kr01_ID) (r_ : Bool × T_id_halves) (h : kl15_own_b N rec_kl15_own x = some r_) : Runs Tryz.prog 41 [(.one (.pv (T_kr01_ID.pv x)))] [] [] (kl15_own_out x r_) := by
 unfold kl15_own_b at h
 cases x with
 | nil =>
  cases h
 | mk n t t2 =>
  rcases cond_of h with ⟨h1, h⟩ | ⟨h1, h⟩
  ·obtain ⟨_, h2, h⟩ := bind_of h
   have h := some_of h
   subst h
   have t_ := tT h1 <| tR (id_Zero_runs _ h2) <| tN
   exact runs_of (C := cfg) (objs := []) (sc := t_.ev) (.k0 t_.pf (by kernel_rfl))
  ·rcases cond_of h with ⟨h2, h⟩ | ⟨h2, h⟩
   ·obtain ⟨_, h3, h⟩ := bind_of h
    have h := some_of h
    subst h
    have t_ := tF h1 <| tT h2 <| tR (id_One_runs _ h3) <| tN
    exact runs_of (C := cfg) (objs := []) (sc := t_.ev) (.k0 t_.pf (by kernel_rfl))
   ·obtain ⟨⟨b, t3⟩, h3, h⟩ := bind_of h
    obtain ⟨⟨b2, t4⟩, h4, h⟩ := bind_of h
    obtain ⟨⟨b3, t5, n2⟩, h5, h⟩ := bind_of h
    have h := some_of h
    subst h
    have t_ := tF h1 <| tF h2 <| tR (hrec_kl15_own t _ h3) <| tR (hrec_kl15_own t _ h3) <| tR (hrec_kl15_own t2 _ h4) <| tR (id_Pair_runs N b t3 b2 t4 _ h5) <| tR (hrec_kl15_own t2 _ h4) <| tR (id_Pair_runs N b t3 b2 t4 _ h5) <| tN
    exact runs_of (C := cfg) (objs := []) (sc := t_.ev) (.k1 t_.pf (by kernel_rfl) (by kernel_rfl))
noncomputable def kl15_own : Nat → T_kr01_ID → Option (Bool × T_id_halves)
 | 0, _ => none
 | N + 1, x => kl15_own_b N (kl15_own N) x
theorem kl15_own_runs : ∀ (N : Nat) (x : T_kr01_ID) (r_ : Bool × T_id_halves), kl15_own N x = some r_ → Runs Tryz.prog 41 [(.one (.pv (T_kr01_ID.pv x)))] [] [] (kl15_own_out x r_)
 | 0, _, _, h => by cases h
 | N + 1, x, r_, h => kl15_own_b_runs N (kl15_own N) (kl15_own_runs N) x r_ h
noncomputable def kl15_made (N : Nat) (p : List Int) : Option (Bool × T_id_halves × T_kr01_ID) :=
 bif decide ((0 : Int) ≤ 0) && decide ((0 : Int) ≤ (if (30 : Int) < ((p).length : Int) then 30 else ((p).length : Int))) && decide (((if (30 : Int) < ((p).length : Int) then 30 else ((p).length : Int)) : Int) ≤ ((p).length : Int)) && decide (((if (30 : Int) < ((p).length : Int) then 30 else ((p).length : Int)) : Int) = (if (30 : Int) < ((p).length : Int) then 30 else ((p).length : Int))) then
 (kr01_Make N (List.take ((if (30 : Int) < ((p).length : Int) then 30 else ((p).length : Int)) - 0).toNat p) 5).bind fun (t, l_) =>
 (kl15_own N t).bind fun (b, t2) =>
 some (b, t2, t)
 else none
theorem kl15_made_runs (N : Nat) (p : List Int) (r_ : Bool × T_id_halves × T_kr01_ID) (h : kl15_made N p = some r_) : Runs Tryz.prog 13 [(.one (.pv (.ints .u8 p false)))] [] [] (kl15_made_out p r_) := by
 unfold kl15_made at h
 obtain ⟨h1, h⟩ := need_of h
 obtain ⟨⟨t, l_⟩, h2, h⟩ := bind_of h
 obtain ⟨⟨b, t2⟩, h3, h⟩ := bind_of h
 have h := some_of h
 subst h
 have t_ := tO h1 <| tR (kr01_Make_runs N (List.take ((if (30 : Int) < ((p).length : Int) then 30 else ((p).length : Int)) - 0).toNat p) 5 _ h2) <| tR (kl15_own_runs N t _ h3) <| tN
 exact runs_of (C := cfg) (objs := []) (sc := t_.ev) (.k0 t_.pf (by kernel_rfl))
def kr15_Right_out (g : Int) (g2 : Int) (g3 : Int) (g4 : T_kr01_ID) : Bool → Res
 | r1 => ([(.one (.pv (.bool r1)))], [], [])
noncomputable def kr15_Right (g : Int) (g2 : Int) (g3 : Int) (g4 : T_kr01_ID) : Option (Bool) :=
 bif (decide ((0 : Int) < g)) then
  bif (decide ((g : Int) < 4611686018427387904)) then
   bif (decide ((0 : Int) ≤ g2)) then
    bif (decide ((g2 : Int) < 12)) then
     bif (decide ((0 : Int) ≤ g3)) then
      bif (decide ((g3 : Int) < 12)) then
       bif (decide ((g2 : Int) = g3)) then
        some false
       else
        match g4 with
        | .nil =>
         none
        | .mk n t t2 =>
         some (!(decide ((n : Int) = 0)))
      else
       some false
     else
      some false
    else
     some false
   else
    some false
  else
   some false
 else
  some false
theorem kr15_Right_runs (g : Int) (g2 : Int) (g3 : Int) (g4 : T_kr01_ID) (r_ : Bool) (h : kr15_Right g g2 g3 g4 = some r_) : Runs Tryz.prog 68 [(.agg [(.pv (.int .u64 g)), (.pv (.int .i64 g2)), (.pv (.int .i64 g3)), (.pv (T_kr01_ID.pv g4))])] [] [] (kr15_Right_out g g2 g3 g4 r_) := by
 unfold kr15_Right at h
 rcases cond_of h with ⟨h1, h⟩ | ⟨h1, h⟩
 ·rcases cond_of h with ⟨h2, h⟩ | ⟨h2, h⟩
  ·rcases cond_of h with ⟨h3, h⟩ | ⟨h3, h⟩
   ·rcases cond_of h with ⟨h4, h⟩ | ⟨h4, h⟩
    ·rcases cond_of h with ⟨h5, h⟩ | ⟨h5, h⟩
     ·rcases cond_of h with ⟨h6, h⟩ | ⟨h6, h⟩
      ·rcases cond_of h with ⟨h7, h⟩ | ⟨h7, h⟩
       ·have h := some_of h
        subst h
        have t_ := tT h1 <| tT h2 <| tT h3 <| tT h4 <| tT h5 <| tT h6 <| tF (not_of2 h7) <| tN
        exact runs_of (C := cfg) (objs := []) (sc := t_.ev) (.k0 t_.pf (by kernel_rfl))
       ·cases g4 with
        | nil =>
         cases h
        | mk n t t2 =>
         have h := some_of h
         subst h
         have t_ := tT h1 <| tT h2 <| tT h3 <| tT h4 <| tT h5 <| tT h6 <| tT (not_of h7) <| tN
         exact runs_of (C := cfg) (objs := []) (sc := t_.ev) (.k0 t_.pf (by kernel_rfl))
      ·have h := some_of h
       subst h
       have t_ := tT h1 <| tT h2 <| tT h3 <| tT h4 <| tT h5 <| tF h6 <| tF (rfl : false = false) <| tN
       exact runs_of (C := cfg) (objs := []) (sc := t_.ev) (.k0 t_.pf (by kernel_rfl))
     ·have h := some_of h
      subst h
      have t_ := tT h1 <| tT h2 <| tT h3 <| tT h4 <| tF h5 <| tF (rfl : false = false) <| tF (rfl : false = false) <| tN
      exact runs_of (C := cfg) (objs := []) (sc := t_.ev) (.k0 t_.pf (by kernel_rfl))
    ·have h := some_of h
     subst h
     have t_ := tT h1 <| tT h2 <| tT h3 <| tF h4 <| tF (rfl : false = false) <| tF (rfl : false = false) <| tF (rfl : false = false) <| tN
     exact runs_of (C := cfg) (objs := []) (sc := t_.ev) (.k0 t_.pf (by kernel_rfl))
   ·have h := some_of h
    subst h
    have t_ := tT h1 <| tT h2 <| tF h3 <| tF (rfl : false = false) <| tF (rfl : false = false) <| tF (rfl : false = false) <| tF (rfl : false = false) <| tN
    exact runs_of (C := cfg) (objs := []) (sc := t_.ev) (.k0 t_.pf (by kernel_rfl))
  ·have h := some_of h
   subst h
   have t_ := tT h1 <| tF h2 <| tF (rfl : false = false) <| tF (rfl : false = false) <| tF (rfl : false = false) <| tF (rfl : false = false) <| tF (rfl : false = false) <| tN
   exact runs_of (C := cfg) (objs := []) (sc := t_.ev) (.k0 t_.pf (by kernel_rfl))
 ·have h := some_of h
  subst h
  have t_ := tF h1 <| tF (rfl : false = false) <| tF (rfl : false = false) <| tF (rfl : false = false) <| tF (rfl : false = false) <| tF (rfl : false = false) <| tF (rfl : false = false) <| tN
  exact runs_of (C := cfg) (objs := []) (sc := t_.ev) (.k0 t_.pf (by kernel_rfl))
def kl15_same_out (g : Int) (g2 : Int) (g3 : Int) (g4 : Bool) (g5 : T_id_halves) (h_ : Int) (h_2 : Int) (h_3 : Int) (h_4 : T_kr01_ID) : Bool → Res
 | r1 => ([(.one (.pv (.bool r1)))], [], [])
def id_ID_Text_out (i : Bool) (i2 : T_id_halves) : ByteArray → Res
 | r1 => ([(.one (.pv (.str r1)))], [], [])
noncomputable def id_ID_Text_b (rec_id_ID_Text : Bool → T_id_halves → Option (ByteArray)) (i : Bool) (i2 : T_id_halves) : Option (ByteArray) :=
 (id_ID_IsZero i i2).bind fun b =>
 bif b then
  some (⟨#[48]⟩ : ByteArray)
 else
  (id_ID_IsOne i i2).bind fun _ =>
  bif i then
   some (⟨#[49]⟩ : ByteArray)
  else
   match i2 with
   | .nil =>
    none
   | .mk b2 t b3 t2 =>
    (rec_id_ID_Text b2 t).bind fun s =>
    bif decide ((⟨#[40]⟩ : ByteArray).size + s.size ≤ 140737488355328) then
    bif decide (((⟨#[40]⟩ : ByteArray) ++ s).size + (⟨#[44]⟩ : ByteArray).size ≤ 140737488355328) then
    (rec_id_ID_Text b3 t2).bind fun s2 =>
    bif decide ((((⟨#[40]⟩ : ByteArray) ++ s) ++ (⟨#[44]⟩ : ByteArray)).size + s2.size ≤ 140737488355328) then
    bif decide (((((⟨#[40]⟩ : ByteArray) ++ s) ++ (⟨#[44]⟩ : ByteArray)) ++ s2).size + (⟨#[41]⟩ : ByteArray).size ≤ 140737488355328) then
    some (((((⟨#[40]⟩ : ByteArray) ++ s) ++ (⟨#[44]⟩ : ByteArray)) ++ s2) ++ (⟨#[41]⟩ : ByteArray))
    else none
    else none
    else none
    else none
theorem id_ID_Text_b_runs (rec_id_ID_Text : Bool → T_id_halves → Option (ByteArray)) (hrec_id_ID_Text : ∀ i i2 r_, rec_id_ID_Text i i2 = some r_ → Runs Tryz.prog 72 [(.agg [(.pv (.bool i)), (.pv (T_id_halves.pv i2))])] [] [] (id_ID_Text_out i i2 r_)) (i : Bool) (i2 : T_id_halves) (r_ : ByteArray) (h : id_ID_Text_b rec_id_ID_Text i i2 = some r_) : Runs Tryz.prog 72 [(.agg [(.pv (.bool i)), (.pv (T_id_halves.pv i2))])] [] [] (id_ID_Text_out i i2 r_) := by
 unfold id_ID_Text_b at h
 obtain ⟨b, h1, h⟩ := bind_of h
 rcases cond_of h with ⟨h2, h⟩ | ⟨h2, h⟩
 ·have h := some_of h
  subst h
  have t_ := tR (id_ID_IsZero_runs i i2 _ h1) <| tT h2 <| tN
  exact runs_of (C := cfg) (objs := []) (sc := t_.ev) (.k0 t_.pf (by kernel_rfl))
 ·obtain ⟨_, h3, h⟩ := bind_of h
  rcases cond_of h with ⟨h4, h⟩ | ⟨h4, h⟩
  ·have h := some_of h
   subst h
   have t_ := tR (id_ID_IsZero_runs i i2 _ h1) <| tF h2 <| tR (id_ID_IsOne_runs i i2 _ h3) <| tT h4 <| tN
   exact runs_of (C := cfg) (objs := []) (sc := t_.ev) (.k0 t_.pf (by kernel_rfl))
  ·cases i2 with
   | nil =>
    cases h
   | mk b2 t b3 t2 =>
    obtain ⟨s, h5, h⟩ := bind_of h
    obtain ⟨h6, h⟩ := need_of h
    obtain ⟨h7, h⟩ := need_of h
    obtain ⟨s2, h8, h⟩ := bind_of h
    obtain ⟨h9, h⟩ := need_of h
    obtain ⟨h10, h⟩ := need_of h
    have h := some_of h
    subst h
    have t_ := tR (id_ID_IsZero_runs i (T_id_halves.mk b2 t b3 t2) _ h1) <| tF h2 <| tR (id_ID_IsOne_runs i (T_id_halves.mk b2 t b3 t2) _ h3) <| tF h4 <| tR (hrec_id_ID_Text b2 t _ h5) <| tO h6 <| tO h7 <| tR (hrec_id_ID_Text b2 t _ h5) <| tO h6 <| tO h7 <| tR (hrec_id_ID_Text b3 t2 _ h8) <| tO h9 <| tO h10 <| tN
    exact runs_of (C := cfg) (objs := []) (sc := t_.ev) (.k1 t_.pf (by kernel_rfl) (by kernel_rfl))
noncomputable def id_ID_Text : Nat → Bool → T_id_halves → Option (ByteArray)
 | 0, _, _ => none
 | N + 1, i, i2 => id_ID_Text_b (id_ID_Text N) i i2
theorem id_ID_Text_runs : ∀ (N : Nat) (i : Bool) (i2 : T_id_halves) (r_ : ByteArray), id_ID_Text N i i2 = some r_ → Runs Tryz.prog 72 [(.agg [(.pv (.bool i)), (.pv (T_id_halves.pv i2))])] [] [] (id_ID_Text_out i i2 r_)
 | 0, _, _, _, h => by cases h
 | N + 1, i, i2, r_, h => id_ID_Text_b_runs (id_ID_Text N) (id_ID_Text_runs N) i i2 r_ h
def kr01_Text_out (i : T_kr01_ID) : ByteArray → Res
 | r1 => ([(.one (.pv (.str r1)))], [], [])
noncomputable def kr01_Text_b (rec_kr01_Text : T_kr01_ID → Option (ByteArray)) (i : T_kr01_ID) : Option (ByteArray) :=
 match i with
 | .nil =>
  none
 | .mk n t t2 =>
  bif (decide ((n : Int) = 0)) then
   some (⟨#[48]⟩ : ByteArray)
  else
   bif (decide ((n : Int) = 1)) then
    some (⟨#[49]⟩ : ByteArray)
   else
    (rec_kr01_Text t).bind fun s =>
    bif decide ((⟨#[40]⟩ : ByteArray).size + s.size ≤ 140737488355328) then
    bif decide (((⟨#[40]⟩ : ByteArray) ++ s).size + (⟨#[44]⟩ : ByteArray).size ≤ 140737488355328) then
    (rec_kr01_Text t2).bind fun s2 =>
    bif decide ((((⟨#[40]⟩ : ByteArray) ++ s) ++ (⟨#[44]⟩ : ByteArray)).size + s2.size ≤ 140737488355328) then
    bif decide (((((⟨#[40]⟩ : ByteArray) ++ s) ++ (⟨#[44]⟩ : ByteArray)) ++ s2).size + (⟨#[41]⟩ : ByteArray).size ≤ 140737488355328) then
    some (((((⟨#[40]⟩ : ByteArray) ++ s) ++ (⟨#[44]⟩ : ByteArray)) ++ s2) ++ (⟨#[41]⟩ : ByteArray))
    else none
    else none
    else none
    else none
theorem kr01_Text_b_runs (rec_kr01_Text : T_kr01_ID → Option (ByteArray)) (hrec_kr01_Text : ∀ i r_, rec_kr01_Text i = some r_ → Runs Tryz.prog 73 [(.one (.pv (T_kr01_ID.pv i)))] [] [] (kr01_Text_out i r_)) (i : T_kr01_ID) (r_ : ByteArray) (h : kr01_Text_b rec_kr01_Text i = some r_) : Runs Tryz.prog 73 [(.one (.pv (T_kr01_ID.pv i)))] [] [] (kr01_Text_out i r_) := by
 unfold kr01_Text_b at h
 cases i with
 | nil =>
  cases h
 | mk n t t2 =>
  rcases cond_of h with ⟨h1, h⟩ | ⟨h1, h⟩
  ·have h := some_of h
   subst h
   have t_ := tT h1 <| tN
   exact runs_of (C := cfg) (objs := []) (sc := t_.ev) (.k0 t_.pf (by kernel_rfl))
  ·rcases cond_of h with ⟨h2, h⟩ | ⟨h2, h⟩
   ·have h := some_of h
    subst h
    have t_ := tF h1 <| tT h2 <| tN
    exact runs_of (C := cfg) (objs := []) (sc := t_.ev) (.k0 t_.pf (by kernel_rfl))
   ·obtain ⟨s, h3, h⟩ := bind_of h
    obtain ⟨h4, h⟩ := need_of h
    obtain ⟨h5, h⟩ := need_of h
    obtain ⟨s2, h6, h⟩ := bind_of h
    obtain ⟨h7, h⟩ := need_of h
    obtain ⟨h8, h⟩ := need_of h
    have h := some_of h
    subst h
    have t_ := tF h1 <| tF h2 <| tR (hrec_kr01_Text t _ h3) <| tO h4 <| tO h5 <| tR (hrec_kr01_Text t2 _ h6) <| tO h7 <| tO h8 <| tN
    exact runs_of (C := cfg) (objs := []) (sc := t_.ev) (.k0 t_.pf (by kernel_rfl))
noncomputable def kr01_Text : Nat → T_kr01_ID → Option (ByteArray)
 | 0, _ => none
 | N + 1, i => kr01_Text_b (kr01_Text N) i
theorem kr01_Text_runs : ∀ (N : Nat) (i : T_kr01_ID) (r_ : ByteArray), kr01_Text N i = some r_ → Runs Tryz.prog 73 [(.one (.pv (T_kr01_ID.pv i)))] [] [] (kr01_Text_out i r_)
 | 0, _, _, h => by cases h
 | N + 1, i, r_, h => kr01_Text_b_runs (kr01_Text N) (kr01_Text_runs N) i r_ h
noncomputable def kl15_same (N : Nat) (g : Int) (g2 : Int) (g3 : Int) (g4 : Bool) (g5 : T_id_halves) (h_ : Int) (h_2 : Int) (h_3 : Int) (h_4 : T_kr01_ID) : Option (Bool) :=
 bif (decide ((g : Int) = h_)) then
  bif (decide ((g2 : Int) = h_2)) then
   bif (decide ((g3 : Int) = h_3)) then
    (id_ID_Text N g4 g5).bind fun s =>
    (kr01_Text N h_4).bind fun s2 =>
    some (decide (s = s2))
   else
    some false
  else
   some false
 else
  some false
theorem kl15_same_runs (N : Nat) (g : Int) (g2 : Int) (g3 : Int) (g4 : Bool) (g5 : T_id_halves) (h_ : Int) (h_2 : Int) (h_3 : Int) (h_4 : T_kr01_ID) (r_ : Bool) (h : kl15_same N g g2 g3 g4 g5 h_ h_2 h_3 h_4 = some r_) : Runs Tryz.prog 34 [(.agg [(.pv (.int .u64 g)), (.pv (.int .i64 g2)), (.pv (.int .i64 g3)), (.pv (.bool g4)), (.pv (T_id_halves.pv g5))]), (.agg [(.pv (.int .u64 h_)), (.pv (.int .i64 h_2)), (.pv (.int .i64 h_3)), (.pv (T_kr01_ID.pv h_4))])] [] [] (kl15_same_out g g2 g3 g4 g5 h_ h_2 h_3 h_4 r_) := by
 unfold kl15_same at h
 rcases cond_of h with ⟨h1, h⟩ | ⟨h1, h⟩
 ·rcases cond_of h with ⟨h2, h⟩ | ⟨h2, h⟩
  ·rcases cond_of h with ⟨h3, h⟩ | ⟨h3, h⟩
   ·obtain ⟨s, h4, h⟩ := bind_of h
    obtain ⟨s2, h5, h⟩ := bind_of h
    have h := some_of h
    subst h
    have t_ := tT h1 <| tT h2 <| tT h3 <| tR (id_ID_Text_runs N g4 g5 _ h4) <| tR (id_ID_Text_runs N g4 g5 _ h4) <| tR (kr01_Text_runs N h_4 _ h5) <| tN
    exact runs_of (C := cfg) (objs := []) (sc := t_.ev) (.k1 t_.pf (by kernel_rfl) (by kernel_rfl))
   ·have h := some_of h
    subst h
    have t_ := tT h1 <| tT h2 <| tF h3 <| tN
    exact runs_of (C := cfg) (objs := []) (sc := t_.ev) (.k1 t_.pf (by kernel_rfl) (by kernel_rfl))
  ·have h := some_of h
   subst h
   have t_ := tT h1 <| tF h2 <| tF (rfl : false = false) <| tN
   exact runs_of (C := cfg) (objs := []) (sc := t_.ev) (.k1 t_.pf (by kernel_rfl) (by kernel_rfl))
 ·have h := some_of h
  subst h
  have t_ := tF h1 <| tF (rfl : false = false) <| tF (rfl : false = false) <| tN
  exact runs_of (C := cfg) (objs := []) (sc := t_.ev) (.k1 t_.pf (by kernel_rfl) (by kernel_rfl))
def kr15_before_out (a : Int) (a2 : Int) (b : Int) (b2 : Int) : Bool → Res
 | r1 => ([(.one (.pv (.bool r1)))], [], [])
noncomputable def kr15_before (a : Int) (a2 : Int) (b : Int) (b2 : Int) : Option (Bool) :=
 bif (decide ((a : Int) < b)) then
  some true
 else
  bif (decide ((a : Int) = b)) then
   some (decide ((a2 : Int) < b2))
  else
   some false
theorem kr15_before_runs (a : Int) (a2 : Int) (b : Int) (b2 : Int) (r_ : Bool) (h : kr15_before a a2 b b2 = some r_) : Runs Tryz.prog 69 [(.agg [(.pv (.int .i64 a)), (.pv (.int .u64 a2))]), (.agg [(.pv (.int .i64 b)), (.pv (.int .u64 b2))])] [] [] (kr15_before_out a a2 b b2 r_) := by
 unfold kr15_before at h
 rcases cond_of h with ⟨h1, h⟩ | ⟨h1, h⟩
 ·have h := some_of h
  subst h
  have t_ := tT h1 <| tN
  exact runs_of (C := cfg) (objs := []) (sc := t_.ev) (.k0 t_.pf (by kernel_rfl))
 ·rcases cond_of h with ⟨h2, h⟩ | ⟨h2, h⟩
  ·have h := some_of h
   subst h
   have t_ := tF h1 <| tT h2 <| tN
   exact runs_of (C := cfg) (objs := []) (sc := t_.ev) (.k0 t_.pf (by kernel_rfl))
  ·have h := some_of h
   subst h
   have t_ := tF h1 <| tF h2 <| tN
   exact runs_of (C := cfg) (objs := []) (sc := t_.ev) (.k0 t_.pf (by kernel_rfl))
def kr15_Done_3_out (no : Int) (n : Int) (n2 : Int) (r : List E_kr15_Gift) (l : List Int) (r2 : List E_kr15_Mark) : Int × List E_kr15_Gift → Res
 | (r1, r3) => ([(.one (.pv (.int .i64 r1)))], [[(.pv (.int .i64 n)), (.pv (.int .u64 n2)), (.pv (.recs 4 (List.map E_kr15_Gift.pv r3) false)), (.pv (.ints .i64 l false)), (.pv (.recs 2 (List.map E_kr15_Mark.pv r2) false))]], [])
def kr15_Done_L0_3_st (no : Int) (r : List E_kr15_Gift) (n : Int) (n2 : Int) (n3 : Int) (r2 : List E_kr15_Gift) (l : List Int) (r3 : List E_kr15_Mark) : Int → St
 | n4 => ⟨[(0, (.av (.one (.ref 0 0)))), (1, (.av (.one (.pv (.int .u64 no))))), (10, (.av (.one (.pv (.recs 4 (List.map E_kr15_Gift.pv r) false))))), (11, (.av (.one (.pv (.int .i64 n))))), (12, (.av (.one (.pv (.int .i64 n4)))))], [(0, [(.pv (.int .i64 n2)), (.pv (.int .u64 n3)), (.pv (.recs 4 (List.map E_kr15_Gift.pv r2) false)), (.pv (.ints .i64 l false)), (.pv (.recs 2 (List.map E_kr15_Mark.pv r3) false))])], []⟩
def kr15_Done_L0_3_ex (no : Int) (r : List E_kr15_Gift) (n : Int) (n2 : Int) (n3 : Int) (r2 : List E_kr15_Gift) (l : List Int) (r3 : List E_kr15_Mark) : (List E_kr15_Gift) ⊕ (Unit) → Ex × St
 | .inl r1 => (.ret, ⟨[(4, (.av (.one (.pv (.int .i64 0)))))], [(0, [(.pv (.int .i64 n2)), (.pv (.int .u64 n3)), (.own 0 0 ((List.map E_kr15_Gift.pv r1)).length false), (.pv (.ints .i64 l false)), (.pv (.recs 2 (List.map E_kr15_Mark.pv r3) false))])], [(0, (.live (.recs 4 (List.map E_kr15_Gift.pv r1))))]⟩)
 | .inr _ => ((.exit 0), ⟨[], [(0, [(.pv (.int .i64 n2)), (.pv (.int .u64 n3)), (.pv (.recs 4 (List.map E_kr15_Gift.pv r2) false)), (.pv (.ints .i64 l false)), (.pv (.recs 2 (List.map E_kr15_Mark.pv r3) false))])], []⟩)
noncomputable def kr15_Done_L0_3_step (no : Int) (r : List E_kr15_Gift) (n : Int) (n2 : Int) (n3 : Int) (r2 : List E_kr15_Gift) (l : List Int) (r3 : List E_kr15_Mark) : Int → Option ((Int) ⊕ ((List E_kr15_Gift) ⊕ (Unit)))
 | n4 =>
 bif (decide ((n4 : Int) < n)) then
  bif decide ((0 : Int) ≤ n4) && decide ((n4 : Int) < (((List.map E_kr15_Gift.pv r)).length : Int)) then
  (r[(n4).toNat]?).bind fun e_ => match e_ with
  | .mk n5 n6 n7 t =>
  bif (decide ((n5 : Int) = no)) then
   bif decide ((0 : Int) ≤ (iadd .i64 n4 1)) && decide (((iadd .i64 n4 1) : Int) ≤ (((List.map E_kr15_Gift.pv r2)).length : Int)) && decide (((((List.map E_kr15_Gift.pv r2)).length : Int) : Int) ≤ (((List.map E_kr15_Gift.pv r2)).length : Int)) && decide (((((List.map E_kr15_Gift.pv r2)).length : Int) : Int) = (((List.map E_kr15_Gift.pv r2)).length : Int)) then
   bif decide ((0 : Int) ≤ 0) && decide ((0 : Int) ≤ n4) && decide ((n4 : Int) ≤ (((List.map E_kr15_Gift.pv r2)).length : Int)) && decide ((n4 : Int) = n4) then
   bif Nat.beq ((List.take (n4 - 0).toNat (List.map E_kr15_Gift.pv r2))).length 0 then
    bif fits ((([] : List (List PV)) ++ (List.take ((((List.map E_kr15_Gift.pv r2)).length : Int) - (iadd .i64 n4 1)).toNat (List.drop ((iadd .i64 n4 1)).toNat (List.map E_kr15_Gift.pv r2))))).length then
    some (.inr (.inl ([] ++ (List.take ((((List.map E_kr15_Gift.pv r2)).length : Int) - (iadd .i64 n4 1)).toNat (List.drop ((iadd .i64 n4 1)).toNat r2)))))
    else none
   else
    bif fits ((([] : List (List PV)) ++ (List.take (n4 - 0).toNat (List.map E_kr15_Gift.pv r2)))).length then
    bif fits (((([] : List (List PV)) ++ (List.take (n4 - 0).toNat (List.map E_kr15_Gift.pv r2))) ++ (List.take ((((List.map E_kr15_Gift.pv r2)).length : Int) - (iadd .i64 n4 1)).toNat (List.drop ((iadd .i64 n4 1)).toNat (List.map E_kr15_Gift.pv r2))))).length then
    some (.inr (.inl (([] ++ (List.take (n4 - 0).toNat r2)) ++ (List.take ((((List.map E_kr15_Gift.pv r2)).length : Int) - (iadd .i64 n4 1)).toNat (List.drop ((iadd .i64 n4 1)).toNat r2)))))
    else none
    else none
   else none
   else none
  else
   some (.inl (iadd .i64 n4 1))
  else none
 else
  some (.inr (.inr ()))
theorem kr15_Done_L0_3_ok (no : Int) (r : List E_kr15_Gift) (n : Int) (n2 : Int) (n3 : Int) (r2 : List E_kr15_Gift) (l : List Int) (r3 : List E_kr15_Mark) (n4 : Int) (z_ : (Int) ⊕ ((List E_kr15_Gift) ⊕ (Unit))) (h : kr15_Done_L0_3_step no r n n2 n3 r2 l r3 n4 = some z_) : RoundOk Tryz.prog cfg 31 1 (loopAt Tryz.prog 31 0) (kr15_Done_L0_3_st no r n n2 n3 r2 l r3) (kr15_Done_L0_3_ex no r n n2 n3 r2 l r3) n4 z_ := by
 rcases cond_of h with ⟨h1, h⟩ | ⟨h1, h⟩
 ·obtain ⟨h2, h⟩ := need_of h
  obtain ⟨⟨n5, n6, n7, t⟩, h3, h⟩ := bind_of h
  rcases cond_of h with ⟨h4, h⟩ | ⟨h4, h⟩
  ·obtain ⟨h5, h⟩ := need_of h
   obtain ⟨h6, h⟩ := need_of h
   rcases cond_of h with ⟨h7, h⟩ | ⟨h7, h⟩
   ·obtain ⟨h8, h⟩ := need_of h
    have h := some_of h
    subst h
    have t_ := tT h1 <| tO h2 <| tE (.el [(.int .u64 n5), (.int .i64 n6), (.int .i64 n7), (T_kr01_ID.pv t)]) <| tO (el_of (f := E_kr15_Gift.pv) h3) <| tT h4 <| tO h5 <| tO h6 <| tO h5 <| tO h6 <| tO h6 <| tO h5 <| tT h7 <| tO h6 <| tO h5 <| tO h5 <| tT h7 <| tO (rfl : true = true) <| tO h8 <| tN
    exact ⟨t_.ev, ⟨[(4, (.av (.one (.pv (.int .i64 0)))))], [(0, [(.pv (.int .i64 n2)), (.pv (.int .u64 n3)), (.own 0 0 ((([] : List (List PV)) ++ (List.take ((((List.map E_kr15_Gift.pv r2)).length : Int) - (iadd .i64 n4 1)).toNat (List.drop ((iadd .i64 n4 1)).toNat (List.map E_kr15_Gift.pv r2))))).length false), (.pv (.ints .i64 l false)), (.pv (.recs 2 (List.map E_kr15_Mark.pv r3) false))])], [(0, (.live (.recs 4 (([] : List (List PV)) ++ (List.take ((((List.map E_kr15_Gift.pv r2)).length : Int) - (iadd .i64 n4 1)).toNat (List.drop ((iadd .i64 n4 1)).toNat (List.map E_kr15_Gift.pv r2)))))))]⟩, .k1 t_.pf (by kernel_rfl) (by kernel_rfl), ⟨⟨⟨_, rfl, .eq rfl⟩, trivial⟩, ⟨⟨rfl, ⟨.eq rfl, .eq rfl, .own (by first | rfl | (simp only [List.take_length]; done) | (simp; done) | (simp only [List.map_take, List.map_drop, List.map_append, List.take_length, List.nil_append]; done) | (simp only [List.length_map, List.take_length, List.length_append, List.drop_zero, List.map_append, List.map_take, List.map_drop, List.map_replicate, List.map_cons, List.map_nil, List.append_nil, List.nil_append]; done)), .eq rfl, .eq rfl, trivial⟩⟩, trivial⟩, ⟨⟨rfl, .recs (.app (.nil) (.eq (by first | rfl | (simp only [List.take_length]; done) | (simp; done) | (simp only [List.map_take, List.map_drop, List.map_append, List.take_length, List.nil_append]; done) | (simp only [List.length_map, List.take_length, List.length_append, List.drop_zero, List.map_append, List.map_take, List.map_drop, List.map_replicate, List.map_cons, List.map_nil, List.append_nil, List.nil_append]; done))))⟩, trivial⟩⟩⟩
   ·obtain ⟨h8, h⟩ := need_of h
    obtain ⟨h9, h⟩ := need_of h
    have h := some_of h
    subst h
    have t_ := tT h1 <| tO h2 <| tE (.el [(.int .u64 n5), (.int .i64 n6), (.int .i64 n7), (T_kr01_ID.pv t)]) <| tO (el_of (f := E_kr15_Gift.pv) h3) <| tT h4 <| tO h5 <| tO h6 <| tO h5 <| tO h6 <| tO h6 <| tO h5 <| tF (not_of h7) <| tO h8 <| tO h6 <| tO h5 <| tO h5 <| tF (not_of h7) <| tO h8 <| tO (show (Nat.beq ((([] : List (List PV)) ++ (List.take (n4 - 0).toNat (List.map E_kr15_Gift.pv r2)))).length ((([] : List (List PV)) ++ (List.take (n4 - 0).toNat (List.map E_kr15_Gift.pv r2)))).length) = true from Nat.beq_refl _) <| tO h9 <| tN
    exact ⟨t_.ev, ⟨[(4, (.av (.one (.pv (.int .i64 0)))))], [(0, [(.pv (.int .i64 n2)), (.pv (.int .u64 n3)), (.own 0 0 (((([] : List (List PV)) ++ (List.take (n4 - 0).toNat (List.map E_kr15_Gift.pv r2))) ++ (List.take ((((List.map E_kr15_Gift.pv r2)).length : Int) - (iadd .i64 n4 1)).toNat (List.drop ((iadd .i64 n4 1)).toNat (List.map E_kr15_Gift.pv r2))))).length false), (.pv (.ints .i64 l false)), (.pv (.recs 2 (List.map E_kr15_Mark.pv r3) false))])], [(0, (.live (.recs 4 ((([] : List (List PV)) ++ (List.take (n4 - 0).toNat (List.map E_kr15_Gift.pv r2))) ++ (List.take ((((List.map E_kr15_Gift.pv r2)).length : Int) - (iadd .i64 n4 1)).toNat (List.drop ((iadd .i64 n4 1)).toNat (List.map E_kr15_Gift.pv r2)))))))]⟩, .k1 t_.pf (by kernel_rfl) (by kernel_rfl), ⟨⟨⟨_, rfl, .eq rfl⟩, trivial⟩, ⟨⟨rfl, ⟨.eq rfl, .eq rfl, .own (by first | rfl | (simp only [List.take_length]; done) | (simp; done) | (simp only [List.map_take, List.map_drop, List.map_append, List.take_length, List.nil_append]; done) | (simp only [List.length_map, List.take_length, List.length_append, List.drop_zero, List.map_append, List.map_take, List.map_drop, List.map_replicate, List.map_cons, List.map_nil, List.append_nil, List.nil_append]; done)), .eq rfl, .eq rfl, trivial⟩⟩, trivial⟩, ⟨⟨rfl, .recs (.app (.app (.nil) (.eq (by first | rfl | (simp only [List.take_length]; done) | (simp; done) | (simp only [List.map_take, List.map_drop, List.map_append, List.take_length, List.nil_append]; done) | (simp only [List.length_map, List.take_length, List.length_append, List.drop_zero, List.map_append, List.map_take, List.map_drop, List.map_replicate, List.map_cons, List.map_nil, List.append_nil, List.nil_append]; done)))) (.eq (by first | rfl | (simp only [List.take_length]; done) | (simp; done) | (simp only [List.map_take, List.map_drop, List.map_append, List.take_length, List.nil_append]; done) | (simp only [List.length_map, List.take_length, List.length_append, List.drop_zero, List.map_append, List.map_take, List.map_drop, List.map_replicate, List.map_cons, List.map_nil, List.append_nil, List.nil_append]; done))))⟩, trivial⟩⟩⟩
  ·have h := some_of h
   subst h
   have t_ := tT h1 <| tO h2 <| tE (.el [(.int .u64 n5), (.int .i64 n6), (.int .i64 n7), (T_kr01_ID.pv t)]) <| tO (el_of (f := E_kr15_Gift.pv) h3) <| tF h4 <| tN
   exact ⟨t_.ev, kr15_Done_L0_3_st no r n n2 n3 r2 l r3 (iadd .i64 n4 1), .k0 t_.pf (by kernel_rfl), .same (by kernel_rfl)⟩
 ·have h := some_of h
  subst h
  have t_ := tF h1 <| tN
  exact ⟨t_.ev, ⟨[(13, (.av (.one (.pv (.bool false))))), (0, (.av (.one (.ref 0 0)))), (1, (.av (.one (.pv (.int .u64 no))))), (10, (.av (.one (.pv (.recs 4 (List.map E_kr15_Gift.pv r) false))))), (11, (.av (.one (.pv (.int .i64 n))))), (12, (.av (.one (.pv (.int .i64 n4))))), (13, (.av (.one (.pv (.bool (decide ((n4 : Int) < n)))))))], [(0, [(.pv (.int .i64 n2)), (.pv (.int .u64 n3)), (.pv (.recs 4 (List.map E_kr15_Gift.pv r2) false)), (.pv (.ints .i64 l false)), (.pv (.recs 2 (List.map E_kr15_Mark.pv r3) false))])], []⟩, .k0 t_.pf (by kernel_rfl), ⟨trivial, ⟨⟨rfl, ⟨.eq rfl, .eq rfl, .eq rfl, .eq rfl, .eq rfl, trivial⟩⟩, trivial⟩, trivial⟩⟩
theorem kr15_Done_L0_3_runs (no : Int) (r : List E_kr15_Gift) (n : Int) (n2 : Int) (n3 : Int) (r2 : List E_kr15_Gift) (l : List Int) (r3 : List E_kr15_Mark) (s_ : Int) (r_ : (List E_kr15_Gift) ⊕ (Unit)) (h : runL (kr15_Done_L0_3_step no r n n2 n3 r2 l r3) s_ = some r_) : LRuns Tryz.prog (lEnv Tryz.prog cfg 31 1).nt 1 (.loop (loopAt Tryz.prog 31 0)) (kr15_Done_L0_3_st no r n n2 n3 r2 l r3 s_) (kr15_Done_L0_3_ex no r n n2 n3 r2 l r3 r_).1 (kr15_Done_L0_3_ex no r n n2 n3 r2 l r3 r_).2 :=
 loop_run h (kr15_Done_L0_3_ok no r n n2 n3 r2 l r3) (by intro r_; rcases r_ with r1 | _ <;> simp [kr15_Done_L0_3_ex])
noncomputable def kr15_Done_3 (no : Int) (n : Int) (n2 : Int) (r : List E_kr15_Gift) (l : List Int) (r2 : List E_kr15_Mark) : Option (Int × List E_kr15_Gift) :=
 (runL (kr15_Done_L0_3_step no r (((List.map E_kr15_Gift.pv r)).length : Int) n n2 r l r2) 0).bind fun z_ => match z_ with
 | .inl r3 =>
  some (0, (List.take ((List.map E_kr15_Gift.pv r3)).length r3))
 | .inr _ =>
  some (2, r)
theorem kr15_Done_3_runs (no : Int) (n : Int) (n2 : Int) (r : List E_kr15_Gift) (l : List Int) (r2 : List E_kr15_Mark) (r_ : Int × List E_kr15_Gift) (h : kr15_Done_3 no n n2 r l r2 = some r_) : Runs Tryz.prog 31 [(.one (.ref 0 0)), (.one (.pv (.int .u64 no)))] [[(.pv (.int .i64 n)), (.pv (.int .u64 n2)), (.pv (.recs 4 (List.map E_kr15_Gift.pv r) false)), (.pv (.ints .i64 l false)), (.pv (.recs 2 (List.map E_kr15_Mark.pv r2) false))]] [] (kr15_Done_3_out no n n2 r l r2 r_) := by
 unfold kr15_Done_3 at h
 obtain ⟨z_, h1, h⟩ := bind_of h
 rcases z_ with r3 | _
 ·have h := some_of h
  subst h
  have t_ := tL (kr15_Done_L0_3_runs no r (((List.map E_kr15_Gift.pv r)).length : Int) n n2 r l r2 _ _ h1) <| tN
  have e_ : Runs Tryz.prog 31 [(.one (.ref 0 0)), (.one (.pv (.int .u64 no)))] [[(.pv (.int .i64 n)), (.pv (.int .u64 n2)), (.pv (.recs 4 (List.map E_kr15_Gift.pv r) false)), (.pv (.ints .i64 l false)), (.pv (.recs 2 (List.map E_kr15_Mark.pv r2) false))]] [] ([(.one (.pv (.int .i64 0)))], [[(.pv (.int .i64 n)), (.pv (.int .u64 n2)), (.own 0 0 ((List.map E_kr15_Gift.pv r3)).length false), (.pv (.ints .i64 l false)), (.pv (.recs 2 (List.map E_kr15_Mark.pv r2) false))]], [(.recs 4 (List.map E_kr15_Gift.pv r3))]) := runs_of (C := cfg) (objs := [[(.pv (.int .i64 n)), (.pv (.int .u64 n2)), (.pv (.recs 4 (List.map E_kr15_Gift.pv r) false)), (.pv (.ints .i64 l false)), (.pv (.recs 2 (List.map E_kr15_Mark.pv r2) false))]]) (sc := t_.ev) (.k0 t_.pf (by kernel_rfl))
  have e_ := e_.shut (res' := ([(.one (.pv (.int .i64 0)))], [[(.pv (.int .i64 n)), (.pv (.int .u64 n2)), (.pv (.recs 4 (List.take ((List.map E_kr15_Gift.pv r3)).length (List.map E_kr15_Gift.pv r3)) false)), (.pv (.ints .i64 l false)), (.pv (.recs 2 (List.map E_kr15_Mark.pv r2) false))]], [])) [0] (by kernel_rfl)
  exact e_.out ⟨.eq rfl, trivial⟩ ⟨⟨.eq rfl, .eq rfl, .pv (.recsT (.eq (by first | rfl | (simp only [List.take_length]; done) | (simp; done) | (simp only [List.map_take, List.map_drop, List.map_append, List.take_length, List.nil_append]; done) | (simp only [List.length_map, List.take_length, List.length_append, List.drop_zero, List.map_append, List.map_take, List.map_drop, List.map_replicate, List.map_cons, List.map_nil, List.append_nil, List.nil_append]; done)))), .eq rfl, .eq rfl, trivial⟩, trivial⟩ trivial rfl
 ·have h := some_of h
  subst h
  have t_ := tL (kr15_Done_L0_3_runs no r (((List.map E_kr15_Gift.pv r)).length : Int) n n2 r l r2 _ _ h1) <| tN
  exact runs_of (C := cfg) (objs := [[(.pv (.int .i64 n)), (.pv (.int .u64 n2)), (.pv (.recs 4 (List.map E_kr15_Gift.pv r) false)), (.pv (.ints .i64 l false)), (.pv (.recs 2 (List.map E_kr15_Mark.pv r2) false))]]) (sc := t_.ev) (.k0 t_.pf (by kernel_rfl))
def kr15_Take_3_out (g : Int) (g2 : Int) (g3 : Int) (g4 : T_kr01_ID) (n : Int) (n2 : Int) (r : List E_kr15_Gift) (l : List Int) (r2 : List E_kr15_Mark) : Int × List E_kr15_Mark → Res
 | (r1, r3) => ([(.one (.pv (.int .i64 r1)))], [[(.pv (.int .i64 n)), (.pv (.int .u64 n2)), (.pv (.recs 4 (List.map E_kr15_Gift.pv r) false)), (.pv (.ints .i64 l false)), (.pv (.recs 2 (List.map E_kr15_Mark.pv r3) false))]], [])
def kr15_Took_3_out (m : Int) (m2 : Int) (n : Int) (n2 : Int) (r : List E_kr15_Gift) (l : List Int) (r2 : List E_kr15_Mark) : Bool → Res
 | r1 => ([(.one (.pv (.bool r1)))], [[(.pv (.int .i64 n)), (.pv (.int .u64 n2)), (.pv (.recs 4 (List.map E_kr15_Gift.pv r) false)), (.pv (.ints .i64 l false)), (.pv (.recs 2 (List.map E_kr15_Mark.pv r2) false))]], [])
end Go.Proofs.YtjjcmgdgifcmgaaGreat
