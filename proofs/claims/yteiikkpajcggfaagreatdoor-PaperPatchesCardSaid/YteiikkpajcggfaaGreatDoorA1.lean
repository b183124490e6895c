/- What functions compute, and that they do. -/
import Derived.Test.YteiikkpajcggfaaGreatDoorCfg
import Derived.Test.YteiikkpajcggfaaGreatDoorM1
import Derived.Test.YteiikkpajcggfaaGreatDoorM3
set_option linter.unusedVariables false
set_option linter.unusedSimpArgs false
set_option maxRecDepth 100000
namespace Go.Proofs.YteiikkpajcggfaaGreatDoor
open Go.Ev
theorem slices_Clone_card_Field_nil  : evFn Tryz.prog cfg (Calld Tryz.prog) (LRuns Tryz.prog (lEnv Tryz.prog cfg 61 0).nt 0) 61 [(.one (.pv .nils))] [] []
  [.br true] =
 some (([(.one (.pv .nils))], [], []), obs [
  true = true]) := by kernel_rfl
theorem slices_Clone_card_Field_emp  : evFn Tryz.prog cfg (Calld Tryz.prog) (LRuns Tryz.prog (lEnv Tryz.prog cfg 61 0).nt 0) 61 [(.one (.pv .emp))] [] []
  [.br false, .br true] =
 some (([(.one (.own 0 0 0 false))], [], [(.recs 3 [])]), obs [
  false = false,
  true = true]) := by kernel_rfl
theorem slices_Clone_card_Field_fn (l : List E_card_Field) : evFn Tryz.prog cfg (Calld Tryz.prog) (LRuns Tryz.prog (lEnv Tryz.prog cfg 61 0).nt 0) 61 [(.one (.pv (.recs 3 (List.map E_card_Field.pv l) false)))] [] []
  [.br false, .br false] =
 some (([(.one (.own 0 0 ((([] : List (List PV)) ++ (List.map E_card_Field.pv l))).length false))], [], [(.recs 3 (([] : List (List PV)) ++ (List.map E_card_Field.pv l)))]), obs [
  (!(Nat.beq ((List.map E_card_Field.pv l)).length 0)) = true,
  false = false,
  (!(Nat.beq ((List.map E_card_Field.pv l)).length 0)) = true,
  (fits ((([] : List (List PV)) ++ (List.map E_card_Field.pv l))).length) = true]) := by kernel_rfl
noncomputable def slices_Clone_card_Field (l : List E_card_Field) : Option Unit := if fits l.length = true then some () else none
def slices_Clone_card_Field_out (l : List E_card_Field) : Unit → Res
 | _ => ([(.one (.own 0 0 (List.map E_card_Field.pv l).length false))], [], [(.recs 3 (List.map E_card_Field.pv l))])
theorem slices_Clone_card_Field_runs (l : List E_card_Field) (r_ : Unit) (h : slices_Clone_card_Field l = some r_) : Runs Tryz.prog 61 [(.one (.pv (.recs 3 (List.map E_card_Field.pv l) false)))] [] [] (slices_Clone_card_Field_out l r_) := by
 unfold slices_Clone_card_Field at h
 split at h
 ·rename_i hf
  cases l with
  | nil =>
   have h1 : Runs Tryz.prog 61 [.one (.pv .nils)] [] [] ([.one (.own 0 0 0 false)], [], [.recs 3 []]) := Runs.void (by decide) (runs_of (Says.of slices_Clone_card_Field_nil ⟨rfl, trivial⟩))
   have h2 : Runs Tryz.prog 61 [.one (.pv .emp)] [] [] ([.one (.own 0 0 0 false)], [], [.recs 3 []]) := runs_of (Says.of slices_Clone_card_Field_emp ⟨rfl, rfl, trivial⟩)
   refine h1.split h2 fun x vals hr => ?_
   match vals, hr with
   | [v], hr =>
    rcases rep_emptyR hr.1 with h | h
    ·exact .inl ⟨h, trivial⟩
    ·exact .inr ⟨h, trivial⟩
  | cons a l =>
   have H := slices_Clone_card_Field_fn (a :: l)
   rw [List.nil_append] at H
   exact runs_of (Says.of H ⟨by simp [Nat.beq], rfl, by simp [Nat.beq], by simpa using hf, trivial⟩)
 ·cases h
theorem slices_Clone_int_nil  : evFn Tryz.prog cfg (Calld Tryz.prog) (LRuns Tryz.prog (lEnv Tryz.prog cfg 14 0).nt 0) 14 [(.one (.pv .nils))] [] []
  [.br true] =
 some (([(.one (.pv .nils))], [], []), obs [
  true = true]) := by kernel_rfl
theorem slices_Clone_int_emp  : evFn Tryz.prog cfg (Calld Tryz.prog) (LRuns Tryz.prog (lEnv Tryz.prog cfg 14 0).nt 0) 14 [(.one (.pv .emp))] [] []
  [.br false, .br true] =
 some (([(.one (.own 0 0 0 false))], [], [(.ints .i64 [])]), obs [
  false = false,
  true = true]) := by kernel_rfl
theorem slices_Clone_int_fn (l : List Int) : evFn Tryz.prog cfg (Calld Tryz.prog) (LRuns Tryz.prog (lEnv Tryz.prog cfg 14 0).nt 0) 14 [(.one (.pv (.ints .i64 l false)))] [] []
  [.br false, .br false] =
 some (([(.one (.own 0 0 (([] ++ l)).length false))], [], [(.ints .i64 ([] ++ l))]), obs [
  (!(Nat.beq (l).length 0)) = true,
  false = false,
  (!(Nat.beq (l).length 0)) = true,
  (fits (([] ++ l)).length) = true]) := by kernel_rfl
noncomputable def slices_Clone_int (l : List Int) : Option Unit := if fits l.length = true then some () else none
def slices_Clone_int_out (l : List Int) : Unit → Res
 | _ => ([(.one (.own 0 0 l.length false))], [], [(.ints .i64 l)])
theorem slices_Clone_int_runs (l : List Int) (r_ : Unit) (h : slices_Clone_int l = some r_) : Runs Tryz.prog 14 [(.one (.pv (.ints .i64 l false)))] [] [] (slices_Clone_int_out l r_) := by
 unfold slices_Clone_int at h
 split at h
 ·rename_i hf
  cases l with
  | nil =>
   have h1 : Runs Tryz.prog 14 [.one (.pv .nils)] [] [] ([.one (.own 0 0 0 false)], [], [.ints .i64 []]) := Runs.void (by decide) (runs_of (Says.of slices_Clone_int_nil ⟨rfl, trivial⟩))
   have h2 : Runs Tryz.prog 14 [.one (.pv .emp)] [] [] ([.one (.own 0 0 0 false)], [], [.ints .i64 []]) := runs_of (Says.of slices_Clone_int_emp ⟨rfl, rfl, trivial⟩)
   refine h1.split h2 fun x vals hr => ?_
   match vals, hr with
   | [v], hr =>
    rcases rep_empty hr.1 with h | h
    ·exact .inl ⟨h, trivial⟩
    ·exact .inr ⟨h, trivial⟩
  | cons a l =>
   have H := slices_Clone_int_fn (a :: l)
   rw [List.nil_append] at H
   exact runs_of (Says.of H ⟨by simp [Nat.beq], rfl, by simp [Nat.beq], by simpa using hf, trivial⟩)
 ·cases h
def card_order_out (a : Int) (a2 : ByteArray) (a3 : ByteArray) (b : Int) (b2 : ByteArray) (b3 : ByteArray) : Int → Res
 | r1 => ([(.one (.pv (.int .i64 r1)))], [], [])
def cmp_Compare_int_out (x : Int) (y : Int) : Int → Res
 | r1 => ([(.one (.pv (.int .i64 r1)))], [], [])
def cmp_isNaN_int_out (x : Int) : Bool → Res
 | r1 => ([(.one (.pv (.bool r1)))], [], [])
noncomputable def cmp_isNaN_int (x : Int) : Option (Bool) :=
 some (!(decide ((x : Int) = x)))
theorem cmp_isNaN_int_runs [DLaw] (x : Int) (r_ : Bool) (h : cmp_isNaN_int x = some r_) : Runs Tryz.prog 149 [(.one (.pv (.int .i64 x)))] [] [] (cmp_isNaN_int_out x r_) := by
 unfold cmp_isNaN_int at h
 have h := some_of h
 subst h
 have t_ := tN
 exact runs_of (C := cfg) (objs := []) (sc := t_.ev) (.k0 t_.pf (by kernel_rfl))
noncomputable def cmp_Compare_int (x : Int) (y : Int) : Option (Int) :=
 (cmp_isNaN_int x).bind fun b =>
 (cmp_isNaN_int y).bind fun b2 =>
 bif b then
  bif b2 then
   some 0
  else
   some (-1)
 else
  bif b2 then
   some 1
  else
   bif (decide ((x : Int) < y)) then
    some (-1)
   else
    bif (decide ((y : Int) < x)) then
     some 1
    else
     some 0
theorem cmp_Compare_int_runs [DLaw] (x : Int) (y : Int) (r_ : Int) (h : cmp_Compare_int x y = some r_) : Runs Tryz.prog 123 [(.one (.pv (.int .i64 x))), (.one (.pv (.int .i64 y)))] [] [] (cmp_Compare_int_out x y r_) := by
 unfold cmp_Compare_int at h
 obtain ⟨b, h1, h⟩ := bind_of h
 obtain ⟨b2, h2, h⟩ := bind_of h
 rcases cond_of h with ⟨h3, h⟩ | ⟨h3, h⟩
 ·rcases cond_of h with ⟨h4, h⟩ | ⟨h4, h⟩
  ·have h := some_of h
   subst h
   have t_ := tR (cmp_isNaN_int_runs x _ h1) <| tR (cmp_isNaN_int_runs y _ h2) <| tT h3 <| tT h4 <| tN
   exact runs_of (C := cfg) (objs := []) (sc := t_.ev) (.k0 t_.pf (by kernel_rfl))
  ·have h := some_of h
   subst h
   have t_ := tR (cmp_isNaN_int_runs x _ h1) <| tR (cmp_isNaN_int_runs y _ h2) <| tT h3 <| tF h4 <| tN
   exact runs_of (C := cfg) (objs := []) (sc := t_.ev) (.k0 t_.pf (by kernel_rfl))
 ·rcases cond_of h with ⟨h4, h⟩ | ⟨h4, h⟩
  ·have h := some_of h
   subst h
   have t_ := tR (cmp_isNaN_int_runs x _ h1) <| tR (cmp_isNaN_int_runs y _ h2) <| tF h3 <| tT h4 <| tN
   exact runs_of (C := cfg) (objs := []) (sc := t_.ev) (.k0 t_.pf (by kernel_rfl))
  ·rcases cond_of h with ⟨h5, h⟩ | ⟨h5, h⟩
   ·have h := some_of h
    subst h
    have t_ := tR (cmp_isNaN_int_runs x _ h1) <| tR (cmp_isNaN_int_runs y _ h2) <| tF h3 <| tF h4 <| tT h5 <| tN
    exact runs_of (C := cfg) (objs := []) (sc := t_.ev) (.k0 t_.pf (by kernel_rfl))
   ·rcases cond_of h with ⟨h6, h⟩ | ⟨h6, h⟩
    ·have h := some_of h
     subst h
     have t_ := tR (cmp_isNaN_int_runs x _ h1) <| tR (cmp_isNaN_int_runs y _ h2) <| tF h3 <| tF h4 <| tF h5 <| tT h6 <| tN
     exact runs_of (C := cfg) (objs := []) (sc := t_.ev) (.k0 t_.pf (by kernel_rfl))
    ·have h := some_of h
     subst h
     have t_ := tR (cmp_isNaN_int_runs x _ h1) <| tR (cmp_isNaN_int_runs y _ h2) <| tF h3 <| tF h4 <| tF h5 <| tF h6 <| tN
     exact runs_of (C := cfg) (objs := []) (sc := t_.ev) (.k0 t_.pf (by kernel_rfl))
def cmp_Compare_string_out (x : ByteArray) (y : ByteArray) : Int → Res
 | r1 => ([(.one (.pv (.int .i64 r1)))], [], [])
def cmp_isNaN_string_out (x : ByteArray) : Bool → Res
 | r1 => ([(.one (.pv (.bool r1)))], [], [])
noncomputable def cmp_isNaN_string (x : ByteArray) : Option (Bool) :=
 some (!decide (x = x))
theorem cmp_isNaN_string_runs [DLaw] (x : ByteArray) (r_ : Bool) (h : cmp_isNaN_string x = some r_) : Runs Tryz.prog 150 [(.one (.pv (.str x)))] [] [] (cmp_isNaN_string_out x r_) := by
 unfold cmp_isNaN_string at h
 have h := some_of h
 subst h
 have t_ := tN
 exact runs_of (C := cfg) (objs := []) (sc := t_.ev) (.k0 t_.pf (by kernel_rfl))
noncomputable def cmp_Compare_string (x : ByteArray) (y : ByteArray) : Option (Int) :=
 (cmp_isNaN_string x).bind fun b =>
 (cmp_isNaN_string y).bind fun b2 =>
 bif b then
  bif b2 then
   some 0
  else
   some (-1)
 else
  bif b2 then
   some 1
  else
   bif (Op.bytesLess (x).toList (y).toList) then
    some (-1)
   else
    bif ((Op.bytesLess (x).toList (y).toList) || (decide (x = y))) then
     some 0
    else
     some 1
theorem cmp_Compare_string_runs [DLaw] (x : ByteArray) (y : ByteArray) (r_ : Int) (h : cmp_Compare_string x y = some r_) : Runs Tryz.prog 124 [(.one (.pv (.str x))), (.one (.pv (.str y)))] [] [] (cmp_Compare_string_out x y r_) := by
 unfold cmp_Compare_string at h
 obtain ⟨b, h1, h⟩ := bind_of h
 obtain ⟨b2, h2, h⟩ := bind_of h
 rcases cond_of h with ⟨h3, h⟩ | ⟨h3, h⟩
 ·rcases cond_of h with ⟨h4, h⟩ | ⟨h4, h⟩
  ·have h := some_of h
   subst h
   have t_ := tR (cmp_isNaN_string_runs x _ h1) <| tR (cmp_isNaN_string_runs y _ h2) <| tT h3 <| tT h4 <| tN
   exact runs_of (C := cfg) (objs := []) (sc := t_.ev) (.k0 t_.pf (by kernel_rfl))
  ·have h := some_of h
   subst h
   have t_ := tR (cmp_isNaN_string_runs x _ h1) <| tR (cmp_isNaN_string_runs y _ h2) <| tT h3 <| tF h4 <| tN
   exact runs_of (C := cfg) (objs := []) (sc := t_.ev) (.k0 t_.pf (by kernel_rfl))
 ·rcases cond_of h with ⟨h4, h⟩ | ⟨h4, h⟩
  ·have h := some_of h
   subst h
   have t_ := tR (cmp_isNaN_string_runs x _ h1) <| tR (cmp_isNaN_string_runs y _ h2) <| tF h3 <| tT h4 <| tN
   exact runs_of (C := cfg) (objs := []) (sc := t_.ev) (.k0 t_.pf (by kernel_rfl))
  ·rcases cond_of h with ⟨h5, h⟩ | ⟨h5, h⟩
   ·have h := some_of h
    subst h
    have t_ := tR (cmp_isNaN_string_runs x _ h1) <| tR (cmp_isNaN_string_runs y _ h2) <| tF h3 <| tF h4 <| tT h5 <| tN
    exact runs_of (C := cfg) (objs := []) (sc := t_.ev) (.k0 t_.pf (by kernel_rfl))
   ·rcases cond_of h with ⟨h6, h⟩ | ⟨h6, h⟩
    ·have h := some_of h
     subst h
     have t_ := tR (cmp_isNaN_string_runs x _ h1) <| tR (cmp_isNaN_string_runs y _ h2) <| tF h3 <| tF h4 <| tF h5 <| tF (not_of2 h6) <| tN
     exact runs_of (C := cfg) (objs := []) (sc := t_.ev) (.k0 t_.pf (by kernel_rfl))
    ·have h := some_of h
     subst h
     have t_ := tR (cmp_isNaN_string_runs x _ h1) <| tR (cmp_isNaN_string_runs y _ h2) <| tF h3 <| tF h4 <| tF h5 <| tT (not_of h6) <| tN
     exact runs_of (C := cfg) (objs := []) (sc := t_.ev) (.k0 t_.pf (by kernel_rfl))
def cmp_Or_int_out (vals : List Int) : Int → Res
 | r1 => ([(.one (.pv (.int .i64 r1)))], [], [])
def cmp_Or_int_L0_st (l : List Int) (n : Int) : Int → St
 | n2 => ⟨[(3, (.av (.one (.pv (.int .i64 0))))), (6, (.av (.one (.pv (.ints .i64 l false))))), (7, (.av (.one (.pv (.int .i64 n))))), (8, (.av (.one (.pv (.int .i64 n2)))))], [], []⟩
def cmp_Or_int_L0_ex (l : List Int) (n : Int) : (Int) ⊕ (Unit) → Ex × St
 | .inl r1 => (.ret, ⟨[(2, (.av (.one (.pv (.int .i64 r1)))))], [], []⟩)
 | .inr _ => ((.exit 0), ⟨[(3, (.av (.one (.pv (.int .i64 0)))))], [], []⟩)
noncomputable def cmp_Or_int_L0_step (l : List Int) (n : Int) : Int → Option ((Int) ⊕ ((Int) ⊕ (Unit)))
 | n2 =>
 bif (decide ((n2 : Int) < n)) then
  bif decide ((0 : Int) ≤ n2) && decide ((n2 : Int) < ((l).length : Int)) then
  bif (decide (((l.getD (n2).toNat 0) : Int) = 0)) then
   some (.inl (iadd .i64 n2 1))
  else
   some (.inr (.inl (l.getD (n2).toNat 0)))
  else none
 else
  some (.inr (.inr ()))
theorem cmp_Or_int_L0_ok [DLaw] (l : List Int) (n : Int) (n2 : Int) (z_ : (Int) ⊕ ((Int) ⊕ (Unit))) (h : cmp_Or_int_L0_step l n n2 = some z_) : RoundOk Tryz.prog cfg 122 0 (loopAt Tryz.prog 122 0) (cmp_Or_int_L0_st l n) (cmp_Or_int_L0_ex l n) n2 z_ := by
 rcases cond_of h with ⟨h1, h⟩ | ⟨h1, h⟩
 ·obtain ⟨h2, h⟩ := need_of h
  rcases cond_of h with ⟨h3, h⟩ | ⟨h3, h⟩
  ·have h := some_of h
   subst h
   have t_ := tT h1 <| tO h2 <| tF (not_of2 h3) <| tN
   exact ⟨t_.ev, cmp_Or_int_L0_st l n (iadd .i64 n2 1), .k0 t_.pf (by kernel_rfl), .same (by kernel_rfl)⟩
  ·have h := some_of h
   subst h
   have t_ := tT h1 <| tO h2 <| tT (not_of h3) <| tN
   exact ⟨t_.ev, (cmp_Or_int_L0_ex l n (.inl (l.getD (n2).toNat 0))).2, .k0 t_.pf (by kernel_rfl), .same (by kernel_rfl)⟩
 ·have h := some_of h
  subst h
  have t_ := tF h1 <| tN
  exact ⟨t_.ev, ⟨[(9, (.av (.one (.pv (.bool false))))), (3, (.av (.one (.pv (.int .i64 0))))), (6, (.av (.one (.pv (.ints .i64 l false))))), (7, (.av (.one (.pv (.int .i64 n))))), (8, (.av (.one (.pv (.int .i64 n2))))), (9, (.av (.one (.pv (.bool (decide ((n2 : Int) < n)))))))], [], []⟩, .k0 t_.pf (by kernel_rfl), ⟨⟨⟨_, rfl, .eq rfl⟩, trivial⟩, trivial, trivial⟩⟩
theorem cmp_Or_int_L0_runs [DLaw] (l : List Int) (n : Int) (s_ : Int) (r_ : (Int) ⊕ (Unit)) (h : runL (cmp_Or_int_L0_step l n) s_ = some r_) : LRuns Tryz.prog (lEnv Tryz.prog cfg 122 0).nt 0 (.loop (loopAt Tryz.prog 122 0)) (cmp_Or_int_L0_st l n s_) (cmp_Or_int_L0_ex l n r_).1 (cmp_Or_int_L0_ex l n r_).2 :=
 loop_run h (cmp_Or_int_L0_ok l n) (by intro r_; rcases r_ with r1 | _ <;> simp [cmp_Or_int_L0_ex])
noncomputable def cmp_Or_int (vals : List Int) : Option (Int) :=
 (runL (cmp_Or_int_L0_step vals ((vals).length : Int)) 0).bind fun z_ => match z_ with
 | .inl n =>
  some n
 | .inr _ =>
  some 0
theorem cmp_Or_int_runs [DLaw] (vals : List Int) (r_ : Int) (h : cmp_Or_int vals = some r_) : Runs Tryz.prog 122 [(.one (.pv (.ints .i64 vals false)))] [] [] (cmp_Or_int_out vals r_) := by
 unfold cmp_Or_int at h
 obtain ⟨z_, h1, h⟩ := bind_of h
 rcases z_ with n | _
 ·have h := some_of h
  subst h
  have t_ := tL (cmp_Or_int_L0_runs vals ((vals).length : Int) _ _ h1) <| tN
  exact runs_of (C := cfg) (objs := []) (sc := t_.ev) (.k0 t_.pf (by kernel_rfl))
 ·have h := some_of h
  subst h
  have t_ := tL (cmp_Or_int_L0_runs vals ((vals).length : Int) _ _ h1) <| tN
  exact runs_of (C := cfg) (objs := []) (sc := t_.ev) (.k0 t_.pf (by kernel_rfl))
noncomputable def card_order (a : Int) (a2 : ByteArray) (a3 : ByteArray) (b : Int) (b2 : ByteArray) (b3 : ByteArray) : Option (Int) :=
 (cmp_Compare_int a b).bind fun n =>
 (cmp_Compare_string a2 b2).bind fun n2 =>
 (cmp_Compare_string a3 b3).bind fun n3 =>
 (cmp_Or_int [n, n2, n3]).bind fun n4 =>
 some n4
theorem card_order_runs [DLaw] (a : Int) (a2 : ByteArray) (a3 : ByteArray) (b : Int) (b2 : ByteArray) (b3 : ByteArray) (r_ : Int) (h : card_order a a2 a3 b b2 b3 = some r_) : Runs Tryz.prog 96 [(.agg [(.pv (.int .i64 a)), (.pv (.str a2)), (.pv (.str a3))]), (.agg [(.pv (.int .i64 b)), (.pv (.str b2)), (.pv (.str b3))])] [] [] (card_order_out a a2 a3 b b2 b3 r_) := by
 unfold card_order at h
 obtain ⟨n, h1, h⟩ := bind_of h
 obtain ⟨n2, h2, h⟩ := bind_of h
 obtain ⟨n3, h3, h⟩ := bind_of h
 obtain ⟨n4, h4, h⟩ := bind_of h
 have h := some_of h
 subst h
 have t_ := tR (cmp_Compare_int_runs a b _ h1) <| tR (cmp_Compare_int_runs a b _ h1) <| tR (cmp_Compare_int_runs a b _ h1) <| tR (cmp_Compare_int_runs a b _ h1) <| tR (cmp_Compare_int_runs a b _ h1) <| tR (cmp_Compare_int_runs a b _ h1) <| tR (cmp_Compare_int_runs a b _ h1) <| tR (cmp_Compare_int_runs a b _ h1) <| tR (cmp_Compare_int_runs a b _ h1) <| tR (cmp_Compare_int_runs a b _ h1) <| tR (cmp_Compare_int_runs a b _ h1) <| tR (cmp_Compare_int_runs a b _ h1) <| tR (cmp_Compare_int_runs a b _ h1) <| tR (cmp_Compare_int_runs a b _ h1) <| tR (cmp_Compare_int_runs a b _ h1) <| tR (cmp_Compare_string_runs a2 b2 _ h2) <| tR (cmp_Compare_string_runs a2 b2 _ h2) <| tR (cmp_Compare_string_runs a2 b2 _ h2) <| tR (cmp_Compare_int_runs a b _ h1) <| tR (cmp_Compare_string_runs a2 b2 _ h2) <| tR (cmp_Compare_string_runs a3 b3 _ h3) <| tR (Runs.coe (as' := [(.one (.pv (.ints .i64 [n, n2, n3] true)))]) (objs' := []) (rows' := []) (cmp_Or_int_runs [n, n2, n3] _ h4) ⟨.pv (.ints rfl), trivial⟩ trivial trivial) <| tN
 exact runs_of (C := cfg) (objs := []) (sc := t_.ev) (.k1 t_.pf (by kernel_rfl) (by kernel_rfl))
end Go.Proofs.YteiikkpajcggfaaGreatDoor
