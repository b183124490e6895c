/- What functions compute, and that they do. -/
import Derived.Test.YtjjcmgdgifcmgaaGreatCfg
set_option linter.unusedVariables false
set_option linter.unusedSimpArgs false
set_option maxRecDepth 100000
namespace Go.Proofs.YtjjcmgdgifcmgaaGreat
open Go.Ev
theorem bytes_Clone_nil  : evFn Tryz.prog cfg (Calld Tryz.prog) (LRuns Tryz.prog (lEnv Tryz.prog cfg 93 0).nt 0) 93 [(.one (.pv .nils))] [] []
  [.br true] =
 some (([(.one (.pv .nils))], [], []), obs [
  true = true]) := by kernel_rfl
theorem bytes_Clone_emp  : evFn Tryz.prog cfg (Calld Tryz.prog) (LRuns Tryz.prog (lEnv Tryz.prog cfg 93 0).nt 0) 93 [(.one (.pv .emp))] [] []
  [.br false, .br true] =
 some (([(.one (.own 0 0 0 false))], [], [(.ints .u8 [])]), obs [
  false = false,
  true = true]) := by kernel_rfl
theorem bytes_Clone_fn (l : List Int) (t : Bool) : evFn Tryz.prog cfg (Calld Tryz.prog) (LRuns Tryz.prog (lEnv Tryz.prog cfg 93 0).nt 0) 93 [(.one (.pv (.ints .u8 l t)))] [] []
  [.br false, .br false] =
 some (([(.one (.own 0 0 (([] ++ l)).length false))], [], [(.ints .u8 ([] ++ l))]), obs [
  (!(Nat.beq (l).length 0)) = true,
  false = false,
  (!(Nat.beq (l).length 0)) = true,
  (fits (([] ++ l)).length) = true]) := by kernel_rfl
theorem bytes_Clone_runs {l : List Int} {t : Bool} (hl : fits l.length = true) : Runs Tryz.prog 93 [.one (.pv (.ints .u8 l t))] [] [] ([.one (.pv (.ints .u8 l false))], [], []) := by
 cases l with
 | nil =>
  have h1 : Runs Tryz.prog 93 [.one (.pv .nils)] [] [] ([.one (.pv (.ints .u8 [] false))], [], []) := by
   have h0 : Runs Tryz.prog 93 [.one (.pv .nils)] [] [] ([.one (.pv .nils)], [], []) := runs_of (Says.of bytes_Clone_nil ⟨rfl, trivial⟩)
   refine h0.res rfl (Nat.zero_le _) fun y v hs hv => ⟨y, rfl, Ext.refl y, rfl, hs, nils_ints hv⟩
  have h2 : Runs Tryz.prog 93 [.one (.pv .emp)] [] [] ([.one (.pv (.ints .u8 [] false))], [], []) :=
   Runs.close0 (rw := .ints .u8 []) (runs_of (Says.of bytes_Clone_emp ⟨rfl, rfl, trivial⟩)) rfl
  refine h1.split h2 fun x vals hr => ?_
  match vals, hr with
  | [v], hr =>
   rcases rep_empty hr.1 with h | h
   ·exact .inl ⟨h, trivial⟩
   ·exact .inr ⟨h, trivial⟩
 | cons a l =>
  have H := bytes_Clone_fn (a :: l) t
  rw [List.nil_append] at H
  exact Runs.close0 (rw := .ints .u8 (a :: l)) (runs_of (Says.of H ⟨by simp [Nat.beq], rfl, by simp [Nat.beq], hl, trivial⟩)) rfl
theorem slices_Clone_deed_Gift_nil  : evFn Tryz.prog cfg (Calld Tryz.prog) (LRuns Tryz.prog (lEnv Tryz.prog cfg 50 0).nt 0) 50 [(.one (.pv .nils))] [] []
  [.br true] =
 some (([(.one (.pv .nils))], [], []), obs [
  true = true]) := by kernel_rfl
theorem slices_Clone_deed_Gift_emp  : evFn Tryz.prog cfg (Calld Tryz.prog) (LRuns Tryz.prog (lEnv Tryz.prog cfg 50 0).nt 0) 50 [(.one (.pv .emp))] [] []
  [.br false, .br true] =
 some (([(.one (.own 0 0 0 false))], [], [(.recs 5 [])]), obs [
  false = false,
  true = true]) := by kernel_rfl
theorem slices_Clone_deed_Gift_fn (l : List E_deed_Gift) : evFn Tryz.prog cfg (Calld Tryz.prog) (LRuns Tryz.prog (lEnv Tryz.prog cfg 50 0).nt 0) 50 [(.one (.pv (.recs 5 (List.map E_deed_Gift.pv l) false)))] [] []
  [.br false, .br false] =
 some (([(.one (.own 0 0 ((([] : List (List PV)) ++ (List.map E_deed_Gift.pv l))).length false))], [], [(.recs 5 (([] : List (List PV)) ++ (List.map E_deed_Gift.pv l)))]), obs [
  (!(Nat.beq ((List.map E_deed_Gift.pv l)).length 0)) = true,
  false = false,
  (!(Nat.beq ((List.map E_deed_Gift.pv l)).length 0)) = true,
  (fits ((([] : List (List PV)) ++ (List.map E_deed_Gift.pv l))).length) = true]) := by kernel_rfl
noncomputable def slices_Clone_deed_Gift (l : List E_deed_Gift) : Option Unit := if fits l.length = true then some () else none
def slices_Clone_deed_Gift_out (l : List E_deed_Gift) : Unit → Res
 | _ => ([(.one (.own 0 0 (List.map E_deed_Gift.pv l).length false))], [], [(.recs 5 (List.map E_deed_Gift.pv l))])
theorem slices_Clone_deed_Gift_runs (l : List E_deed_Gift) (r_ : Unit) (h : slices_Clone_deed_Gift l = some r_) : Runs Tryz.prog 50 [(.one (.pv (.recs 5 (List.map E_deed_Gift.pv l) false)))] [] [] (slices_Clone_deed_Gift_out l r_) := by
 unfold slices_Clone_deed_Gift at h
 split at h
 ·rename_i hf
  cases l with
  | nil =>
   have h1 : Runs Tryz.prog 50 [.one (.pv .nils)] [] [] ([.one (.own 0 0 0 false)], [], [.recs 5 []]) := Runs.void (by decide) (runs_of (Says.of slices_Clone_deed_Gift_nil ⟨rfl, trivial⟩))
   have h2 : Runs Tryz.prog 50 [.one (.pv .emp)] [] [] ([.one (.own 0 0 0 false)], [], [.recs 5 []]) := runs_of (Says.of slices_Clone_deed_Gift_emp ⟨rfl, rfl, trivial⟩)
   refine h1.split h2 fun x vals hr => ?_
   match vals, hr with
   | [v], hr =>
    rcases rep_emptyR hr.1 with h | h
    ·exact .inl ⟨h, trivial⟩
    ·exact .inr ⟨h, trivial⟩
  | cons a l =>
   have H := slices_Clone_deed_Gift_fn (a :: l)
   rw [List.nil_append] at H
   exact runs_of (Says.of H ⟨by simp [Nat.beq], rfl, by simp [Nat.beq], by simpa using hf, trivial⟩)
 ·cases h
def Tryz.del_ren : Go.Shelf.Ren := ⟨fun | 45 => 45 | n => n, fun | 22 => 64 | 23 => 48 | n => n, fun n => n⟩
theorem Tryz.delLays : Go.Proofs.DelLays Tryz.prog Tryz.del_ren 5 := {
 mixed := by kernel_rfl
 f45 := ⟨Tryz.f45.name, by decide, Tryz.func45.trans (congrArg some (by kernel_rfl))⟩
 t0 := by kernel_rfl
 a0 := Tryz.isAgg0
 z0 := Tryz.sizeOf0
 v0 := Tryz.zeroValue0
 t3 := by kernel_rfl
 a3 := Tryz.isAgg3
 z3 := Tryz.sizeOf3
 v3 := Tryz.zeroValue3
 t4 := by kernel_rfl
 a4 := Tryz.isAgg4
 z4 := Tryz.sizeOf4
 v4 := Tryz.zeroValue4
 t22 := by kernel_rfl
 a22 := Tryz.isAgg64
 z22 := Tryz.sizeOf64
 v22 := Tryz.zeroValue64
 z23 := Tryz.sizeOf48
 i23 := by kernel_rfl }
noncomputable def slices_Delete_deed_Gift (i : Int) (j : Int) (r : List E_deed_Gift) : Option (Nat × List E_deed_Gift) := if 0 ≤ i ∧ i ≤ j ∧ j ≤ (r.length : Int) ∧ r.length < 4611686018427387904 then some (r.length - (j.toNat - i.toNat), r.take i.toNat ++ (r.drop j.toNat ++ List.replicate (j.toNat - i.toNat) (E_deed_Gift.mk 0 0 0 false .nil))) else none
def slices_Delete_deed_Gift_out (i : Int) (j : Int) (r : List E_deed_Gift) : Nat × List E_deed_Gift → Res
 | (k, r2) => ([(.one (.own 0 0 k false))], [], [(.recs 5 (List.map E_deed_Gift.pv r2))])
theorem slices_Delete_deed_Gift_runs (i : Int) (j : Int) (r : List E_deed_Gift) (r_ : Nat × List E_deed_Gift) (h : slices_Delete_deed_Gift i j r = some r_) : Runs Tryz.prog 45 [(.one (.own 0 0 ((List.map E_deed_Gift.pv r)).length false)), (.one (.pv (.int .i64 i))), (.one (.pv (.int .i64 j)))] [] [(.recs 5 (List.map E_deed_Gift.pv r))] (slices_Delete_deed_Gift_out i j r r_) := by
 unfold slices_Delete_deed_Gift at h
 split at h
 ·rename_i hc
  obtain ⟨h1, h2, h3, h4⟩ := hc
  cases h
  obtain ⟨a, rfl⟩ := Int.eq_ofNat_of_zero_le h1
  obtain ⟨b, rfl⟩ := Int.eq_ofNat_of_zero_le (Int.le_trans h1 h2)
  have h0 := Runs.delete Tryz.delLays (by kernel_rfl) (by decide) (E_deed_Gift.pv (E_deed_Gift.mk 0 0 0 false .nil)) rfl (ti := (tinfo Tryz.prog 48).get (by kernel_rfl)) (by kernel_rfl) (by kernel_rfl) (List.map E_deed_Gift.pv r) (by rw [List.length_map]; exact h4) a b (by omega) (by rw [List.length_map]; omega)
  have e_ : delRow (List.map E_deed_Gift.pv r) (E_deed_Gift.pv (E_deed_Gift.mk 0 0 0 false .nil)) a b = List.map E_deed_Gift.pv (r.take a ++ (r.drop b ++ List.replicate (b - a) (E_deed_Gift.mk 0 0 0 false .nil))) := by simp [delRow]
  rw [e_] at h0
  simp only [slices_Delete_deed_Gift_out, Int.toNat_natCast]
  rw [List.length_map] at h0 ⊢
  exact h0
 ·cases h
def deed_order_out (a : Int) (a2 : Int) (b : Int) (b2 : Int) : Int → Res
 | r1 => ([(.one (.pv (.int .i64 r1)))], [], [])
def cmp_Compare_int_out (x : Int) (y : Int) : Int → Res
 | r1 => ([(.one (.pv (.int .i64 r1)))], [], [])
def cmp_isNaN_int_out (x : Int) : Bool → Res
 | r1 => ([(.one (.pv (.bool r1)))], [], [])
noncomputable def cmp_isNaN_int (x : Int) : Option (Bool) :=
 some (!(decide ((x : Int) = x)))
theorem cmp_isNaN_int_runs [DLaw] (x : Int) (r_ : Bool) (h : cmp_isNaN_int x = some r_) : Runs Tryz.prog 123 [(.one (.pv (.int .i64 x)))] [] [] (cmp_isNaN_int_out x r_) := by
 unfold cmp_isNaN_int at h
 have h := some_of h
 subst h
 have t_ := tN
 exact runs_of (C := cfg) (objs := []) (sc := t_.ev) (.k0 t_.pf (by kernel_rfl))
noncomputable def cmp_Compare_int (x : Int) (y : Int) : Option (Int) :=
 (cmp_isNaN_int x).bind fun b =>
 (cmp_isNaN_int y).bind fun b2 =>
 bif b then
  bif b2 then
   some 0
  else
   some (-1)
 else
  bif b2 then
   some 1
  else
   bif (decide ((x : Int) < y)) then
    some (-1)
   else
    bif (decide ((y : Int) < x)) then
     some 1
    else
     some 0
theorem cmp_Compare_int_runs [DLaw] (x : Int) (y : Int) (r_ : Int) (h : cmp_Compare_int x y = some r_) : Runs Tryz.prog 91 [(.one (.pv (.int .i64 x))), (.one (.pv (.int .i64 y)))] [] [] (cmp_Compare_int_out x y r_) := by
 unfold cmp_Compare_int at h
 obtain ⟨b, h1, h⟩ := bind_of h
 obtain ⟨b2, h2, h⟩ := bind_of h
 rcases cond_of h with ⟨h3, h⟩ | ⟨h3, h⟩
 ·rcases cond_of h with ⟨h4, h⟩ | ⟨h4, h⟩
  ·have h := some_of h
   subst h
   have t_ := tR (cmp_isNaN_int_runs x _ h1) <| tR (cmp_isNaN_int_runs y _ h2) <| tT h3 <| tT h4 <| tN
   exact runs_of (C := cfg) (objs := []) (sc := t_.ev) (.k0 t_.pf (by kernel_rfl))
  ·have h := some_of h
   subst h
   have t_ := tR (cmp_isNaN_int_runs x _ h1) <| tR (cmp_isNaN_int_runs y _ h2) <| tT h3 <| tF h4 <| tN
   exact runs_of (C := cfg) (objs := []) (sc := t_.ev) (.k0 t_.pf (by kernel_rfl))
 ·rcases cond_of h with ⟨h4, h⟩ | ⟨h4, h⟩
  ·have h := some_of h
   subst h
   have t_ := tR (cmp_isNaN_int_runs x _ h1) <| tR (cmp_isNaN_int_runs y _ h2) <| tF h3 <| tT h4 <| tN
   exact runs_of (C := cfg) (objs := []) (sc := t_.ev) (.k0 t_.pf (by kernel_rfl))
  ·rcases cond_of h with ⟨h5, h⟩ | ⟨h5, h⟩
   ·have h := some_of h
    subst h
    have t_ := tR (cmp_isNaN_int_runs x _ h1) <| tR (cmp_isNaN_int_runs y _ h2) <| tF h3 <| tF h4 <| tT h5 <| tN
    exact runs_of (C := cfg) (objs := []) (sc := t_.ev) (.k0 t_.pf (by kernel_rfl))
   ·rcases cond_of h with ⟨h6, h⟩ | ⟨h6, h⟩
    ·have h := some_of h
     subst h
     have t_ := tR (cmp_isNaN_int_runs x _ h1) <| tR (cmp_isNaN_int_runs y _ h2) <| tF h3 <| tF h4 <| tF h5 <| tT h6 <| tN
     exact runs_of (C := cfg) (objs := []) (sc := t_.ev) (.k0 t_.pf (by kernel_rfl))
    ·have h := some_of h
     subst h
     have t_ := tR (cmp_isNaN_int_runs x _ h1) <| tR (cmp_isNaN_int_runs y _ h2) <| tF h3 <| tF h4 <| tF h5 <| tF h6 <| tN
     exact runs_of (C := cfg) (objs := []) (sc := t_.ev) (.k0 t_.pf (by kernel_rfl))
def cmp_Compare_uint64_out (x : Int) (y : Int) : Int → Res
 | r1 => ([(.one (.pv (.int .i64 r1)))], [], [])
def cmp_isNaN_uint64_out (x : Int) : Bool → Res
 | r1 => ([(.one (.pv (.bool r1)))], [], [])
noncomputable def cmp_isNaN_uint64 (x : Int) : Option (Bool) :=
 some (!(decide ((x : Int) = x)))
theorem cmp_isNaN_uint64_runs [DLaw] (x : Int) (r_ : Bool) (h : cmp_isNaN_uint64 x = some r_) : Runs Tryz.prog 124 [(.one (.pv (.int .u64 x)))] [] [] (cmp_isNaN_uint64_out x r_) := by
 unfold cmp_isNaN_uint64 at h
 have h := some_of h
 subst h
 have t_ := tN
 exact runs_of (C := cfg) (objs := []) (sc := t_.ev) (.k0 t_.pf (by kernel_rfl))
noncomputable def cmp_Compare_uint64 (x : Int) (y : Int) : Option (Int) :=
 (cmp_isNaN_uint64 x).bind fun b =>
 (cmp_isNaN_uint64 y).bind fun b2 =>
 bif b then
  bif b2 then
   some 0
  else
   some (-1)
 else
  bif b2 then
   some 1
  else
   bif (decide ((x : Int) < y)) then
    some (-1)
   else
    bif (decide ((y : Int) < x)) then
     some 1
    else
     some 0
theorem cmp_Compare_uint64_runs [DLaw] (x : Int) (y : Int) (r_ : Int) (h : cmp_Compare_uint64 x y = some r_) : Runs Tryz.prog 92 [(.one (.pv (.int .u64 x))), (.one (.pv (.int .u64 y)))] [] [] (cmp_Compare_uint64_out x y r_) := by
 unfold cmp_Compare_uint64 at h
 obtain ⟨b, h1, h⟩ := bind_of h
 obtain ⟨b2, h2, h⟩ := bind_of h
 rcases cond_of h with ⟨h3, h⟩ | ⟨h3, h⟩
 ·rcases cond_of h with ⟨h4, h⟩ | ⟨h4, h⟩
  ·have h := some_of h
   subst h
   have t_ := tR (cmp_isNaN_uint64_runs x _ h1) <| tR (cmp_isNaN_uint64_runs y _ h2) <| tT h3 <| tT h4 <| tN
   exact runs_of (C := cfg) (objs := []) (sc := t_.ev) (.k0 t_.pf (by kernel_rfl))
  ·have h := some_of h
   subst h
   have t_ := tR (cmp_isNaN_uint64_runs x _ h1) <| tR (cmp_isNaN_uint64_runs y _ h2) <| tT h3 <| tF h4 <| tN
   exact runs_of (C := cfg) (objs := []) (sc := t_.ev) (.k0 t_.pf (by kernel_rfl))
 ·rcases cond_of h with ⟨h4, h⟩ | ⟨h4, h⟩
  ·have h := some_of h
   subst h
   have t_ := tR (cmp_isNaN_uint64_runs x _ h1) <| tR (cmp_isNaN_uint64_runs y _ h2) <| tF h3 <| tT h4 <| tN
   exact runs_of (C := cfg) (objs := []) (sc := t_.ev) (.k0 t_.pf (by kernel_rfl))
  ·rcases cond_of h with ⟨h5, h⟩ | ⟨h5, h⟩
   ·have h := some_of h
    subst h
    have t_ := tR (cmp_isNaN_uint64_runs x _ h1) <| tR (cmp_isNaN_uint64_runs y _ h2) <| tF h3 <| tF h4 <| tT h5 <| tN
    exact runs_of (C := cfg) (objs := []) (sc := t_.ev) (.k0 t_.pf (by kernel_rfl))
   ·rcases cond_of h with ⟨h6, h⟩ | ⟨h6, h⟩
    ·have h := some_of h
     subst h
     have t_ := tR (cmp_isNaN_uint64_runs x _ h1) <| tR (cmp_isNaN_uint64_runs y _ h2) <| tF h3 <| tF h4 <| tF h5 <| tT h6 <| tN
     exact runs_of (C := cfg) (objs := []) (sc := t_.ev) (.k0 t_.pf (by kernel_rfl))
    ·have h := some_of h
     subst h
     have t_ := tR (cmp_isNaN_uint64_runs x _ h1) <| tR (cmp_isNaN_uint64_runs y _ h2) <| tF h3 <| tF h4 <| tF h5 <| tF h6 <| tN
     exact runs_of (C := cfg) (objs := []) (sc := t_.ev) (.k0 t_.pf (by kernel_rfl))
def cmp_Or_int_out (vals : List Int) : Int → Res
 | r1 => ([(.one (.pv (.int .i64 r1)))], [], [])
def cmp_Or_int_L0_st (l : List Int) (n : Int) : Int → St
 | n2 => ⟨[(3, (.av (.one (.pv (.int .i64 0))))), (6, (.av (.one (.pv (.ints .i64 l false))))), (7, (.av (.one (.pv (.int .i64 n))))), (8, (.av (.one (.pv (.int .i64 n2)))))], [], []⟩
def cmp_Or_int_L0_ex (l : List Int) (n : Int) : (Int) ⊕ (Unit) → Ex × St
 | .inl r1 => (.ret, ⟨[(2, (.av (.one (.pv (.int .i64 r1)))))], [], []⟩)
 | .inr _ => ((.exit 0), ⟨[(3, (.av (.one (.pv (.int .i64 0)))))], [], []⟩)
noncomputable def cmp_Or_int_L0_step (l : List Int) (n : Int) : Int → Option ((Int) ⊕ ((Int) ⊕ (Unit)))
 | n2 =>
 bif (decide ((n2 : Int) < n)) then
  bif decide ((0 : Int) ≤ n2) && decide ((n2 : Int) < ((l).length : Int)) then
  bif (decide (((l.getD (n2).toNat 0) : Int) = 0)) then
   some (.inl (iadd .i64 n2 1))
  else
   some (.inr (.inl (l.getD (n2).toNat 0)))
  else none
 else
  some (.inr (.inr ()))
theorem cmp_Or_int_L0_ok [DLaw] (l : List Int) (n : Int) (n2 : Int) (z_ : (Int) ⊕ ((Int) ⊕ (Unit))) (h : cmp_Or_int_L0_step l n n2 = some z_) : RoundOk Tryz.prog cfg 90 0 (loopAt Tryz.prog 90 0) (cmp_Or_int_L0_st l n) (cmp_Or_int_L0_ex l n) n2 z_ := by
 rcases cond_of h with ⟨h1, h⟩ | ⟨h1, h⟩
 ·obtain ⟨h2, h⟩ := need_of h
  rcases cond_of h with ⟨h3, h⟩ | ⟨h3, h⟩
  ·have h := some_of h
   subst h
   have t_ := tT h1 <| tO h2 <| tF (not_of2 h3) <| tN
   exact ⟨t_.ev, cmp_Or_int_L0_st l n (iadd .i64 n2 1), .k0 t_.pf (by kernel_rfl), .same (by kernel_rfl)⟩
  ·have h := some_of h
   subst h
   have t_ := tT h1 <| tO h2 <| tT (not_of h3) <| tN
   exact ⟨t_.ev, (cmp_Or_int_L0_ex l n (.inl (l.getD (n2).toNat 0))).2, .k0 t_.pf (by kernel_rfl), .same (by kernel_rfl)⟩
 ·have h := some_of h
  subst h
  have t_ := tF h1 <| tN
  exact ⟨t_.ev, ⟨[(9, (.av (.one (.pv (.bool false))))), (3, (.av (.one (.pv (.int .i64 0))))), (6, (.av (.one (.pv (.ints .i64 l false))))), (7, (.av (.one (.pv (.int .i64 n))))), (8, (.av (.one (.pv (.int .i64 n2))))), (9, (.av (.one (.pv (.bool (decide ((n2 : Int) < n)))))))], [], []⟩, .k0 t_.pf (by kernel_rfl), ⟨⟨⟨_, rfl, .eq rfl⟩, trivial⟩, trivial, trivial⟩⟩
theorem cmp_Or_int_L0_runs [DLaw] (l : List Int) (n : Int) (s_ : Int) (r_ : (Int) ⊕ (Unit)) (h : runL (cmp_Or_int_L0_step l n) s_ = some r_) : LRuns Tryz.prog (lEnv Tryz.prog cfg 90 0).nt 0 (.loop (loopAt Tryz.prog 90 0)) (cmp_Or_int_L0_st l n s_) (cmp_Or_int_L0_ex l n r_).1 (cmp_Or_int_L0_ex l n r_).2 :=
 loop_run h (cmp_Or_int_L0_ok l n) (by intro r_; rcases r_ with r1 | _ <;> simp [cmp_Or_int_L0_ex])
noncomputable def cmp_Or_int (vals : List Int) : Option (Int) :=
 (runL (cmp_Or_int_L0_step vals ((vals).length : Int)) 0).bind fun z_ => match z_ with
 | .inl n =>
  some n
 | .inr _ =>
  some 0
theorem cmp_Or_int_runs [DLaw] (vals : List Int) (r_ : Int) (h : cmp_Or_int vals = some r_) : Runs Tryz.prog 90 [(.one (.pv (.ints .i64 vals false)))] [] [] (cmp_Or_int_out vals r_) := by
 unfold cmp_Or_int at h
 obtain ⟨z_, h1, h⟩ := bind_of h
 rcases z_ with n | _
 ·have h := some_of h
  subst h
  have t_ := tL (cmp_Or_int_L0_runs vals ((vals).length : Int) _ _ h1) <| tN
  exact runs_of (C := cfg) (objs := []) (sc := t_.ev) (.k0 t_.pf (by kernel_rfl))
 ·have h := some_of h
  subst h
  have t_ := tL (cmp_Or_int_L0_runs vals ((vals).length : Int) _ _ h1) <| tN
  exact runs_of (C := cfg) (objs := []) (sc := t_.ev) (.k0 t_.pf (by kernel_rfl))
noncomputable def deed_order (a : Int) (a2 : Int) (b : Int) (b2 : Int) : Option (Int) :=
 (cmp_Compare_int a b).bind fun n =>
 (cmp_Compare_uint64 a2 b2).bind fun n2 =>
 (cmp_Or_int [n, n2]).bind fun n3 =>
 some n3
theorem deed_order_runs [DLaw] (a : Int) (a2 : Int) (b : Int) (b2 : Int) (r_ : Int) (h : deed_order a a2 b b2 = some r_) : Runs Tryz.prog 53 [(.agg [(.pv (.int .i64 a)), (.pv (.int .u64 a2))]), (.agg [(.pv (.int .i64 b)), (.pv (.int .u64 b2))])] [] [] (deed_order_out a a2 b b2 r_) := by
 unfold deed_order at h
 obtain ⟨n, h1, h⟩ := bind_of h
 obtain ⟨n2, h2, h⟩ := bind_of h
 obtain ⟨n3, h3, h⟩ := bind_of h
 have h := some_of h
 subst h
 have t_ := tR (cmp_Compare_int_runs a b _ h1) <| tR (cmp_Compare_int_runs a b _ h1) <| tR (cmp_Compare_int_runs a b _ h1) <| tR (cmp_Compare_int_runs a b _ h1) <| tR (cmp_Compare_uint64_runs a2 b2 _ h2) <| tR (Runs.coe (as' := [(.one (.pv (.ints .i64 [n, n2] true)))]) (objs' := []) (rows' := []) (cmp_Or_int_runs [n, n2] _ h3) ⟨.pv (.ints rfl), trivial⟩ trivial trivial) <| tN
 exact runs_of (C := cfg) (objs := []) (sc := t_.ev) (.k1 t_.pf (by kernel_rfl) (by kernel_rfl))
end Go.Proofs.YtjjcmgdgifcmgaaGreat
