/- What functions compute, and that they do. -/
import Derived.Test.YteiikkpajcggfaaGreatDoorSo
set_option linter.unusedVariables false
set_option linter.unusedSimpArgs false
set_option maxRecDepth 100000
namespace Go.Proofs.YteiikkpajcggfaaGreatDoor
open Go.Ev
theorem bytes_Clone_nil  : evFn Tryz.prog cfg (Calld Tryz.prog) (LRuns Tryz.prog (lEnv Tryz.prog cfg 72 0).nt 0) 72 [(.one (.pv .nils))] [] []
  [.br true] =
 some (([(.one (.pv .nils))], [], []), obs [
  true = true]) := by kernel_rfl
theorem bytes_Clone_emp  : evFn Tryz.prog cfg (Calld Tryz.prog) (LRuns Tryz.prog (lEnv Tryz.prog cfg 72 0).nt 0) 72 [(.one (.pv .emp))] [] []
  [.br false, .br true] =
 some (([(.one (.own 0 0 0 false))], [], [(.ints .u8 [])]), obs [
  false = false,
  true = true]) := by kernel_rfl
theorem bytes_Clone_fn (l : List Int) (t : Bool) : evFn Tryz.prog cfg (Calld Tryz.prog) (LRuns Tryz.prog (lEnv Tryz.prog cfg 72 0).nt 0) 72 [(.one (.pv (.ints .u8 l t)))] [] []
  [.br false, .br false] =
 some (([(.one (.own 0 0 (([] ++ l)).length false))], [], [(.ints .u8 ([] ++ l))]), obs [
  (!(Nat.beq (l).length 0)) = true,
  false = false,
  (!(Nat.beq (l).length 0)) = true,
  (fits (([] ++ l)).length) = true]) := by kernel_rfl
theorem bytes_Clone_runs {l : List Int} {t : Bool} (hl : fits l.length = true) : Runs Tryz.prog 72 [.one (.pv (.ints .u8 l t))] [] [] ([.one (.pv (.ints .u8 l false))], [], []) := by
 cases l with
 | nil =>
  have h1 : Runs Tryz.prog 72 [.one (.pv .nils)] [] [] ([.one (.pv (.ints .u8 [] false))], [], []) := by
   have h0 : Runs Tryz.prog 72 [.one (.pv .nils)] [] [] ([.one (.pv .nils)], [], []) := runs_of (Says.of bytes_Clone_nil ⟨rfl, trivial⟩)
   refine h0.res rfl (Nat.zero_le _) fun y v hs hv => ⟨y, rfl, Ext.refl y, rfl, hs, nils_ints hv⟩
  have h2 : Runs Tryz.prog 72 [.one (.pv .emp)] [] [] ([.one (.pv (.ints .u8 [] false))], [], []) :=
   Runs.close0 (rw := .ints .u8 []) (runs_of (Says.of bytes_Clone_emp ⟨rfl, rfl, trivial⟩)) rfl
  refine h1.split h2 fun x vals hr => ?_
  match vals, hr with
  | [v], hr =>
   rcases rep_empty hr.1 with h | h
   ·exact .inl ⟨h, trivial⟩
   ·exact .inr ⟨h, trivial⟩
 | cons a l =>
  have H := bytes_Clone_fn (a :: l) t
  rw [List.nil_append] at H
  exact Runs.close0 (rw := .ints .u8 (a :: l)) (runs_of (Says.of H ⟨by simp [Nat.beq], rfl, by simp [Nat.beq], hl, trivial⟩)) rfl
def kinfolklaw10_awake_out : Bool → Res
 | r1 => ([(.one (.pv (.bool r1)))], [], [])
def card_Make_out (l : List E_card_Field) : List E_card_Field × Int → Res
 | (r1, r2) => ([(.agg [(.pv (.recs 3 (List.map E_card_Field.pv r1) false))]), (.one (.pv (.int .i64 r2)))], [], [])
def card_Field_Right_out (f : Int) (f2 : ByteArray) (f3 : ByteArray) : Int → Res
 | r1 => ([(.one (.pv (.int .i64 r1)))], [], [])
def text_Check_out (s : ByteArray) (most : Int) : Int → Res
 | r1 => ([(.one (.pv (.int .i64 r1)))], [], [])
def strings_ContainsFunc_out (s : ByteArray) : Bool → Res
 | r1 => ([(.one (.pv (.bool r1)))], [], [])
def strings_IndexFunc_out (s : ByteArray) : Int → Res
 | r1 => ([(.one (.pv (.int .i64 r1)))], [], [])
def strings_indexFunc_out (s : ByteArray) (truth : Bool) : Int → Res
 | r1 => ([(.one (.pv (.int .i64 r1)))], [], [])
def text_Check_1_out (r : Int) : Bool → Res
 | r1 => ([(.one (.pv (.bool r1)))], [], [])
def text_plain_out (r : Int) : Bool → Res
 | r1 => ([(.one (.pv (.bool r1)))], [], [])
noncomputable def text_plain (r : Int) : Option (Bool) :=
 bif (decide ((32 : Int) ≤ r)) then
  some (!(decide ((r : Int) = 127)))
 else
  some false
theorem text_plain_runs (r : Int) (r_ : Bool) (h : text_plain r = some r_) : Runs Tryz.prog 107 [(.one (.pv (.int .i32 r)))] [] [] (text_plain_out r r_) := by
 unfold text_plain at h
 rcases cond_of h with ⟨h1, h⟩ | ⟨h1, h⟩
 ·have h := some_of h
  subst h
  have t_ := tT h1 <| tN
  exact runs_of (C := cfg) (objs := []) (sc := t_.ev) (.k0 t_.pf (by kernel_rfl))
 ·have h := some_of h
  subst h
  have t_ := tF h1 <| tN
  exact runs_of (C := cfg) (objs := []) (sc := t_.ev) (.k0 t_.pf (by kernel_rfl))
noncomputable def text_Check_1 (r : Int) : Option (Bool) :=
 (text_plain r).bind fun b =>
 some (!b)
theorem text_Check_1_runs (r : Int) (r_ : Bool) (h : text_Check_1 r = some r_) : Runs Tryz.prog 106 [(.one (.pv (.int .i32 r)))] [] [] (text_Check_1_out r r_) := by
 unfold text_Check_1 at h
 obtain ⟨b, h1, h⟩ := bind_of h
 have h := some_of h
 subst h
 have t_ := tR (text_plain_runs r _ h1) <| tN
 exact runs_of (C := cfg) (objs := []) (sc := t_.ev) (.k0 t_.pf (by kernel_rfl))
def strings_indexFunc_L0_st (truth : Bool) (s : ByteArray) : Nat → St
 | k => ⟨[(1, (.av (.one (.fn 106 [])))), (2, (.av (.one (.pv (.bool truth))))), (10, (.av (.one (.ref 0 0))))], [(0, [(.sit s k)])], []⟩
def strings_indexFunc_L0_ex (truth : Bool) (s : ByteArray) : (Int) ⊕ (Nat) → Ex × St
 | .inl r1 => (.ret, ⟨[(6, (.av (.one (.pv (.int .i64 r1)))))], [], []⟩)
 | .inr r1 => ((.exit 0), ⟨[], [(0, [(.sit s r1)])], []⟩)
noncomputable def strings_indexFunc_L0_step (truth : Bool) (s : ByteArray) : Nat → Option ((Nat) ⊕ ((Int) ⊕ (Nat)))
 | k =>
 bif (decide ((k : Nat) < s.size)) then
  (text_Check_1 ((Utf8.decode s k).1 : Int)).bind fun b =>
  bif (b == truth) then
   some (.inr (.inl (k : Int)))
  else
   some (.inl (k + (Utf8.decode s k).2))
 else
  some (.inr (.inr k))
theorem strings_indexFunc_L0_ok (truth : Bool) (s : ByteArray) (k : Nat) (z_ : (Nat) ⊕ ((Int) ⊕ (Nat))) (h : strings_indexFunc_L0_step truth s k = some z_) : RoundOk Tryz.prog cfg 151 0 (loopAt Tryz.prog 151 0) (strings_indexFunc_L0_st truth s) (strings_indexFunc_L0_ex truth s) k z_ := by
 rcases cond_of h with ⟨h1, h⟩ | ⟨h1, h⟩
 ·obtain ⟨b, h2, h⟩ := bind_of h
  have q_2 := (text_Check_1_runs ((Utf8.decode s k).1 : Int) _ h2)
  rcases cond_of h with ⟨h3, h⟩ | ⟨h3, h⟩
  ·have h := some_of h
   subst h
   have t_ := tT h1 <| tT (rfl : true = true) <| tR q_2 <| tT h3 <| tN
   exact ⟨t_.ev, (strings_indexFunc_L0_ex truth s (.inl (k : Int))).2, .k0 t_.pf (by kernel_rfl), .same (by kernel_rfl)⟩
  ·have h := some_of h
   subst h
   have t_ := tT h1 <| tT (rfl : true = true) <| tR q_2 <| tF h3 <| tN
   exact ⟨t_.ev, strings_indexFunc_L0_st truth s (k + (Utf8.decode s k).2), .k0 t_.pf (by kernel_rfl), .same (by kernel_rfl)⟩
 ·have h := some_of h
  subst h
  have t_ := tF h1 <| tF (rfl : false = false) <| tN
  exact ⟨t_.ev, ⟨[(12, (.av (.one (.pv (.bool false))))), (1, (.av (.one (.fn 106 [])))), (2, (.av (.one (.pv (.bool truth))))), (10, (.av (.one (.ref 0 0)))), (11, (.tup [(.one (.pv (.bool false)))])), (12, (.av (.one (.pv (.bool false)))))], [(0, [(.sit s k)])], []⟩, .k0 t_.pf (by kernel_rfl), ⟨trivial, ⟨⟨rfl, ⟨.eq rfl, trivial⟩⟩, trivial⟩, trivial⟩⟩
theorem strings_indexFunc_L0_runs (truth : Bool) (s : ByteArray) (s_ : Nat) (r_ : (Int) ⊕ (Nat)) (h : runL (strings_indexFunc_L0_step truth s) s_ = some r_) : LRuns Tryz.prog (lEnv Tryz.prog cfg 151 0).nt 0 (.loop (loopAt Tryz.prog 151 0)) (strings_indexFunc_L0_st truth s s_) (strings_indexFunc_L0_ex truth s r_).1 (strings_indexFunc_L0_ex truth s r_).2 :=
 loop_run h (strings_indexFunc_L0_ok truth s) (by intro r_; rcases r_ with r1 | r1 <;> simp [strings_indexFunc_L0_ex])
noncomputable def strings_indexFunc (s : ByteArray) (truth : Bool) : Option (Int) :=
 (runL (strings_indexFunc_L0_step truth s) 0).bind fun z_ => match z_ with
 | .inl n =>
  some n
 | .inr k =>
  some (-1)
theorem strings_indexFunc_runs (s : ByteArray) (truth : Bool) (r_ : Int) (h : strings_indexFunc s truth = some r_) : Runs Tryz.prog 151 [(.one (.pv (.str s))), (.one (.fn 106 [])), (.one (.pv (.bool truth)))] [] [] (strings_indexFunc_out s truth r_) := by
 unfold strings_indexFunc at h
 obtain ⟨z_, h1, h⟩ := bind_of h
 rcases z_ with n | k
 ·have h := some_of h
  subst h
  have t_ := tL (strings_indexFunc_L0_runs truth s _ _ h1) <| tN
  exact runs_of (C := cfg) (objs := []) (sc := t_.ev) (.k0 t_.pf (by kernel_rfl))
 ·have h := some_of h
  subst h
  have t_ := tL (strings_indexFunc_L0_runs truth s _ _ h1) <| tN
  exact runs_of (C := cfg) (objs := []) (sc := t_.ev) (.k0 t_.pf (by kernel_rfl))
noncomputable def strings_IndexFunc (s : ByteArray) : Option (Int) :=
 (strings_indexFunc s true).bind fun n =>
 some n
theorem strings_IndexFunc_runs (s : ByteArray) (r_ : Int) (h : strings_IndexFunc s = some r_) : Runs Tryz.prog 128 [(.one (.pv (.str s))), (.one (.fn 106 []))] [] [] (strings_IndexFunc_out s r_) := by
 unfold strings_IndexFunc at h
 obtain ⟨n, h1, h⟩ := bind_of h
 have h := some_of h
 subst h
 have t_ := tR (strings_indexFunc_runs s true _ h1) <| tN
 exact runs_of (C := cfg) (objs := []) (sc := t_.ev) (.k0 t_.pf (by kernel_rfl))
noncomputable def strings_ContainsFunc (s : ByteArray) : Option (Bool) :=
 (strings_IndexFunc s).bind fun n =>
 some (decide ((0 : Int) ≤ n))
theorem strings_ContainsFunc_runs (s : ByteArray) (r_ : Bool) (h : strings_ContainsFunc s = some r_) : Runs Tryz.prog 105 [(.one (.pv (.str s))), (.one (.fn 106 []))] [] [] (strings_ContainsFunc_out s r_) := by
 unfold strings_ContainsFunc at h
 obtain ⟨n, h1, h⟩ := bind_of h
 have h := some_of h
 subst h
 have t_ := tR (strings_IndexFunc_runs s _ h1) <| tN
 exact runs_of (C := cfg) (objs := []) (sc := t_.ev) (.k0 t_.pf (by kernel_rfl))
noncomputable def text_Check (s : ByteArray) (most : Int) : Option (Int) :=
 bif (decide ((most : Int) < (s.size : Int))) then
  some 9
 else
  (utf8_ValidString s).bind fun b =>
  bif b then
   (strings_ContainsFunc s).bind fun b2 =>
   bif b2 then
    some 7
   else
    some 0
  else
   some 7
theorem text_Check_runs (s : ByteArray) (most : Int) (r_ : Int) (h : text_Check s most = some r_) : Runs Tryz.prog 63 [(.one (.pv (.str s))), (.one (.pv (.int .i64 most)))] [] [] (text_Check_out s most r_) := by
 unfold text_Check at h
 rcases cond_of h with ⟨h1, h⟩ | ⟨h1, h⟩
 ·have h := some_of h
  subst h
  have t_ := tT h1 <| tN
  exact runs_of (C := cfg) (objs := []) (sc := t_.ev) (.k0 t_.pf (by kernel_rfl))
 ·obtain ⟨b, h2, h⟩ := bind_of h
  rcases cond_of h with ⟨h3, h⟩ | ⟨h3, h⟩
  ·obtain ⟨b2, h4, h⟩ := bind_of h
   rcases cond_of h with ⟨h5, h⟩ | ⟨h5, h⟩
   ·have h := some_of h
    subst h
    have t_ := tF h1 <| tR (utf8_ValidString_runs s _ h2) <| tF (not_of2 h3) <| tR (strings_ContainsFunc_runs s _ h4) <| tT h5 <| tN
    exact runs_of (C := cfg) (objs := []) (sc := t_.ev) (.k0 t_.pf (by kernel_rfl))
   ·have h := some_of h
    subst h
    have t_ := tF h1 <| tR (utf8_ValidString_runs s _ h2) <| tF (not_of2 h3) <| tR (strings_ContainsFunc_runs s _ h4) <| tF h5 <| tN
    exact runs_of (C := cfg) (objs := []) (sc := t_.ev) (.k0 t_.pf (by kernel_rfl))
  ·have h := some_of h
   subst h
   have t_ := tF h1 <| tR (utf8_ValidString_runs s _ h2) <| tT (not_of h3) <| tT (rfl : true = true) <| tN
   exact runs_of (C := cfg) (objs := []) (sc := t_.ev) (.k0 t_.pf (by kernel_rfl))
def text_Fold_out (s : ByteArray) : ByteArray → Res
 | r1 => ([(.one (.pv (.str r1)))], [], [])
def text_Fold_L0_2_st (k : Nat) (n : Int) (l : List Int) : Bool × Int × List Int → St
 | (blank, n2, l2) => ⟨[(3, (.av (.one (.own 0 0 (l2).length false)))), (4, (.av (.one (.pv (.bool blank))))), (8, (.av (.one (.own 1 0 k false)))), (9, (.av (.one (.pv (.int .i64 n))))), (10, (.av (.one (.pv (.int .i64 n2)))))], [], [(0, (.live (.ints .u8 l2))), (1, (.live (.ints .u8 l)))]⟩
def text_Fold_L0_2_ex (k : Nat) (n : Int) (l : List Int) : List Int → Ex × St
 | r1 => ((.exit 0), ⟨[(3, (.av (.one (.own 0 0 (r1).length false))))], [], [(0, (.live (.ints .u8 r1))), (1, (.live (.ints .u8 l)))]⟩)
noncomputable def text_Fold_L0_2_step (k : Nat) (n : Int) (l : List Int) : Bool × Int × List Int → Option ((Bool × Int × List Int) ⊕ (List Int))
 | (blank, n2, l2) =>
 bif (decide ((n2 : Int) < n)) then
  bif decide ((0 : Int) ≤ n2) && decide ((n2 : Int) < (k : Int)) then
  bif (decide (((l.getD (0 + (n2).toNat) 0) : Int) = 32)) then
   bif blank then
    some (.inl ((decide (((l.getD (0 + (n2).toNat) 0) : Int) = 32)), (iadd .i64 n2 1), l2))
   else
    bif fits ((l2 ++ [(l.getD (0 + (n2).toNat) 0)])).length then
    some (.inl ((decide (((l.getD (0 + (n2).toNat) 0) : Int) = 32)), (iadd .i64 n2 1), (l2 ++ [(l.getD (0 + (n2).toNat) 0)])))
    else none
  else
   bif fits ((l2 ++ [(l.getD (0 + (n2).toNat) 0)])).length then
   some (.inl ((decide (((l.getD (0 + (n2).toNat) 0) : Int) = 32)), (iadd .i64 n2 1), (l2 ++ [(l.getD (0 + (n2).toNat) 0)])))
   else none
  else none
 else
  some (.inr l2)
theorem text_Fold_L0_2_ok (k : Nat) (n : Int) (l : List Int) (s_ : Bool × Int × List Int) (z_ : (Bool × Int × List Int) ⊕ (List Int)) (h : text_Fold_L0_2_step k n l s_ = some z_) : RoundOk Tryz.prog cfg 64 0 (loopAt Tryz.prog 64 0) (text_Fold_L0_2_st k n l) (text_Fold_L0_2_ex k n l) s_ z_ := by
 rcases s_ with ⟨blank, n2, l2⟩
 rcases cond_of h with ⟨h1, h⟩ | ⟨h1, h⟩
 ·obtain ⟨h2, h⟩ := need_of h
  rcases cond_of h with ⟨h3, h⟩ | ⟨h3, h⟩
  ·rcases cond_of h with ⟨h4, h⟩ | ⟨h4, h⟩
   ·have h := some_of h
    subst h
    have t_ := tT h1 <| tO h2 <| tF (not_of2 h3) <| tF (not_of2 h4) <| tN
    exact ⟨t_.ev, text_Fold_L0_2_st k n l ((decide (((l.getD (0 + (n2).toNat) 0) : Int) = 32)), (iadd .i64 n2 1), l2), .k0 t_.pf (by kernel_rfl), .same (by kernel_rfl)⟩
   ·obtain ⟨h5, h⟩ := need_of h
    have h := some_of h
    subst h
    have t_ := tT h1 <| tO h2 <| tF (not_of2 h3) <| tT (not_of h4) <| tO (show (Nat.beq (l2).length (l2).length) = true from Nat.beq_refl _) <| tO h5 <| tN
    exact ⟨t_.ev, text_Fold_L0_2_st k n l ((decide (((l.getD (0 + (n2).toNat) 0) : Int) = 32)), (iadd .i64 n2 1), (l2 ++ [(l.getD (0 + (n2).toNat) 0)])), .k0 t_.pf (by kernel_rfl), .same (by kernel_rfl)⟩
  ·obtain ⟨h4, h⟩ := need_of h
   have h := some_of h
   subst h
   have t_ := tT h1 <| tO h2 <| tT (not_of h3) <| tT (rfl : true = true) <| tO (show (Nat.beq (l2).length (l2).length) = true from Nat.beq_refl _) <| tO h4 <| tN
   exact ⟨t_.ev, text_Fold_L0_2_st k n l ((decide (((l.getD (0 + (n2).toNat) 0) : Int) = 32)), (iadd .i64 n2 1), (l2 ++ [(l.getD (0 + (n2).toNat) 0)])), .k0 t_.pf (by kernel_rfl), .same (by kernel_rfl)⟩
 ·have h := some_of h
  subst h
  have t_ := tF h1 <| tN
  exact ⟨t_.ev, ⟨[(11, (.av (.one (.pv (.bool false))))), (3, (.av (.one (.own 0 0 (l2).length false)))), (4, (.av (.one (.pv (.bool blank))))), (8, (.av (.one (.own 1 0 k false)))), (9, (.av (.one (.pv (.int .i64 n))))), (10, (.av (.one (.pv (.int .i64 n2))))), (11, (.av (.one (.pv (.bool (decide ((n2 : Int) < n)))))))], [], [(0, (.live (.ints .u8 l2))), (1, (.live (.ints .u8 l)))]⟩, .k0 t_.pf (by kernel_rfl), ⟨⟨⟨_, rfl, .eq rfl⟩, trivial⟩, trivial, ⟨⟨rfl, .eq rfl⟩, ⟨rfl, .eq rfl⟩, trivial⟩⟩⟩
theorem text_Fold_L0_2_runs (k : Nat) (n : Int) (l : List Int) (s_ : Bool × Int × List Int) (r_ : List Int) (h : runL (text_Fold_L0_2_step k n l) s_ = some r_) : LRuns Tryz.prog (lEnv Tryz.prog cfg 64 0).nt 0 (.loop (loopAt Tryz.prog 64 0)) (text_Fold_L0_2_st k n l s_) (text_Fold_L0_2_ex k n l r_).1 (text_Fold_L0_2_ex k n l r_).2 :=
 loop_run h (text_Fold_L0_2_ok k n l) (by intro r_; rcases r_ with r1 <;> simp [text_Fold_L0_2_ex])
def strings_TrimSuffix_out (s : ByteArray) (suffix : ByteArray) : ByteArray → Res
 | r1 => ([(.one (.pv (.str r1)))], [], [])
def stringslite_TrimSuffix_out (s : ByteArray) (suffix : ByteArray) : ByteArray → Res
 | r1 => ([(.one (.pv (.str r1)))], [], [])
def stringslite_HasSuffix_out (s : ByteArray) (suffix : ByteArray) : Bool → Res
 | r1 => ([(.one (.pv (.bool r1)))], [], [])
noncomputable def stringslite_HasSuffix (s : ByteArray) (suffix : ByteArray) : Option (Bool) :=
 bif (decide (((suffix.size : Int) : Int) ≤ (s.size : Int))) then
  bif decide ((0 : Int) ≤ (isub .i64 (s.size : Int) (suffix.size : Int))) && decide (((isub .i64 (s.size : Int) (suffix.size : Int)) : Int) ≤ (s.size : Int)) && decide (((s.size : Int) : Int) ≤ (s.size : Int)) then
  some (decide ((s.extract ((isub .i64 (s.size : Int) (suffix.size : Int))).toNat ((s.size : Int)).toNat) = suffix))
  else none
 else
  some false
theorem stringslite_HasSuffix_runs (s : ByteArray) (suffix : ByteArray) (r_ : Bool) (h : stringslite_HasSuffix s suffix = some r_) : Runs Tryz.prog 152 [(.one (.pv (.str s))), (.one (.pv (.str suffix)))] [] [] (stringslite_HasSuffix_out s suffix r_) := by
 unfold stringslite_HasSuffix at h
 rcases cond_of h with ⟨h1, h⟩ | ⟨h1, h⟩
 ·obtain ⟨h2, h⟩ := need_of h
  have h := some_of h
  subst h
  have t_ := tT h1 <| tO h2 <| tN
  exact runs_of (C := cfg) (objs := []) (sc := t_.ev) (.k0 t_.pf (by kernel_rfl))
 ·have h := some_of h
  subst h
  have t_ := tF h1 <| tN
  exact runs_of (C := cfg) (objs := []) (sc := t_.ev) (.k0 t_.pf (by kernel_rfl))
noncomputable def stringslite_TrimSuffix (s : ByteArray) (suffix : ByteArray) : Option (ByteArray) :=
 (stringslite_HasSuffix s suffix).bind fun b =>
 bif b then
  bif decide ((0 : Int) ≤ 0) && decide ((0 : Int) ≤ (isub .i64 (s.size : Int) (suffix.size : Int))) && decide (((isub .i64 (s.size : Int) (suffix.size : Int)) : Int) ≤ (s.size : Int)) then
  some (s.extract 0 ((isub .i64 (s.size : Int) (suffix.size : Int))).toNat)
  else none
 else
  some s
theorem stringslite_TrimSuffix_runs (s : ByteArray) (suffix : ByteArray) (r_ : ByteArray) (h : stringslite_TrimSuffix s suffix = some r_) : Runs Tryz.prog 129 [(.one (.pv (.str s))), (.one (.pv (.str suffix)))] [] [] (stringslite_TrimSuffix_out s suffix r_) := by
 unfold stringslite_TrimSuffix at h
 obtain ⟨b, h1, h⟩ := bind_of h
 rcases cond_of h with ⟨h2, h⟩ | ⟨h2, h⟩
 ·obtain ⟨h3, h⟩ := need_of h
  have h := some_of h
  subst h
  have t_ := tR (stringslite_HasSuffix_runs s suffix _ h1) <| tT h2 <| tO h3 <| tN
  exact runs_of (C := cfg) (objs := []) (sc := t_.ev) (.k0 t_.pf (by kernel_rfl))
 ·have h := some_of h
  subst h
  have t_ := tR (stringslite_HasSuffix_runs s suffix _ h1) <| tF h2 <| tN
  exact runs_of (C := cfg) (objs := []) (sc := t_.ev) (.k0 t_.pf (by kernel_rfl))
noncomputable def strings_TrimSuffix (s : ByteArray) (suffix : ByteArray) : Option (ByteArray) :=
 (stringslite_TrimSuffix s suffix).bind fun s2 =>
 some s2
theorem strings_TrimSuffix_runs (s : ByteArray) (suffix : ByteArray) (r_ : ByteArray) (h : strings_TrimSuffix s suffix = some r_) : Runs Tryz.prog 108 [(.one (.pv (.str s))), (.one (.pv (.str suffix)))] [] [] (strings_TrimSuffix_out s suffix r_) := by
 unfold strings_TrimSuffix at h
 obtain ⟨s2, h1, h⟩ := bind_of h
 have h := some_of h
 subst h
 have t_ := tR (stringslite_TrimSuffix_runs s suffix _ h1) <| tN
 exact runs_of (C := cfg) (objs := []) (sc := t_.ev) (.k0 t_.pf (by kernel_rfl))
noncomputable def text_Fold (s : ByteArray) : Option (ByteArray) :=
 bif decide (s.size ≤ 140737488355328) then
 (runL (text_Fold_L0_2_step ((bytesL s).length) ((bytesL s).length : Int) (bytesL s)) (true, 0, [])).bind fun l_ =>
 (strings_TrimSuffix (strOf (List.take (l_).length l_)) (⟨#[32]⟩ : ByteArray)).bind fun s2 =>
 some s2
 else none
theorem text_Fold_runs (s : ByteArray) (r_ : ByteArray) (h : text_Fold s = some r_) : Runs Tryz.prog 64 [(.one (.pv (.str s)))] [] [] (text_Fold_out s r_) := by
 unfold text_Fold at h
 obtain ⟨h1, h⟩ := need_of h
 obtain ⟨l_, h2, h⟩ := bind_of h
 obtain ⟨s2, h3, h⟩ := bind_of h
 have h := some_of h
 subst h
 have t_ := tO h1 <| tL (LRuns.coe (s0 := ⟨[(3, (.av (.one (.own 0 0 0 false)))), (4, (.av (.one (.pv (.bool true))))), (8, (.av (.one (.own 1 0 (bytesL s).length false)))), (9, (.av (.one (.pv (.int .i64 ((bytesL s).length : Int)))))), (10, (.av (.one (.pv (.int .i64 0)))))], [], [(0, (.live (.ints .u8 []))), (1, (.live (.ints .u8 (bytesL s))))]⟩) (text_Fold_L0_2_runs ((bytesL s).length) ((bytesL s).length : Int) (bytesL s) _ _ h2) ⟨⟨⟨_, rfl, .own (by first | rfl | (simp only [List.take_length, List.drop_zero, List.map_take, List.nil_append]; done) | (simp; done) | (simp only [E_card_Field.upd, E_card_Field.upd]; done) | (simp [E_card_Field.pv, E_card_Field.pv]; done) | (simp only [List.length_map, List.take_length, List.length_append, List.map_append, List.map_cons, List.map_nil, List.append_nil, List.nil_append, E_card_Field.pv, E_card_Field.pv]; done))⟩, ⟨_, rfl, .eq rfl⟩, ⟨_, rfl, .eq rfl⟩, ⟨_, rfl, .eq rfl⟩, ⟨_, rfl, .eq rfl⟩, trivial⟩, trivial, ⟨⟨rfl, .eq rfl⟩, ⟨rfl, .eq rfl⟩, trivial⟩⟩) <| tR (strings_TrimSuffix_runs (strOf (List.take (l_).length l_)) (⟨#[32]⟩ : ByteArray) _ h3) <| tN
 exact runs_of (C := cfg) (objs := []) (sc := t_.ev) (.k0 t_.pf (by kernel_rfl))
def text_Phone_out (s : ByteArray) : Bool → Res
 | r1 => ([(.one (.pv (.bool r1)))], [], [])
def text_Phone_L0_st (s : ByteArray) (s2 : ByteArray) : Bool × Nat → St
 | (digits, k) => ⟨[(0, (.av (.one (.pv (.str s))))), (3, (.av (.one (.pv (.bool digits))))), (7, (.av (.one (.ref 0 0))))], [(0, [(.sit s2 k)])], []⟩
def text_Phone_L0_ex (s : ByteArray) (s2 : ByteArray) : (Unit) ⊕ (Bool × Nat) → Ex × St
 | .inl _ => (.ret, ⟨[(2, (.av (.one (.pv (.bool false)))))], [], []⟩)
 | .inr (r1, r2) => ((.exit 0), ⟨[(0, (.av (.one (.pv (.str s))))), (3, (.av (.one (.pv (.bool r1)))))], [(0, [(.sit s2 r2)])], []⟩)
noncomputable def text_Phone_L0_step (s : ByteArray) (s2 : ByteArray) : Bool × Nat → Option ((Bool × Nat) ⊕ ((Unit) ⊕ (Bool × Nat)))
 | (digits, k) =>
 bif (decide ((k : Nat) < s2.size)) then
  bif (decide ((48 : Int) ≤ ((Utf8.decode s2 k).1 : Int))) then
   bif (decide ((((Utf8.decode s2 k).1 : Int) : Int) ≤ 57)) then
    some (.inl (true, (k + (Utf8.decode s2 k).2)))
   else
    bif (decide ((((Utf8.decode s2 k).1 : Int) : Int) = 43)) then
     bif (decide (((k : Int) : Int) = 0)) then
      some (.inl (digits, (k + (Utf8.decode s2 k).2)))
     else
      bif (decide ((((Utf8.decode s2 k).1 : Int) : Int) = 32)) then
       some (.inl (digits, (k + (Utf8.decode s2 k).2)))
      else
       bif (decide ((((Utf8.decode s2 k).1 : Int) : Int) = 45)) then
        some (.inl (digits, (k + (Utf8.decode s2 k).2)))
       else
        some (.inr (.inl ()))
    else
     bif (decide ((((Utf8.decode s2 k).1 : Int) : Int) = 32)) then
      some (.inl (digits, (k + (Utf8.decode s2 k).2)))
     else
      bif (decide ((((Utf8.decode s2 k).1 : Int) : Int) = 45)) then
       some (.inl (digits, (k + (Utf8.decode s2 k).2)))
      else
       some (.inr (.inl ()))
  else
   bif (decide ((((Utf8.decode s2 k).1 : Int) : Int) = 43)) then
    bif (decide (((k : Int) : Int) = 0)) then
     some (.inl (digits, (k + (Utf8.decode s2 k).2)))
    else
     bif (decide ((((Utf8.decode s2 k).1 : Int) : Int) = 32)) then
      some (.inl (digits, (k + (Utf8.decode s2 k).2)))
     else
      bif (decide ((((Utf8.decode s2 k).1 : Int) : Int) = 45)) then
       some (.inl (digits, (k + (Utf8.decode s2 k).2)))
      else
       some (.inr (.inl ()))
   else
    bif (decide ((((Utf8.decode s2 k).1 : Int) : Int) = 32)) then
     some (.inl (digits, (k + (Utf8.decode s2 k).2)))
    else
     bif (decide ((((Utf8.decode s2 k).1 : Int) : Int) = 45)) then
      some (.inl (digits, (k + (Utf8.decode s2 k).2)))
     else
      some (.inr (.inl ()))
 else
  some (.inr (.inr (digits, k)))
theorem text_Phone_L0_ok (s : ByteArray) (s2 : ByteArray) (s_ : Bool × Nat) (z_ : (Bool × Nat) ⊕ ((Unit) ⊕ (Bool × Nat))) (h : text_Phone_L0_step s s2 s_ = some z_) : RoundOk Tryz.prog cfg 65 0 (loopAt Tryz.prog 65 0) (text_Phone_L0_st s s2) (text_Phone_L0_ex s s2) s_ z_ := by
 rcases s_ with ⟨digits, k⟩
 rcases cond_of h with ⟨h1, h⟩ | ⟨h1, h⟩
 ·rcases cond_of h with ⟨h2, h⟩ | ⟨h2, h⟩
  ·rcases cond_of h with ⟨h3, h⟩ | ⟨h3, h⟩
   ·have h := some_of h
    subst h
    have t_ := tT h1 <| tT (rfl : true = true) <| tT h2 <| tT h3 <| tN
    exact ⟨t_.ev, text_Phone_L0_st s s2 (true, (k + (Utf8.decode s2 k).2)), .k0 t_.pf (by kernel_rfl), .same (by kernel_rfl)⟩
   ·rcases cond_of h with ⟨h4, h⟩ | ⟨h4, h⟩
    ·rcases cond_of h with ⟨h5, h⟩ | ⟨h5, h⟩
     ·have h := some_of h
      subst h
      have t_ := tT h1 <| tT (rfl : true = true) <| tT h2 <| tF h3 <| tT h4 <| tT h5 <| tT (rfl : true = true) <| tN
      exact ⟨t_.ev, text_Phone_L0_st s s2 (digits, (k + (Utf8.decode s2 k).2)), .k0 t_.pf (by kernel_rfl), .same (by kernel_rfl)⟩
     ·rcases cond_of h with ⟨h6, h⟩ | ⟨h6, h⟩
      ·have h := some_of h
       subst h
       have t_ := tT h1 <| tT (rfl : true = true) <| tT h2 <| tF h3 <| tT h4 <| tF h5 <| tT h6 <| tT (rfl : true = true) <| tN
       exact ⟨t_.ev, text_Phone_L0_st s s2 (digits, (k + (Utf8.decode s2 k).2)), .k0 t_.pf (by kernel_rfl), .same (by kernel_rfl)⟩
      ·rcases cond_of h with ⟨h7, h⟩ | ⟨h7, h⟩
       ·have h := some_of h
        subst h
        have t_ := tT h1 <| tT (rfl : true = true) <| tT h2 <| tF h3 <| tT h4 <| tF h5 <| tF h6 <| tT h7 <| tN
        exact ⟨t_.ev, text_Phone_L0_st s s2 (digits, (k + (Utf8.decode s2 k).2)), .k0 t_.pf (by kernel_rfl), .same (by kernel_rfl)⟩
       ·have h := some_of h
        subst h
        have t_ := tT h1 <| tT (rfl : true = true) <| tT h2 <| tF h3 <| tT h4 <| tF h5 <| tF h6 <| tF h7 <| tN
        exact ⟨t_.ev, (text_Phone_L0_ex s s2 (.inl ())).2, .k0 t_.pf (by kernel_rfl), .same (by kernel_rfl)⟩
    ·rcases cond_of h with ⟨h5, h⟩ | ⟨h5, h⟩
     ·have h := some_of h
      subst h
      have t_ := tT h1 <| tT (rfl : true = true) <| tT h2 <| tF h3 <| tF h4 <| tF (rfl : false = false) <| tT h5 <| tT (rfl : true = true) <| tN
      exact ⟨t_.ev, text_Phone_L0_st s s2 (digits, (k + (Utf8.decode s2 k).2)), .k0 t_.pf (by kernel_rfl), .same (by kernel_rfl)⟩
     ·rcases cond_of h with ⟨h6, h⟩ | ⟨h6, h⟩
      ·have h := some_of h
       subst h
       have t_ := tT h1 <| tT (rfl : true = true) <| tT h2 <| tF h3 <| tF h4 <| tF (rfl : false = false) <| tF h5 <| tT h6 <| tN
       exact ⟨t_.ev, text_Phone_L0_st s s2 (digits, (k + (Utf8.decode s2 k).2)), .k0 t_.pf (by kernel_rfl), .same (by kernel_rfl)⟩
      ·have h := some_of h
       subst h
       have t_ := tT h1 <| tT (rfl : true = true) <| tT h2 <| tF h3 <| tF h4 <| tF (rfl : false = false) <| tF h5 <| tF h6 <| tN
       exact ⟨t_.ev, (text_Phone_L0_ex s s2 (.inl ())).2, .k0 t_.pf (by kernel_rfl), .same (by kernel_rfl)⟩
  ·rcases cond_of h with ⟨h3, h⟩ | ⟨h3, h⟩
   ·rcases cond_of h with ⟨h4, h⟩ | ⟨h4, h⟩
    ·have h := some_of h
     subst h
     have t_ := tT h1 <| tT (rfl : true = true) <| tF h2 <| tF (rfl : false = false) <| tT h3 <| tT h4 <| tT (rfl : true = true) <| tN
     exact ⟨t_.ev, text_Phone_L0_st s s2 (digits, (k + (Utf8.decode s2 k).2)), .k0 t_.pf (by kernel_rfl), .same (by kernel_rfl)⟩
    ·rcases cond_of h with ⟨h5, h⟩ | ⟨h5, h⟩
     ·have h := some_of h
      subst h
      have t_ := tT h1 <| tT (rfl : true = true) <| tF h2 <| tF (rfl : false = false) <| tT h3 <| tF h4 <| tT h5 <| tT (rfl : true = true) <| tN
      exact ⟨t_.ev, text_Phone_L0_st s s2 (digits, (k + (Utf8.decode s2 k).2)), .k0 t_.pf (by kernel_rfl), .same (by kernel_rfl)⟩
     ·rcases cond_of h with ⟨h6, h⟩ | ⟨h6, h⟩
      ·have h := some_of h
       subst h
       have t_ := tT h1 <| tT (rfl : true = true) <| tF h2 <| tF (rfl : false = false) <| tT h3 <| tF h4 <| tF h5 <| tT h6 <| tN
       exact ⟨t_.ev, text_Phone_L0_st s s2 (digits, (k + (Utf8.decode s2 k).2)), .k0 t_.pf (by kernel_rfl), .same (by kernel_rfl)⟩
      ·have h := some_of h
       subst h
       have t_ := tT h1 <| tT (rfl : true = true) <| tF h2 <| tF (rfl : false = false) <| tT h3 <| tF h4 <| tF h5 <| tF h6 <| tN
       exact ⟨t_.ev, (text_Phone_L0_ex s s2 (.inl ())).2, .k0 t_.pf (by kernel_rfl), .same (by kernel_rfl)⟩
   ·rcases cond_of h with ⟨h4, h⟩ | ⟨h4, h⟩
    ·have h := some_of h
     subst h
     have t_ := tT h1 <| tT (rfl : true = true) <| tF h2 <| tF (rfl : false = false) <| tF h3 <| tF (rfl : false = false) <| tT h4 <| tT (rfl : true = true) <| tN
     exact ⟨t_.ev, text_Phone_L0_st s s2 (digits, (k + (Utf8.decode s2 k).2)), .k0 t_.pf (by kernel_rfl), .same (by kernel_rfl)⟩
    ·rcases cond_of h with ⟨h5, h⟩ | ⟨h5, h⟩
     ·have h := some_of h
      subst h
      have t_ := tT h1 <| tT (rfl : true = true) <| tF h2 <| tF (rfl : false = false) <| tF h3 <| tF (rfl : false = false) <| tF h4 <| tT h5 <| tN
      exact ⟨t_.ev, text_Phone_L0_st s s2 (digits, (k + (Utf8.decode s2 k).2)), .k0 t_.pf (by kernel_rfl), .same (by kernel_rfl)⟩
     ·have h := some_of h
      subst h
      have t_ := tT h1 <| tT (rfl : true = true) <| tF h2 <| tF (rfl : false = false) <| tF h3 <| tF (rfl : false = false) <| tF h4 <| tF h5 <| tN
      exact ⟨t_.ev, (text_Phone_L0_ex s s2 (.inl ())).2, .k0 t_.pf (by kernel_rfl), .same (by kernel_rfl)⟩
 ·have h := some_of h
  subst h
  have t_ := tF h1 <| tF (rfl : false = false) <| tN
  exact ⟨t_.ev, ⟨[(9, (.av (.one (.pv (.bool false))))), (0, (.av (.one (.pv (.str s))))), (3, (.av (.one (.pv (.bool digits))))), (7, (.av (.one (.ref 0 0)))), (8, (.tup [(.one (.pv (.bool false)))])), (9, (.av (.one (.pv (.bool false)))))], [(0, [(.sit s2 k)])], []⟩, .k0 t_.pf (by kernel_rfl), ⟨⟨⟨_, rfl, .eq rfl⟩, ⟨_, rfl, .eq rfl⟩, trivial⟩, ⟨⟨rfl, ⟨.eq rfl, trivial⟩⟩, trivial⟩, trivial⟩⟩
theorem text_Phone_L0_runs (s : ByteArray) (s2 : ByteArray) (s_ : Bool × Nat) (r_ : (Unit) ⊕ (Bool × Nat)) (h : runL (text_Phone_L0_step s s2) s_ = some r_) : LRuns Tryz.prog (lEnv Tryz.prog cfg 65 0).nt 0 (.loop (loopAt Tryz.prog 65 0)) (text_Phone_L0_st s s2 s_) (text_Phone_L0_ex s s2 r_).1 (text_Phone_L0_ex s s2 r_).2 :=
 loop_run h (text_Phone_L0_ok s s2) (by intro r_; rcases r_ with _ | ⟨r1, r2⟩ <;> simp [text_Phone_L0_ex])
noncomputable def text_Phone (s : ByteArray) : Option (Bool) :=
 (runL (text_Phone_L0_step s s) (false, 0)).bind fun z_ => match z_ with
 | .inl _ =>
  some false
 | .inr (b, k) =>
  bif b then
   some (decide (((s.size : Int) : Int) ≤ 20))
  else
   some false
theorem text_Phone_runs (s : ByteArray) (r_ : Bool) (h : text_Phone s = some r_) : Runs Tryz.prog 65 [(.one (.pv (.str s)))] [] [] (text_Phone_out s r_) := by
 unfold text_Phone at h
 obtain ⟨z_, h1, h⟩ := bind_of h
 rcases z_ with _ | ⟨b, k⟩
 ·have h := some_of h
  subst h
  have t_ := tL (text_Phone_L0_runs s s _ _ h1) <| tN
  exact runs_of (C := cfg) (objs := []) (sc := t_.ev) (.k0 t_.pf (by kernel_rfl))
 ·rcases cond_of h with ⟨h2, h⟩ | ⟨h2, h⟩
  ·have h := some_of h
   subst h
   have t_ := tL (text_Phone_L0_runs s s _ _ h1) <| tT h2 <| tN
   exact runs_of (C := cfg) (objs := []) (sc := t_.ev) (.k0 t_.pf (by kernel_rfl))
  ·have h := some_of h
   subst h
   have t_ := tL (text_Phone_L0_runs s s _ _ h1) <| tF h2 <| tN
   exact runs_of (C := cfg) (objs := []) (sc := t_.ev) (.k0 t_.pf (by kernel_rfl))
def text_Mail_out (s : ByteArray) : Bool → Res
 | r1 => ([(.one (.pv (.bool r1)))], [], [])
def text_Mail_L0_st (s : ByteArray) (n : Int) : Int → St
 | n2 => ⟨[(0, (.av (.one (.pv (.str s))))), (8, (.av (.one (.pv (.int .i64 n))))), (9, (.av (.one (.pv (.int .i64 n2)))))], [], []⟩
def text_Mail_L0_ex (s : ByteArray) (n : Int) : (Unit) ⊕ (Unit) → Ex × St
 | .inl _ => (.ret, ⟨[(2, (.av (.one (.pv (.bool false)))))], [], []⟩)
 | .inr _ => ((.exit 0), ⟨[(0, (.av (.one (.pv (.str s)))))], [], []⟩)
noncomputable def text_Mail_L0_step (s : ByteArray) (n : Int) : Int → Option ((Int) ⊕ ((Unit) ⊕ (Unit)))
 | n2 =>
 bif (decide ((n2 : Int) < n)) then
  bif decide ((0 : Int) ≤ n2) && decide ((n2 : Int) < (s.size : Int)) then
  bif (decide ((((s.data.getD (n2).toNat 0).toNat : Int) : Int) ≤ 32)) then
   some (.inr (.inl ()))
  else
   bif (decide ((126 : Int) < ((s.data.getD (n2).toNat 0).toNat : Int))) then
    some (.inr (.inl ()))
   else
    some (.inl (iadd .i64 n2 1))
  else none
 else
  some (.inr (.inr ()))
theorem text_Mail_L0_ok (s : ByteArray) (n : Int) (n2 : Int) (z_ : (Int) ⊕ ((Unit) ⊕ (Unit))) (h : text_Mail_L0_step s n n2 = some z_) : RoundOk Tryz.prog cfg 66 0 (loopAt Tryz.prog 66 0) (text_Mail_L0_st s n) (text_Mail_L0_ex s n) n2 z_ := by
 rcases cond_of h with ⟨h1, h⟩ | ⟨h1, h⟩
 ·obtain ⟨h2, h⟩ := need_of h
  rcases cond_of h with ⟨h3, h⟩ | ⟨h3, h⟩
  ·have h := some_of h
   subst h
   have t_ := tT h1 <| tO h2 <| tT h3 <| tT (rfl : true = true) <| tN
   exact ⟨t_.ev, (text_Mail_L0_ex s n (.inl ())).2, .k0 t_.pf (by kernel_rfl), .same (by kernel_rfl)⟩
  ·rcases cond_of h with ⟨h4, h⟩ | ⟨h4, h⟩
   ·have h := some_of h
    subst h
    have t_ := tT h1 <| tO h2 <| tF h3 <| tO h2 <| tT h4 <| tN
    exact ⟨t_.ev, (text_Mail_L0_ex s n (.inl ())).2, .k0 t_.pf (by kernel_rfl), .same (by kernel_rfl)⟩
   ·have h := some_of h
    subst h
    have t_ := tT h1 <| tO h2 <| tF h3 <| tO h2 <| tF h4 <| tN
    exact ⟨t_.ev, text_Mail_L0_st s n (iadd .i64 n2 1), .k0 t_.pf (by kernel_rfl), .same (by kernel_rfl)⟩
 ·have h := some_of h
  subst h
  have t_ := tF h1 <| tN
  exact ⟨t_.ev, ⟨[(10, (.av (.one (.pv (.bool false))))), (0, (.av (.one (.pv (.str s))))), (8, (.av (.one (.pv (.int .i64 n))))), (9, (.av (.one (.pv (.int .i64 n2))))), (10, (.av (.one (.pv (.bool (decide ((n2 : Int) < n)))))))], [], []⟩, .k0 t_.pf (by kernel_rfl), ⟨⟨⟨_, rfl, .eq rfl⟩, trivial⟩, trivial, trivial⟩⟩
theorem text_Mail_L0_runs (s : ByteArray) (n : Int) (s_ : Int) (r_ : (Unit) ⊕ (Unit)) (h : runL (text_Mail_L0_step s n) s_ = some r_) : LRuns Tryz.prog (lEnv Tryz.prog cfg 66 0).nt 0 (.loop (loopAt Tryz.prog 66 0)) (text_Mail_L0_st s n s_) (text_Mail_L0_ex s n r_).1 (text_Mail_L0_ex s n r_).2 :=
 loop_run h (text_Mail_L0_ok s n) (by intro r_; rcases r_ with _ | _ <;> simp [text_Mail_L0_ex])
def strings_Cut_out (s : ByteArray) (sep : ByteArray) : ByteArray × ByteArray × Bool → Res
 | (r1, r2, r3) => ([(.one (.pv (.str r1))), (.one (.pv (.str r2))), (.one (.pv (.bool r3)))], [], [])
def stringslite_Cut_out (s : ByteArray) (sep : ByteArray) : ByteArray × ByteArray × Bool → Res
 | (r1, r2, r3) => ([(.one (.pv (.str r1))), (.one (.pv (.str r2))), (.one (.pv (.bool r3)))], [], [])
noncomputable def stringslite_Cut (s : ByteArray) (sep : ByteArray) : Option (ByteArray × ByteArray × Bool) :=
 (stringslite_Index s sep).bind fun n =>
 bif (decide ((0 : Int) ≤ n)) then
  bif decide ((0 : Int) ≤ 0) && decide ((0 : Int) ≤ n) && decide ((n : Int) ≤ (s.size : Int)) then
  bif decide ((0 : Int) ≤ (iadd .i64 n (sep.size : Int))) && decide (((iadd .i64 n (sep.size : Int)) : Int) ≤ (s.size : Int)) && decide (((s.size : Int) : Int) ≤ (s.size : Int)) then
  some ((s.extract 0 (n).toNat), (s.extract ((iadd .i64 n (sep.size : Int))).toNat ((s.size : Int)).toNat), true)
  else none
  else none
 else
  some (s, (⟨#[]⟩ : ByteArray), false)
theorem stringslite_Cut_runs (s : ByteArray) (sep : ByteArray) (r_ : ByteArray × ByteArray × Bool) (h : stringslite_Cut s sep = some r_) : Runs Tryz.prog 130 [(.one (.pv (.str s))), (.one (.pv (.str sep)))] [] [] (stringslite_Cut_out s sep r_) := by
 unfold stringslite_Cut at h
 obtain ⟨n, h1, h⟩ := bind_of h
 rcases cond_of h with ⟨h2, h⟩ | ⟨h2, h⟩
 ·obtain ⟨h3, h⟩ := need_of h
  obtain ⟨h4, h⟩ := need_of h
  have h := some_of h
  subst h
  have t_ := tR (stringslite_Index_runs s sep _ h1) <| tT h2 <| tO h3 <| tO h4 <| tN
  exact runs_of (C := cfg) (objs := []) (sc := t_.ev) (.k0 t_.pf (by kernel_rfl))
 ·have h := some_of h
  subst h
  have t_ := tR (stringslite_Index_runs s sep _ h1) <| tF h2 <| tN
  exact runs_of (C := cfg) (objs := []) (sc := t_.ev) (.k0 t_.pf (by kernel_rfl))
noncomputable def strings_Cut (s : ByteArray) (sep : ByteArray) : Option (ByteArray × ByteArray × Bool) :=
 (stringslite_Cut s sep).bind fun (s2, s3, b) =>
 some (s2, s3, b)
theorem strings_Cut_runs (s : ByteArray) (sep : ByteArray) (r_ : ByteArray × ByteArray × Bool) (h : strings_Cut s sep = some r_) : Runs Tryz.prog 109 [(.one (.pv (.str s))), (.one (.pv (.str sep)))] [] [] (strings_Cut_out s sep r_) := by
 unfold strings_Cut at h
 obtain ⟨⟨s2, s3, b⟩, h1, h⟩ := bind_of h
 have h := some_of h
 subst h
 have t_ := tR (stringslite_Cut_runs s sep _ h1) <| tN
 exact runs_of (C := cfg) (objs := []) (sc := t_.ev) (.k0 t_.pf (by kernel_rfl))
noncomputable def text_Mail (s : ByteArray) : Option (Bool) :=
 (runL (text_Mail_L0_step s (s.size : Int)) 0).bind fun z_ => match z_ with
 | .inl _ =>
  some false
 | .inr _ =>
  (strings_Cut s (⟨#[64]⟩ : ByteArray)).bind fun (s2, s3, b) =>
  bif b then
   bif (decide (s2 = (⟨#[]⟩ : ByteArray))) then
    some false
   else
    (strings_Contains s3 (⟨#[64]⟩ : ByteArray)).bind fun b2 =>
    bif b2 then
     some false
    else
     (strings_Trim s3 (⟨#[46]⟩ : ByteArray)).bind fun s4 =>
     (strings_Contains s4 (⟨#[46]⟩ : ByteArray)).bind fun b3 =>
     bif b3 then
      bif decide ((0 : Int) ≤ 0) && decide ((0 : Int) < (s3.size : Int)) then
      bif (decide ((((s3.data.getD 0 0).toNat : Int) : Int) = 46)) then
       some false
      else
       bif decide ((0 : Int) ≤ (isub .i64 (s3.size : Int) 1)) && decide (((isub .i64 (s3.size : Int) 1) : Int) < (s3.size : Int)) then
       some (!(decide ((((s3.data.getD ((isub .i64 (s3.size : Int) 1)).toNat 0).toNat : Int) : Int) = 46)))
       else none
      else none
     else
      some false
  else
   some false
theorem text_Mail_runs (s : ByteArray) (r_ : Bool) (h : text_Mail s = some r_) : Runs Tryz.prog 66 [(.one (.pv (.str s)))] [] [] (text_Mail_out s r_) := by
 unfold text_Mail at h
 obtain ⟨z_, h1, h⟩ := bind_of h
 rcases z_ with _ | _
 ·have h := some_of h
  subst h
  have t_ := tL (text_Mail_L0_runs s (s.size : Int) _ _ h1) <| tN
  exact runs_of (C := cfg) (objs := []) (sc := t_.ev) (.k0 t_.pf (by kernel_rfl))
 ·obtain ⟨⟨s2, s3, b⟩, h2, h⟩ := bind_of h
  rcases cond_of h with ⟨h3, h⟩ | ⟨h3, h⟩
  ·rcases cond_of h with ⟨h4, h⟩ | ⟨h4, h⟩
   ·have h := some_of h
    subst h
    have t_ := tL (text_Mail_L0_runs s (s.size : Int) _ _ h1) <| tR (strings_Cut_runs s (⟨#[64]⟩ : ByteArray) _ h2) <| tF (not_of2 h3) <| tT h4 <| tT (rfl : true = true) <| tN
    exact runs_of (C := cfg) (objs := []) (sc := t_.ev) (.k0 t_.pf (by kernel_rfl))
   ·obtain ⟨b2, h5, h⟩ := bind_of h
    have q_5 := (strings_Contains_runs s3 (⟨#[64]⟩ : ByteArray) _ h5)
    rcases cond_of h with ⟨h6, h⟩ | ⟨h6, h⟩
    ·have h := some_of h
     subst h
     have t_ := tL (text_Mail_L0_runs s (s.size : Int) _ _ h1) <| tR (strings_Cut_runs s (⟨#[64]⟩ : ByteArray) _ h2) <| tF (not_of2 h3) <| tF h4 <| tR q_5 <| tT h6 <| tN
     exact runs_of (C := cfg) (objs := []) (sc := t_.ev) (.k0 t_.pf (by kernel_rfl))
    ·obtain ⟨s4, h7, h⟩ := bind_of h
     have q_7 := (strings_Trim_runs s3 (⟨#[46]⟩ : ByteArray) _ h7)
     obtain ⟨b3, h8, h⟩ := bind_of h
     have q_8 := (strings_Contains_runs s4 (⟨#[46]⟩ : ByteArray) _ h8)
     rcases cond_of h with ⟨h9, h⟩ | ⟨h9, h⟩
     ·obtain ⟨h10, h⟩ := need_of h
      rcases cond_of h with ⟨h11, h⟩ | ⟨h11, h⟩
      ·have h := some_of h
       subst h
       have t_ := tL (text_Mail_L0_runs s (s.size : Int) _ _ h1) <| tR (strings_Cut_runs s (⟨#[64]⟩ : ByteArray) _ h2) <| tF (not_of2 h3) <| tF h4 <| tR q_5 <| tF h6 <| tR q_7 <| tR q_8 <| tT h9 <| tO h10 <| tF (not_of2 h11) <| tN
       exact runs_of (C := cfg) (objs := []) (sc := t_.ev) (.k0 t_.pf (by kernel_rfl))
      ·obtain ⟨h12, h⟩ := need_of h
       have h := some_of h
       subst h
       have t_ := tL (text_Mail_L0_runs s (s.size : Int) _ _ h1) <| tR (strings_Cut_runs s (⟨#[64]⟩ : ByteArray) _ h2) <| tF (not_of2 h3) <| tF h4 <| tR q_5 <| tF h6 <| tR q_7 <| tR q_8 <| tT h9 <| tO h10 <| tT (not_of h11) <| tO h12 <| tN
       exact runs_of (C := cfg) (objs := []) (sc := t_.ev) (.k0 t_.pf (by kernel_rfl))
     ·have h := some_of h
      subst h
      have t_ := tL (text_Mail_L0_runs s (s.size : Int) _ _ h1) <| tR (strings_Cut_runs s (⟨#[64]⟩ : ByteArray) _ h2) <| tF (not_of2 h3) <| tF h4 <| tR q_5 <| tF h6 <| tR q_7 <| tR q_8 <| tF h9 <| tF (rfl : false = false) <| tN
      exact runs_of (C := cfg) (objs := []) (sc := t_.ev) (.k0 t_.pf (by kernel_rfl))
  ·have h := some_of h
   subst h
   have t_ := tL (text_Mail_L0_runs s (s.size : Int) _ _ h1) <| tR (strings_Cut_runs s (⟨#[64]⟩ : ByteArray) _ h2) <| tT (not_of h3) <| tT (rfl : true = true) <| tT (rfl : true = true) <| tN
   exact runs_of (C := cfg) (objs := []) (sc := t_.ev) (.k0 t_.pf (by kernel_rfl))
noncomputable def card_Field_Right (f : Int) (f2 : ByteArray) (f3 : ByteArray) : Option (Int) :=
 (card_KindName f).bind fun s =>
 bif (decide (s = (⟨#[]⟩ : ByteArray))) then
  some 1
 else
  (text_Check f2 12).bind fun n =>
  bif (decide ((n : Int) = 0)) then
   (text_Check f3 40).bind fun n2 =>
   bif (decide ((n2 : Int) = 0)) then
    bif (decide (f3 = (⟨#[]⟩ : ByteArray))) then
     some 7
    else
     (text_Fold f3).bind fun s2 =>
     bif decide (s2 = f3) then
      bif (decide ((f : Int) = 2)) then
       (text_Phone f3).bind fun b =>
       bif b then
        bif (decide ((f : Int) = 3)) then
         (text_Mail f3).bind fun b2 =>
         bif b2 then
          some 0
         else
          some 7
        else
         some 0
       else
        some 7
      else
       bif (decide ((f : Int) = 3)) then
        (text_Mail f3).bind fun b =>
        bif b then
         some 0
        else
         some 7
       else
        some 0
     else
      some 7
   else
    some n2
  else
   some n
theorem card_Field_Right_runs (f : Int) (f2 : ByteArray) (f3 : ByteArray) (r_ : Int) (h : card_Field_Right f f2 f3 = some r_) : Runs Tryz.prog 20 [(.agg [(.pv (.int .i64 f)), (.pv (.str f2)), (.pv (.str f3))])] [] [] (card_Field_Right_out f f2 f3 r_) := by
 unfold card_Field_Right at h
 obtain ⟨s, h1, h⟩ := bind_of h
 rcases cond_of h with ⟨h2, h⟩ | ⟨h2, h⟩
 ·have h := some_of h
  subst h
  have t_ := tR (card_KindName_runs f _ h1) <| tT h2 <| tN
  exact runs_of (C := cfg) (objs := []) (sc := t_.ev) (.k0 t_.pf (by kernel_rfl))
 ·obtain ⟨n, h3, h⟩ := bind_of h
  rcases cond_of h with ⟨h4, h⟩ | ⟨h4, h⟩
  ·obtain ⟨n2, h5, h⟩ := bind_of h
   rcases cond_of h with ⟨h6, h⟩ | ⟨h6, h⟩
   ·rcases cond_of h with ⟨h7, h⟩ | ⟨h7, h⟩
    ·have h := some_of h
     subst h
     have t_ := tR (card_KindName_runs f _ h1) <| tF h2 <| tR (text_Check_runs f2 12 _ h3) <| tF (not_of2 h4) <| tR (text_Check_runs f3 40 _ h5) <| tF (not_of2 h6) <| tT h7 <| tT (rfl : true = true) <| tN
     exact runs_of (C := cfg) (objs := []) (sc := t_.ev) (.k0 t_.pf (by kernel_rfl))
    ·obtain ⟨s2, h8, h⟩ := bind_of h
     rcases cond_of h with ⟨h9, h⟩ | ⟨h9, h⟩
     ·rcases cond_of h with ⟨h10, h⟩ | ⟨h10, h⟩
      ·obtain ⟨b, h11, h⟩ := bind_of h
       rcases cond_of h with ⟨h12, h⟩ | ⟨h12, h⟩
       ·have p12_ := fun {sc_ : List Ev} {Q_ : Prop} (t_ : Tell sc_ Q_) => tR (card_KindName_runs f _ h1) <| tF h2 <| tR (text_Check_runs f2 12 _ h3) <| tF (not_of2 h4) <| tR (text_Check_runs f3 40 _ h5) <| tF (not_of2 h6) <| tF h7 <| tR (text_Fold_runs f3 _ h8) <| tR (text_Fold_runs f3 _ h8) <| tF (not_of2 h9) <| tT h10 <| tR (text_Phone_runs f3 _ h11) <| tF (not_of2 h12) <| t_
        rcases cond_of h with ⟨h13, h⟩ | ⟨h13, h⟩
        ·obtain ⟨b2, h14, h⟩ := bind_of h
         rcases cond_of h with ⟨h15, h⟩ | ⟨h15, h⟩
         ·have h := some_of h
          subst h
          have t_ := p12_ <| tT h13 <| tR (text_Mail_runs f3 _ h14) <| tF (not_of2 h15) <| tN
          exact runs_of (C := cfg) (objs := []) (sc := t_.ev) (.k1 t_.pf (by kernel_rfl) (by kernel_rfl))
         ·have h := some_of h
          subst h
          have t_ := p12_ <| tT h13 <| tR (text_Mail_runs f3 _ h14) <| tT (not_of h15) <| tN
          exact runs_of (C := cfg) (objs := []) (sc := t_.ev) (.k1 t_.pf (by kernel_rfl) (by kernel_rfl))
        ·have h := some_of h
         subst h
         have t_ := p12_ <| tF h13 <| tF (rfl : false = false) <| tN
         exact runs_of (C := cfg) (objs := []) (sc := t_.ev) (.k1 t_.pf (by kernel_rfl) (by kernel_rfl))
       ·have h := some_of h
        subst h
        have t_ := tR (card_KindName_runs f _ h1) <| tF h2 <| tR (text_Check_runs f2 12 _ h3) <| tF (not_of2 h4) <| tR (text_Check_runs f3 40 _ h5) <| tF (not_of2 h6) <| tF h7 <| tR (text_Fold_runs f3 _ h8) <| tR (text_Fold_runs f3 _ h8) <| tF (not_of2 h9) <| tT h10 <| tR (text_Phone_runs f3 _ h11) <| tT (not_of h12) <| tT (rfl : true = true) <| tN
        exact runs_of (C := cfg) (objs := []) (sc := t_.ev) (.k1 t_.pf (by kernel_rfl) (by kernel_rfl))
      ·rcases cond_of h with ⟨h11, h⟩ | ⟨h11, h⟩
       ·obtain ⟨b, h12, h⟩ := bind_of h
        have p12_ := fun {sc_ : List Ev} {Q_ : Prop} (t_ : Tell sc_ Q_) => tR (card_KindName_runs f _ h1) <| tF h2 <| tR (text_Check_runs f2 12 _ h3) <| tF (not_of2 h4) <| tR (text_Check_runs f3 40 _ h5) <| tF (not_of2 h6) <| tF h7 <| tR (text_Fold_runs f3 _ h8) <| tR (text_Fold_runs f3 _ h8) <| tF (not_of2 h9) <| tF h10 <| tF (rfl : false = false) <| tT h11 <| tR (text_Mail_runs f3 _ h12) <| t_
        rcases cond_of h with ⟨h13, h⟩ | ⟨h13, h⟩
        ·have h := some_of h
         subst h
         have t_ := p12_ <| tF (not_of2 h13) <| tN
         exact runs_of (C := cfg) (objs := []) (sc := t_.ev) (.k1 t_.pf (by kernel_rfl) (by kernel_rfl))
        ·have h := some_of h
         subst h
         have t_ := p12_ <| tT (not_of h13) <| tN
         exact runs_of (C := cfg) (objs := []) (sc := t_.ev) (.k1 t_.pf (by kernel_rfl) (by kernel_rfl))
       ·have h := some_of h
        subst h
        have t_ := tR (card_KindName_runs f _ h1) <| tF h2 <| tR (text_Check_runs f2 12 _ h3) <| tF (not_of2 h4) <| tR (text_Check_runs f3 40 _ h5) <| tF (not_of2 h6) <| tF h7 <| tR (text_Fold_runs f3 _ h8) <| tR (text_Fold_runs f3 _ h8) <| tF (not_of2 h9) <| tF h10 <| tF (rfl : false = false) <| tF h11 <| tF (rfl : false = false) <| tN
        exact runs_of (C := cfg) (objs := []) (sc := t_.ev) (.k1 t_.pf (by kernel_rfl) (by kernel_rfl))
     ·have h := some_of h
      subst h
      have t_ := tR (card_KindName_runs f _ h1) <| tF h2 <| tR (text_Check_runs f2 12 _ h3) <| tF (not_of2 h4) <| tR (text_Check_runs f3 40 _ h5) <| tF (not_of2 h6) <| tF h7 <| tR (text_Fold_runs f3 _ h8) <| tR (text_Fold_runs f3 _ h8) <| tT (not_of h9) <| tT (rfl : true = true) <| tN
      exact runs_of (C := cfg) (objs := []) (sc := t_.ev) (.k1 t_.pf (by kernel_rfl) (by kernel_rfl))
   ·have h := some_of h
    subst h
    have t_ := tR (card_KindName_runs f _ h1) <| tF h2 <| tR (text_Check_runs f2 12 _ h3) <| tF (not_of2 h4) <| tR (text_Check_runs f3 40 _ h5) <| tT (not_of h6) <| tN
    exact runs_of (C := cfg) (objs := []) (sc := t_.ev) (.k0 t_.pf (by kernel_rfl))
  ·have h := some_of h
   subst h
   have t_ := tR (card_KindName_runs f _ h1) <| tF h2 <| tR (text_Check_runs f2 12 _ h3) <| tT (not_of h4) <| tN
   exact runs_of (C := cfg) (objs := []) (sc := t_.ev) (.k0 t_.pf (by kernel_rfl))
def card_Make_L0_st (l : List E_card_Field) (r : List E_card_Field) (n : Int) : Int → St
 | n2 => ⟨[(0, (.av (.one (.pv (.recs 3 (List.map E_card_Field.pv l) false))))), (2, (.av (.one (.ref 0 0)))), (8, (.av (.one (.pv (.recs 3 (List.map E_card_Field.pv r) false))))), (9, (.av (.one (.pv (.int .i64 n))))), (10, (.av (.one (.pv (.int .i64 n2)))))], [(0, [(.pv .nils)])], []⟩
def card_Make_L0_ex (l : List E_card_Field) (r : List E_card_Field) (n : Int) : (Int) ⊕ (Unit) → Ex × St
 | .inl r1 => (.ret, ⟨[(2, (.av (.one (.ref 0 0)))), (3, (.av (.one (.pv (.int .i64 r1)))))], [(0, [(.pv .nils)])], []⟩)
 | .inr _ => ((.exit 0), ⟨[(0, (.av (.one (.pv (.recs 3 (List.map E_card_Field.pv l) false))))), (2, (.av (.one (.ref 0 0))))], [(0, [(.pv .nils)])], []⟩)
noncomputable def card_Make_L0_step (l : List E_card_Field) (r : List E_card_Field) (n : Int) : Int → Option ((Int) ⊕ ((Int) ⊕ (Unit)))
 | n2 =>
 bif (decide ((n2 : Int) < n)) then
  bif decide ((0 : Int) ≤ n2) && decide ((n2 : Int) < (((List.map E_card_Field.pv r)).length : Int)) then
  (r[(n2).toNat]?).bind fun e_ => match e_ with
  | .mk n3 s s2 =>
  (card_Field_Right n3 s s2).bind fun n4 =>
  bif (decide ((n4 : Int) = 0)) then
   some (.inl (iadd .i64 n2 1))
  else
   some (.inr (.inl n4))
  else none
 else
  some (.inr (.inr ()))
theorem card_Make_L0_ok (l : List E_card_Field) (r : List E_card_Field) (n : Int) (n2 : Int) (z_ : (Int) ⊕ ((Int) ⊕ (Unit))) (h : card_Make_L0_step l r n n2 = some z_) : RoundOk Tryz.prog cfg 50 0 (loopAt Tryz.prog 50 0) (card_Make_L0_st l r n) (card_Make_L0_ex l r n) n2 z_ := by
 rcases cond_of h with ⟨h1, h⟩ | ⟨h1, h⟩
 ·obtain ⟨h2, h⟩ := need_of h
  obtain ⟨⟨n3, s, s2⟩, h3, h⟩ := bind_of h
  obtain ⟨n4, h4, h⟩ := bind_of h
  rcases cond_of h with ⟨h5, h⟩ | ⟨h5, h⟩
  ·have h := some_of h
   subst h
   have t_ := tT h1 <| tO h2 <| tE (.el [(.int .i64 n3), (.str s), (.str s2)]) <| tO (el_of (f := E_card_Field.pv) h3) <| tR (card_Field_Right_runs n3 s s2 _ h4) <| tF (not_of2 h5) <| tN
   exact ⟨t_.ev, card_Make_L0_st l r n (iadd .i64 n2 1), .k0 t_.pf (by kernel_rfl), .same (by kernel_rfl)⟩
  ·have h := some_of h
   subst h
   have t_ := tT h1 <| tO h2 <| tE (.el [(.int .i64 n3), (.str s), (.str s2)]) <| tO (el_of (f := E_card_Field.pv) h3) <| tR (card_Field_Right_runs n3 s s2 _ h4) <| tT (not_of h5) <| tN
   exact ⟨t_.ev, (card_Make_L0_ex l r n (.inl n4)).2, .k0 t_.pf (by kernel_rfl), .same (by kernel_rfl)⟩
 ·have h := some_of h
  subst h
  have t_ := tF h1 <| tN
  exact ⟨t_.ev, ⟨[(11, (.av (.one (.pv (.bool false))))), (0, (.av (.one (.pv (.recs 3 (List.map E_card_Field.pv l) false))))), (2, (.av (.one (.ref 0 0)))), (8, (.av (.one (.pv (.recs 3 (List.map E_card_Field.pv r) false))))), (9, (.av (.one (.pv (.int .i64 n))))), (10, (.av (.one (.pv (.int .i64 n2))))), (11, (.av (.one (.pv (.bool (decide ((n2 : Int) < n)))))))], [(0, [(.pv .nils)])], []⟩, .k0 t_.pf (by kernel_rfl), ⟨⟨⟨_, rfl, .eq rfl⟩, ⟨_, rfl, .eq rfl⟩, trivial⟩, ⟨⟨rfl, ⟨.eq rfl, trivial⟩⟩, trivial⟩, trivial⟩⟩
theorem card_Make_L0_runs (l : List E_card_Field) (r : List E_card_Field) (n : Int) (s_ : Int) (r_ : (Int) ⊕ (Unit)) (h : runL (card_Make_L0_step l r n) s_ = some r_) : LRuns Tryz.prog (lEnv Tryz.prog cfg 50 0).nt 0 (.loop (loopAt Tryz.prog 50 0)) (card_Make_L0_st l r n s_) (card_Make_L0_ex l r n r_).1 (card_Make_L0_ex l r n r_).2 :=
 loop_run h (card_Make_L0_ok l r n) (by intro r_; rcases r_ with r1 | _ <;> simp [card_Make_L0_ex])
def card_made_out (l : List E_card_Field) : List E_card_Field → Res
 | r1 => ([(.agg [(.pv (.recs 3 (List.map E_card_Field.pv r1) false))])], [], [])
def slices_Compact_card_Field_out (s : Nat) (s2 : Nat) (r : List E_card_Field) : Nat × Nat × List E_card_Field → Res
 | (r1, r2, r3) => ([(.one (.own 0 r1 r2 false))], [], [(.recs 3 (List.map E_card_Field.pv r3))])
def slices_Compact_card_Field_L1_2_st (s : Nat) (s2 : Nat) (s22 : Nat) (s23 : Nat) : Int × Int × List E_card_Field → St
 | (k, k2, r) => ⟨[(0, (.av (.one (.own 0 s s2 false)))), (3, (.av (.one (.pv (.int .i64 k))))), (4, (.av (.one (.own 0 s22 s23 false)))), (5, (.av (.one (.pv (.int .i64 k2)))))], [], [(0, (.live (.recs 3 (List.map E_card_Field.pv r))))]⟩
def slices_Compact_card_Field_L1_2_ex (s : Nat) (s2 : Nat) (s22 : Nat) (s23 : Nat) : Int × List E_card_Field → Ex × St
 | (r1, r2) => ((.exit 2), ⟨[(0, (.av (.one (.own 0 s s2 false)))), (3, (.av (.one (.pv (.int .i64 r1)))))], [], [(0, (.live (.recs 3 (List.map E_card_Field.pv r2))))]⟩)
noncomputable def slices_Compact_card_Field_L1_2_step (s : Nat) (s2 : Nat) (s22 : Nat) (s23 : Nat) : Int × Int × List E_card_Field → Option ((Int × Int × List E_card_Field) ⊕ (Int × List E_card_Field))
 | (k, k2, r) =>
 bif (decide ((k2 : Int) < (s23 : Int))) then
  bif decide ((0 : Int) ≤ k2) && decide ((k2 : Int) < (s23 : Int)) then
  bif decide ((0 : Int) ≤ (isub .i64 k2 1)) && decide (((isub .i64 k2 1) : Int) < (s23 : Int)) then
  (r[(s22 + (k2).toNat)]?).bind fun e_ => match e_ with
  | .mk n s3 s4 =>
  (r[(s22 + ((isub .i64 k2 1)).toNat)]?).bind fun e_ => match e_ with
  | .mk n2 s5 s6 =>
  bif ((decide ((n : Int) = n2)) && ((decide ((s3 : ByteArray) = s5)) && ((decide ((s4 : ByteArray) = s6)) && true))) then
   some (.inl (k, (iadd .i64 k2 1), r))
  else
   bif decide ((0 : Int) ≤ k) && decide ((k : Int) < (s2 : Int)) then
   some (.inl ((iadd .i64 k 1), (iadd .i64 k2 1), (r.set (s + (k).toNat) (E_card_Field.mk n s3 s4))))
   else none
  else none
  else none
 else
  some (.inr (k, r))
theorem slices_Compact_card_Field_L1_2_ok (s : Nat) (s2 : Nat) (s22 : Nat) (s23 : Nat) (s_ : Int × Int × List E_card_Field) (z_ : (Int × Int × List E_card_Field) ⊕ (Int × List E_card_Field)) (h : slices_Compact_card_Field_L1_2_step s s2 s22 s23 s_ = some z_) : RoundOk Tryz.prog cfg 97 0 (loopAt Tryz.prog 97 1) (slices_Compact_card_Field_L1_2_st s s2 s22 s23) (slices_Compact_card_Field_L1_2_ex s s2 s22 s23) s_ z_ := by
 rcases s_ with ⟨k, k2, r⟩
 rcases cond_of h with ⟨h1, h⟩ | ⟨h1, h⟩
 ·obtain ⟨h2, h⟩ := need_of h
  obtain ⟨h3, h⟩ := need_of h
  obtain ⟨⟨n, s3, s4⟩, h4, h⟩ := bind_of h
  obtain ⟨⟨n2, s5, s6⟩, h5, h⟩ := bind_of h
  have p5_ := fun {sc_ : List Ev} {Q_ : Prop} (t_ : Tell sc_ Q_) => tT h1 <| tO h2 <| tO h3 <| tE (.el [(.int .i64 n), (.str s3), (.str s4)]) <| tO (el_of (f := E_card_Field.pv) h4) <| tE (.el [(.int .i64 n2), (.str s5), (.str s6)]) <| tO (el_of (f := E_card_Field.pv) h5) <| tE (.el [(.int .i64 n), (.str s3), (.str s4)]) <| tO (el_of (f := E_card_Field.pv) h4) <| tE (.el [(.int .i64 n2), (.str s5), (.str s6)]) <| tO (el_of (f := E_card_Field.pv) h5) <| t_
  rcases cond_of h with ⟨h6, h⟩ | ⟨h6, h⟩
  ·have h := some_of h
   subst h
   have t_ := p5_ <| tF (not_of2 h6) <| tN
   exact ⟨t_.ev, slices_Compact_card_Field_L1_2_st s s2 s22 s23 (k, (iadd .i64 k2 1), r), .k1 t_.pf (by kernel_rfl) (by kernel_rfl), .same (by kernel_rfl)⟩
  ·obtain ⟨h7, h⟩ := need_of h
   have h := some_of h
   subst h
   have t_ := p5_ <| tT (not_of h6) <| tO h2 <| tE (.el [(.int .i64 n), (.str s3), (.str s4)]) <| tO (el_of (f := E_card_Field.pv) h4) <| tO h7 <| tN
   exact ⟨t_.ev, ⟨[(0, (.av (.one (.own 0 s s2 false)))), (3, (.av (.one (.pv (.int .i64 (iadd .i64 k 1)))))), (4, (.av (.one (.own 0 s22 s23 false)))), (5, (.av (.one (.pv (.int .i64 (iadd .i64 k2 1))))))], [], [(0, (.live (.recs 3 ((List.map E_card_Field.pv r).set (s + (k).toNat) (setL ((List.map E_card_Field.pv r).getD (s + (k).toNat) []) 0 [(.int .i64 n), (.str s3), (.str s4)])))))]⟩, .k1 t_.pf (by kernel_rfl) (by kernel_rfl), ⟨⟨⟨_, rfl, .eq rfl⟩, ⟨_, rfl, .eq rfl⟩, ⟨_, rfl, .eq rfl⟩, ⟨_, rfl, .eq rfl⟩, trivial⟩, trivial, ⟨⟨rfl, .recs (.eq (by first | rfl | (simp only [List.take_length, List.drop_zero, List.map_take, List.nil_append]; done) | (simp; done) | (simp only [E_card_Field.upd, E_card_Field.upd]; done) | (simp [E_card_Field.pv, E_card_Field.pv]; done) | (simp only [List.length_map, List.take_length, List.length_append, List.map_append, List.map_cons, List.map_nil, List.append_nil, List.nil_append, E_card_Field.pv, E_card_Field.pv]; done)))⟩, trivial⟩⟩⟩
 ·have h := some_of h
  subst h
  have t_ := tF h1 <| tN
  exact ⟨t_.ev, ⟨[(32, (.av (.one (.pv (.bool false))))), (0, (.av (.one (.own 0 s s2 false)))), (3, (.av (.one (.pv (.int .i64 k))))), (4, (.av (.one (.own 0 s22 s23 false)))), (5, (.av (.one (.pv (.int .i64 k2))))), (32, (.av (.one (.pv (.bool (decide ((k2 : Int) < (s23 : Int))))))))], [], [(0, (.live (.recs 3 (List.map E_card_Field.pv r))))]⟩, .k0 t_.pf (by kernel_rfl), ⟨⟨⟨_, rfl, .eq rfl⟩, ⟨_, rfl, .eq rfl⟩, trivial⟩, trivial, ⟨⟨rfl, .eq rfl⟩, trivial⟩⟩⟩
theorem slices_Compact_card_Field_L1_2_runs (s : Nat) (s2 : Nat) (s22 : Nat) (s23 : Nat) (s_ : Int × Int × List E_card_Field) (r_ : Int × List E_card_Field) (h : runL (slices_Compact_card_Field_L1_2_step s s2 s22 s23) s_ = some r_) : LRuns Tryz.prog (lEnv Tryz.prog cfg 97 0).nt 0 (.loop (loopAt Tryz.prog 97 1)) (slices_Compact_card_Field_L1_2_st s s2 s22 s23 s_) (slices_Compact_card_Field_L1_2_ex s s2 s22 s23 r_).1 (slices_Compact_card_Field_L1_2_ex s s2 s22 s23 r_).2 :=
 loop_run h (slices_Compact_card_Field_L1_2_ok s s2 s22 s23) (by intro r_; rcases r_ with ⟨r1, r2⟩ <;> simp [slices_Compact_card_Field_L1_2_ex])
def slices_Compact_card_Field_L0_st (s : Nat) (s2 : Nat) (r : List E_card_Field) : Int → St
 | k => ⟨[(0, (.av (.one (.own 0 s s2 false)))), (3, (.av (.one (.pv (.int .i64 k)))))], [], [(0, (.live (.recs 3 (List.map E_card_Field.pv r))))]⟩
def slices_Compact_card_Field_L0_ex (s : Nat) (s2 : Nat) (r : List E_card_Field) : (Nat × Nat × List E_card_Field) ⊕ (Unit) → Ex × St
 | .inl (r1, r2, r3) => (.ret, ⟨[(2, (.av (.one (.own 0 r1 r2 false))))], [], [(0, (.live (.recs 3 (List.map E_card_Field.pv r3))))]⟩)
 | .inr _ => ((.exit 0), ⟨[(0, (.av (.one (.own 0 s s2 false))))], [], [(0, (.live (.recs 3 (List.map E_card_Field.pv r))))]⟩)
noncomputable def slices_Compact_card_Field_L0_step (s : Nat) (s2 : Nat) (r : List E_card_Field) : Int → Option ((Int) ⊕ ((Nat × Nat × List E_card_Field) ⊕ (Unit)))
 | k =>
 bif (decide ((k : Int) < (s2 : Int))) then
  bif decide ((0 : Int) ≤ k) && decide ((k : Int) < (s2 : Int)) then
  bif decide ((0 : Int) ≤ (isub .i64 k 1)) && decide (((isub .i64 k 1) : Int) < (s2 : Int)) then
  (r[(s + (k).toNat)]?).bind fun e_ => match e_ with
  | .mk n s3 s4 =>
  (r[(s + ((isub .i64 k 1)).toNat)]?).bind fun e_ => match e_ with
  | .mk n2 s5 s6 =>
  bif ((decide ((n : Int) = n2)) && ((decide ((s3 : ByteArray) = s5)) && ((decide ((s4 : ByteArray) = s6)) && true))) then
   bif decide ((0 : Int) ≤ k) && decide ((k : Int) ≤ (s2 : Int)) && decide (((s2 : Int) : Int) ≤ (s2 : Int)) && decide (((s2 : Int) : Int) = (s2 : Int)) then
   (runL (slices_Compact_card_Field_L1_2_step s s2 (s + (k).toNat) (((s2 : Int) - k).toNat)) (k, 1, r)).bind fun (n3, r2) =>
   bif decide ((0 : Int) ≤ n3) && decide ((n3 : Int) ≤ (s2 : Int)) && decide (((s2 : Int) : Int) ≤ (s2 : Int)) && decide (((s2 : Int) : Int) = (s2 : Int)) then
   bif decide ((0 : Int) ≤ 0) && decide ((0 : Int) ≤ n3) && decide ((n3 : Int) ≤ (s2 : Int)) && decide ((n3 : Int) = n3) then
   some (.inr (.inl ((s + 0), (n3 - 0).toNat, (List.take (s + (n3).toNat) r2 ++ (List.replicate ((s2 : Int) - n3).toNat (E_card_Field.mk 0 (⟨#[]⟩ : ByteArray) (⟨#[]⟩ : ByteArray)) ++ List.drop ((s + (n3).toNat) + ((s2 : Int) - n3).toNat) r2)))))
   else none
   else none
   else none
  else
   some (.inl (iadd .i64 k 1))
  else none
  else none
 else
  some (.inr (.inr ()))
theorem slices_Compact_card_Field_L0_ok (s : Nat) (s2 : Nat) (r : List E_card_Field) (k : Int) (z_ : (Int) ⊕ ((Nat × Nat × List E_card_Field) ⊕ (Unit))) (h : slices_Compact_card_Field_L0_step s s2 r k = some z_) : RoundOk Tryz.prog cfg 97 0 (loopAt Tryz.prog 97 0) (slices_Compact_card_Field_L0_st s s2 r) (slices_Compact_card_Field_L0_ex s s2 r) k z_ := by
 rcases cond_of h with ⟨h1, h⟩ | ⟨h1, h⟩
 ·obtain ⟨h2, h⟩ := need_of h
  obtain ⟨h3, h⟩ := need_of h
  obtain ⟨⟨n, s3, s4⟩, h4, h⟩ := bind_of h
  obtain ⟨⟨n2, s5, s6⟩, h5, h⟩ := bind_of h
  have p5_ := fun {sc_ : List Ev} {Q_ : Prop} (t_ : Tell sc_ Q_) => tT h1 <| tO h2 <| tO h3 <| tE (.el [(.int .i64 n), (.str s3), (.str s4)]) <| tO (el_of (f := E_card_Field.pv) h4) <| tE (.el [(.int .i64 n2), (.str s5), (.str s6)]) <| tO (el_of (f := E_card_Field.pv) h5) <| tE (.el [(.int .i64 n), (.str s3), (.str s4)]) <| tO (el_of (f := E_card_Field.pv) h4) <| tE (.el [(.int .i64 n2), (.str s5), (.str s6)]) <| tO (el_of (f := E_card_Field.pv) h5) <| t_
  rcases cond_of h with ⟨h6, h⟩ | ⟨h6, h⟩
  ·obtain ⟨h7, h⟩ := need_of h
   obtain ⟨⟨n3, r2⟩, h8, h⟩ := bind_of h
   obtain ⟨h9, h⟩ := need_of h
   obtain ⟨h10, h⟩ := need_of h
   have h := some_of h
   subst h
   have t_ := p5_ <| tT h6 <| tO h7 <| tL (slices_Compact_card_Field_L1_2_runs s s2 (s + (k).toNat) (((s2 : Int) - k).toNat) _ _ h8) <| tO h9 <| tO h10 <| tN
   exact ⟨t_.ev, ⟨[(2, (.av (.one (.own 0 (s + 0) (n3 - 0).toNat false))))], [], [(0, (.live (.recs 3 (List.take (s + (n3).toNat) (List.map E_card_Field.pv r2) ++ (List.replicate ((s2 : Int) - n3).toNat [(.int .i64 0), (.str (⟨#[]⟩ : ByteArray)), (.str (⟨#[]⟩ : ByteArray))] ++ List.drop ((s + (n3).toNat) + ((s2 : Int) - n3).toNat) (List.map E_card_Field.pv r2))))))]⟩, .k1 t_.pf (by kernel_rfl) (by kernel_rfl), ⟨⟨⟨_, rfl, .eq rfl⟩, trivial⟩, trivial, ⟨⟨rfl, .recs (.eq (by first | rfl | (simp only [List.take_length, List.drop_zero, List.map_take, List.nil_append]; done) | (simp; done) | (simp only [E_card_Field.upd, E_card_Field.upd]; done) | (simp [E_card_Field.pv, E_card_Field.pv]; done) | (simp only [List.length_map, List.take_length, List.length_append, List.map_append, List.map_cons, List.map_nil, List.append_nil, List.nil_append, E_card_Field.pv, E_card_Field.pv]; done)))⟩, trivial⟩⟩⟩
  ·have h := some_of h
   subst h
   have t_ := p5_ <| tF h6 <| tN
   exact ⟨t_.ev, slices_Compact_card_Field_L0_st s s2 r (iadd .i64 k 1), .k1 t_.pf (by kernel_rfl) (by kernel_rfl), .same (by kernel_rfl)⟩
 ·have h := some_of h
  subst h
  have t_ := tF h1 <| tN
  exact ⟨t_.ev, ⟨[(13, (.av (.one (.pv (.bool false))))), (0, (.av (.one (.own 0 s s2 false)))), (3, (.av (.one (.pv (.int .i64 k))))), (13, (.av (.one (.pv (.bool (decide ((k : Int) < (s2 : Int))))))))], [], [(0, (.live (.recs 3 (List.map E_card_Field.pv r))))]⟩, .k0 t_.pf (by kernel_rfl), ⟨⟨⟨_, rfl, .eq rfl⟩, trivial⟩, trivial, ⟨⟨rfl, .eq rfl⟩, trivial⟩⟩⟩
theorem slices_Compact_card_Field_L0_runs (s : Nat) (s2 : Nat) (r : List E_card_Field) (s_ : Int) (r_ : (Nat × Nat × List E_card_Field) ⊕ (Unit)) (h : runL (slices_Compact_card_Field_L0_step s s2 r) s_ = some r_) : LRuns Tryz.prog (lEnv Tryz.prog cfg 97 0).nt 0 (.loop (loopAt Tryz.prog 97 0)) (slices_Compact_card_Field_L0_st s s2 r s_) (slices_Compact_card_Field_L0_ex s s2 r r_).1 (slices_Compact_card_Field_L0_ex s s2 r r_).2 :=
 loop_run h (slices_Compact_card_Field_L0_ok s s2 r) (by intro r_; rcases r_ with ⟨r1, r2, r3⟩ | _ <;> simp [slices_Compact_card_Field_L0_ex])
noncomputable def slices_Compact_card_Field (s : Nat) (s2 : Nat) (r : List E_card_Field) : Option (Nat × Nat × List E_card_Field) :=
 bif (decide (((s2 : Int) : Int) < 2)) then
  some (s, s2, r)
 else
  (runL (slices_Compact_card_Field_L0_step s s2 r) 1).bind fun z_ => match z_ with
  | .inl (k, k2, r2) =>
   some (k, k2, r2)
  | .inr _ =>
   some (s, s2, r)
theorem slices_Compact_card_Field_runs (s : Nat) (s2 : Nat) (r : List E_card_Field) (r_ : Nat × Nat × List E_card_Field) (h : slices_Compact_card_Field s s2 r = some r_) : Runs Tryz.prog 97 [(.one (.own 0 s s2 false))] [] [(.recs 3 (List.map E_card_Field.pv r))] (slices_Compact_card_Field_out s s2 r r_) := by
 unfold slices_Compact_card_Field at h
 rcases cond_of h with ⟨h1, h⟩ | ⟨h1, h⟩
 ·have h := some_of h
  subst h
  have t_ := tT h1 <| tN
  exact runs_of (C := cfg) (objs := []) (sc := t_.ev) (.k0 t_.pf (by kernel_rfl))
 ·obtain ⟨z_, h2, h⟩ := bind_of h
  rcases z_ with ⟨k, k2, r2⟩ | _
  ·have h := some_of h
   subst h
   have t_ := tF h1 <| tL (slices_Compact_card_Field_L0_runs s s2 r _ _ h2) <| tN
   exact runs_of (C := cfg) (objs := []) (sc := t_.ev) (.k0 t_.pf (by kernel_rfl))
  ·have h := some_of h
   subst h
   have t_ := tF h1 <| tL (slices_Compact_card_Field_L0_runs s s2 r _ _ h2) <| tN
   exact runs_of (C := cfg) (objs := []) (sc := t_.ev) (.k0 t_.pf (by kernel_rfl))
noncomputable def card_made (l : List E_card_Field) : Option (List E_card_Field) :=
 (slices_Clone_card_Field l).bind fun _ =>
 (slices_SortFunc l).bind fun r =>
 (slices_Compact_card_Field 0 (((List.map E_card_Field.pv l)).length) r).bind fun (k, k2, r2) =>
 some (List.take k2 (List.drop k r2))
theorem card_made_runs (l : List E_card_Field) (r_ : List E_card_Field) (h : card_made l = some r_) : Runs Tryz.prog 56 [(.one (.pv (.recs 3 (List.map E_card_Field.pv l) false)))] [] [] (card_made_out l r_) := by
 unfold card_made at h
 obtain ⟨_, h1, h⟩ := bind_of h
 obtain ⟨r, h2, h⟩ := bind_of h
 obtain ⟨⟨k, k2, r2⟩, h3, h⟩ := bind_of h
 have h := some_of h
 subst h
 have t_ := tR (slices_Clone_card_Field_runs l _ h1) <| tE (.el []) <| tE (.res (slices_SortFunc_out l r)) <| tO (slices_SortFunc_runs l _ h2) <| tR (slices_Compact_card_Field_runs 0 (((List.map E_card_Field.pv l)).length) r _ h3) <| tN
 have e_ : Runs Tryz.prog 56 [(.one (.pv (.recs 3 (List.map E_card_Field.pv l) false)))] [] [] ([(.agg [(.own 0 k k2 false)])], [], [(.recs 3 (List.map E_card_Field.pv r2))]) := runs_of (C := cfg) (objs := []) (sc := t_.ev) (.k0 t_.pf (by kernel_rfl))
 have e_ := e_.shut (res' := ([(.agg [(.pv (.recs 3 (List.take k2 (List.drop k (List.map E_card_Field.pv r2))) false))])], [], [])) [0] (by kernel_rfl)
 exact e_.out ⟨⟨.pv (.recsT (.eq (by first | rfl | (simp only [List.take_length, List.drop_zero, List.map_take, List.nil_append]; done) | (simp; done) | (simp only [E_card_Field.upd, E_card_Field.upd]; done) | (simp [E_card_Field.pv, E_card_Field.pv]; done) | (simp only [List.length_map, List.take_length, List.length_append, List.map_append, List.map_cons, List.map_nil, List.append_nil, List.nil_append, E_card_Field.pv, E_card_Field.pv]; done)))), trivial⟩, trivial⟩ trivial trivial rfl
def card_Card_Len_out (c : List E_card_Field) : Int → Res
 | r1 => ([(.one (.pv (.int .i64 r1)))], [], [])
noncomputable def card_Card_Len (c : List E_card_Field) : Option (Int) :=
 some (((List.map E_card_Field.pv c)).length : Int)
theorem card_Card_Len_runs (c : List E_card_Field) (r_ : Int) (h : card_Card_Len c = some r_) : Runs Tryz.prog 52 [(.agg [(.pv (.recs 3 (List.map E_card_Field.pv c) false))])] [] [] (card_Card_Len_out c r_) := by
 unfold card_Card_Len at h
 have h := some_of h
 subst h
 have t_ := tN
 exact runs_of (C := cfg) (objs := []) (sc := t_.ev) (.k0 t_.pf (by kernel_rfl))
noncomputable def card_Make (l : List E_card_Field) : Option (List E_card_Field × Int) :=
 (runL (card_Make_L0_step l l (((List.map E_card_Field.pv l)).length : Int)) 0).bind fun z_ => match z_ with
 | .inl n =>
  some ([], n)
 | .inr _ =>
  (card_made l).bind fun r =>
  (card_Card_Len r).bind fun n =>
  bif (decide ((8 : Int) < n)) then
   some ([], 8)
  else
   some (r, 0)
theorem card_Make_runs (l : List E_card_Field) (r_ : List E_card_Field × Int) (h : card_Make l = some r_) : Runs Tryz.prog 50 [(.one (.pv (.recs 3 (List.map E_card_Field.pv l) false)))] [] [] (card_Make_out l r_) := by
 unfold card_Make at h
 obtain ⟨z_, h1, h⟩ := bind_of h
 rcases z_ with n | _
 ·have h := some_of h
  subst h
  have t_ := tL (card_Make_L0_runs l l (((List.map E_card_Field.pv l)).length : Int) _ _ h1) <| tN
  have e_ : Runs Tryz.prog 50 [(.one (.pv (.recs 3 (List.map E_card_Field.pv l) false)))] [] [] ([(.agg [(.pv .nils)]), (.one (.pv (.int .i64 n)))], [], []) := runs_of (C := cfg) (objs := []) (sc := t_.ev) (.k0 t_.pf (by kernel_rfl))
  exact e_.out ⟨⟨.pv (.nilsR), trivial⟩, .eq rfl, trivial⟩ trivial trivial rfl
 ·have q_1 := (card_Make_L0_runs l l (((List.map E_card_Field.pv l)).length : Int) _ _ h1)
  obtain ⟨r, h2, h⟩ := bind_of h
  obtain ⟨n, h3, h⟩ := bind_of h
  rcases cond_of h with ⟨h4, h⟩ | ⟨h4, h⟩
  ·have h := some_of h
   subst h
   have t_ := tL q_1 <| tR (card_made_runs l _ h2) <| tR (card_Card_Len_runs r _ h3) <| tT h4 <| tN
   have e_ : Runs Tryz.prog 50 [(.one (.pv (.recs 3 (List.map E_card_Field.pv l) false)))] [] [] ([(.agg [(.pv .nils)]), (.one (.pv (.int .i64 8)))], [], []) := runs_of (C := cfg) (objs := []) (sc := t_.ev) (.k0 t_.pf (by kernel_rfl))
   exact e_.out ⟨⟨.pv (.nilsR), trivial⟩, .eq rfl, trivial⟩ trivial trivial rfl
  ·have h := some_of h
   subst h
   have t_ := tL q_1 <| tR (card_made_runs l _ h2) <| tR (card_Card_Len_runs r _ h3) <| tF h4 <| tN
   exact runs_of (C := cfg) (objs := []) (sc := t_.ev) (.k0 t_.pf (by kernel_rfl))
def paper_Card_out (c : List E_card_Field) : List Int → Res
 | r1 => ([(.one (.own 0 0 (r1).length false))], [], [(.ints .u8 r1)])
def paper_PutCard_out (p : List Int) (c : List E_card_Field) : List Int → Res
 | r1 => ([(.one (.own 0 0 (r1).length false))], [], [(.ints .u8 r1)])
def card_Card_Fields_out (c : List E_card_Field) : Unit → Res
 | _ => ([(.one (.own 0 0 ((List.map E_card_Field.pv c)).length false))], [], [(.recs 3 (List.map E_card_Field.pv c))])
noncomputable def card_Card_Fields (c : List E_card_Field) : Option (Unit) :=
 (slices_Clone_card_Field c).bind fun _ =>
 some ()
theorem card_Card_Fields_runs (c : List E_card_Field) (r_ : Unit) (h : card_Card_Fields c = some r_) : Runs Tryz.prog 19 [(.agg [(.pv (.recs 3 (List.map E_card_Field.pv c) false))])] [] [] (card_Card_Fields_out c r_) := by
 unfold card_Card_Fields at h
 obtain ⟨_, h1, h⟩ := bind_of h
 have h := some_of h
 subst h
 have t_ := tR (slices_Clone_card_Field_runs c _ h1) <| tN
 exact runs_of (C := cfg) (objs := []) (sc := t_.ev) (.k0 t_.pf (by kernel_rfl))
def paper_fields_out (p : List Int) (l : List E_card_Field) : List Int → Res
 | r1 => ([(.one (.own 0 0 (r1).length false))], [], [(.ints .u8 r1)])
def wire_Num_out (p : List Int) (n : Int) : List Int → Res
 | r1 => ([(.one (.own 0 0 (r1).length false))], [], [(.ints .u8 r1)])
def wire_Num_L0_st (p : List Int) (n : Int) : (Unit) ⊕ (Int × List Int) → St
 | .inl _ => ⟨[(0, (.av (.one (.pv (.ints .u8 p true))))), (1, (.av (.one (.pv (.int .u64 n)))))], [], []⟩
 | .inr (n2, l) => ⟨[(0, (.av (.one (.own 0 0 (l).length false)))), (1, (.av (.one (.pv (.int .u64 n2)))))], [], [(0, (.live (.ints .u8 l)))]⟩
def wire_Num_L0_ex (p : List Int) (n : Int) : (Unit) ⊕ (Int × List Int) → Ex × St
 | .inl _ => ((.exit 0), ⟨[(0, (.av (.one (.pv (.ints .u8 p true))))), (1, (.av (.one (.pv (.int .u64 n)))))], [], []⟩)
 | .inr (r1, r2) => ((.exit 0), ⟨[(0, (.av (.one (.own 0 0 (r2).length false)))), (1, (.av (.one (.pv (.int .u64 r1)))))], [], [(0, (.live (.ints .u8 r2)))]⟩)
noncomputable def wire_Num_L0_step (p : List Int) (n : Int) : (Unit) ⊕ (Int × List Int) → Option (((Unit) ⊕ (Int × List Int)) ⊕ ((Unit) ⊕ (Int × List Int)))
 | .inl _ =>
  bif (decide ((128 : Int) ≤ n)) then
   bif fits ((p ++ [(ior .u8 (IntKind.u8.wrap n) 128)])).length then
   some (.inl (.inr ((ishr .u64 n 7), (p ++ [(ior .u8 (IntKind.u8.wrap n) 128)]))))
   else none
  else
   some (.inr (.inl ()))
 | .inr (n2, l) =>
  bif (decide ((128 : Int) ≤ n2)) then
   bif fits ((l ++ [(ior .u8 (IntKind.u8.wrap n2) 128)])).length then
   some (.inl (.inr ((ishr .u64 n2 7), (l ++ [(ior .u8 (IntKind.u8.wrap n2) 128)]))))
   else none
  else
   some (.inr (.inr (n2, l)))
theorem wire_Num_L0_ok (p : List Int) (n : Int) (s_ : (Unit) ⊕ (Int × List Int)) (z_ : ((Unit) ⊕ (Int × List Int)) ⊕ ((Unit) ⊕ (Int × List Int))) (h : wire_Num_L0_step p n s_ = some z_) : RoundOk Tryz.prog cfg 86 0 (loopAt Tryz.prog 86 0) (wire_Num_L0_st p n) (wire_Num_L0_ex p n) s_ z_ := by
 rcases s_ with _ | ⟨n2, l⟩
 ·rcases cond_of h with ⟨h1, h⟩ | ⟨h1, h⟩
  ·obtain ⟨h2, h⟩ := need_of h
   have h := some_of h
   subst h
   have t_ := tT h1 <| tF (rfl : true = true) <| tO h2 <| tO (rfl : true = true) <| tN
   exact ⟨t_.ev, wire_Num_L0_st p n (.inr ((ishr .u64 n 7), (p ++ [(ior .u8 (IntKind.u8.wrap n) 128)]))), .k0 t_.pf (by kernel_rfl), .same (by kernel_rfl)⟩
  ·have h := some_of h
   subst h
   have t_ := tF h1 <| tN
   exact ⟨t_.ev, ⟨[(12, (.av (.one (.pv (.bool false))))), (0, (.av (.one (.pv (.ints .u8 p true))))), (1, (.av (.one (.pv (.int .u64 n))))), (12, (.av (.one (.pv (.bool (decide ((128 : Int) ≤ n)))))))], [], []⟩, .k0 t_.pf (by kernel_rfl), ⟨⟨⟨_, rfl, .eq rfl⟩, ⟨_, rfl, .eq rfl⟩, trivial⟩, trivial, trivial⟩⟩
 ·rcases cond_of h with ⟨h1, h⟩ | ⟨h1, h⟩
  ·obtain ⟨h2, h⟩ := need_of h
   have h := some_of h
   subst h
   have t_ := tT h1 <| tO (show (Nat.beq (l).length (l).length) = true from Nat.beq_refl _) <| tO h2 <| tO (rfl : true = true) <| tN
   exact ⟨t_.ev, wire_Num_L0_st p n (.inr ((ishr .u64 n2 7), (l ++ [(ior .u8 (IntKind.u8.wrap n2) 128)]))), .k0 t_.pf (by kernel_rfl), .same (by kernel_rfl)⟩
  ·have h := some_of h
   subst h
   have t_ := tF h1 <| tN
   exact ⟨t_.ev, ⟨[(12, (.av (.one (.pv (.bool false))))), (0, (.av (.one (.own 0 0 (l).length false)))), (1, (.av (.one (.pv (.int .u64 n2))))), (12, (.av (.one (.pv (.bool (decide ((128 : Int) ≤ n2)))))))], [], [(0, (.live (.ints .u8 l)))]⟩, .k0 t_.pf (by kernel_rfl), ⟨⟨⟨_, rfl, .eq rfl⟩, ⟨_, rfl, .eq rfl⟩, trivial⟩, trivial, ⟨⟨rfl, .eq rfl⟩, trivial⟩⟩⟩
theorem wire_Num_L0_runs (p : List Int) (n : Int) (s_ : (Unit) ⊕ (Int × List Int)) (r_ : (Unit) ⊕ (Int × List Int)) (h : runL (wire_Num_L0_step p n) s_ = some r_) : LRuns Tryz.prog (lEnv Tryz.prog cfg 86 0).nt 0 (.loop (loopAt Tryz.prog 86 0)) (wire_Num_L0_st p n s_) (wire_Num_L0_ex p n r_).1 (wire_Num_L0_ex p n r_).2 :=
 loop_run h (wire_Num_L0_ok p n) (by intro r_; rcases r_ with _ | ⟨r1, r2⟩ <;> simp [wire_Num_L0_ex])
noncomputable def wire_Num (p : List Int) (n : Int) : Option (List Int) :=
 bif decide ((0 : Int) ≤ 0) && decide ((0 : Int) ≤ ((p).length : Int)) && decide ((((p).length : Int) : Int) ≤ ((p).length : Int)) && decide ((((p).length : Int) : Int) = ((p).length : Int)) then
 (runL (wire_Num_L0_step (List.take (((p).length : Int) - 0).toNat p) n) (.inl ())).bind fun z_ => match z_ with
 | .inl _ =>
  bif fits (((List.take (((p).length : Int) - 0).toNat p) ++ [(IntKind.u8.wrap n)])).length then
  some ((List.take (((p).length : Int) - 0).toNat p) ++ [(IntKind.u8.wrap n)])
  else none
 | .inr (n2, l_) =>
  bif fits ((l_ ++ [(IntKind.u8.wrap n2)])).length then
  some (l_ ++ [(IntKind.u8.wrap n2)])
  else none
 else none
theorem wire_Num_runs (p : List Int) (n : Int) (r_ : List Int) (h : wire_Num p n = some r_) : Runs Tryz.prog 86 [(.one (.pv (.ints .u8 p false))), (.one (.pv (.int .u64 n)))] [] [] (wire_Num_out p n r_) := by
 unfold wire_Num at h
 obtain ⟨h1, h⟩ := need_of h
 obtain ⟨z_, h2, h⟩ := bind_of h
 rcases z_ with _ | ⟨n2, l_⟩
 ·obtain ⟨h3, h⟩ := need_of h
  have h := some_of h
  subst h
  have t_ := tO h1 <| tL (wire_Num_L0_runs (List.take (((p).length : Int) - 0).toNat p) n _ _ h2) <| tF (rfl : true = true) <| tO h3 <| tN
  exact runs_of (C := cfg) (objs := []) (sc := t_.ev) (.k0 t_.pf (by kernel_rfl))
 ·obtain ⟨h3, h⟩ := need_of h
  have h := some_of h
  subst h
  have t_ := tO h1 <| tL (wire_Num_L0_runs (List.take (((p).length : Int) - 0).toNat p) n _ _ h2) <| tO (show (Nat.beq (l_).length (l_).length) = true from Nat.beq_refl _) <| tO h3 <| tN
  exact runs_of (C := cfg) (objs := []) (sc := t_.ev) (.k0 t_.pf (by kernel_rfl))
def wire_Text_out (p : List Int) (s : ByteArray) : List Int → Res
 | r1 => ([(.one (.own 0 0 (r1).length false))], [], [(.ints .u8 r1)])
noncomputable def wire_Text (p : List Int) (s : ByteArray) : Option (List Int) :=
 (wire_Num p (IntKind.u64.wrap (s.size : Int))).bind fun l_ =>
 bif fits ((l_ ++ (bytesL s))).length then
 some (l_ ++ (bytesL s))
 else none
theorem wire_Text_runs (p : List Int) (s : ByteArray) (r_ : List Int) (h : wire_Text p s = some r_) : Runs Tryz.prog 114 [(.one (.pv (.ints .u8 p false))), (.one (.pv (.str s)))] [] [] (wire_Text_out p s r_) := by
 unfold wire_Text at h
 obtain ⟨l_, h1, h⟩ := bind_of h
 obtain ⟨h2, h⟩ := need_of h
 have h := some_of h
 subst h
 have t_ := tR (wire_Num_runs p (IntKind.u64.wrap (s.size : Int)) _ h1) <| tO (show (Nat.beq (l_).length (l_).length) = true from Nat.beq_refl _) <| tO h2 <| tN
 exact runs_of (C := cfg) (objs := []) (sc := t_.ev) (.k0 t_.pf (by kernel_rfl))
def paper_fields_L0_st (r : List E_card_Field) (n : Int) : Int × List Int → St
 | (n2, l) => ⟨[(0, (.av (.one (.own 0 0 (l).length false)))), (12, (.av (.one (.pv (.recs 3 (List.map E_card_Field.pv r) false))))), (13, (.av (.one (.pv (.int .i64 n))))), (14, (.av (.one (.pv (.int .i64 n2)))))], [], [(0, (.live (.ints .u8 l)))]⟩
def paper_fields_L0_ex (r : List E_card_Field) (n : Int) : List Int → Ex × St
 | r1 => ((.exit 0), ⟨[(0, (.av (.one (.own 0 0 (r1).length false))))], [], [(0, (.live (.ints .u8 r1)))]⟩)
noncomputable def paper_fields_L0_step (r : List E_card_Field) (n : Int) : Int × List Int → Option ((Int × List Int) ⊕ (List Int))
 | (n2, l) =>
 bif (decide ((n2 : Int) < n)) then
  bif decide ((0 : Int) ≤ n2) && decide ((n2 : Int) < (((List.map E_card_Field.pv r)).length : Int)) then
  (r[(n2).toNat]?).bind fun e_ => match e_ with
  | .mk n3 s s2 =>
  bif fits ((l ++ [(IntKind.u8.wrap n3)])).length then
  (wire_Text (l ++ [(IntKind.u8.wrap n3)]) s).bind fun l_ =>
  (wire_Text l_ s2).bind fun l_2 =>
  some (.inl ((iadd .i64 n2 1), l_2))
  else none
  else none
 else
  some (.inr l)
theorem paper_fields_L0_ok (r : List E_card_Field) (n : Int) (s_ : Int × List Int) (z_ : (Int × List Int) ⊕ (List Int)) (h : paper_fields_L0_step r n s_ = some z_) : RoundOk Tryz.prog cfg 71 0 (loopAt Tryz.prog 71 0) (paper_fields_L0_st r n) (paper_fields_L0_ex r n) s_ z_ := by
 rcases s_ with ⟨n2, l⟩
 rcases cond_of h with ⟨h1, h⟩ | ⟨h1, h⟩
 ·obtain ⟨h2, h⟩ := need_of h
  obtain ⟨⟨n3, s, s2⟩, h3, h⟩ := bind_of h
  obtain ⟨h4, h⟩ := need_of h
  obtain ⟨l_, h5, h⟩ := bind_of h
  obtain ⟨l_2, h6, h⟩ := bind_of h
  have h := some_of h
  subst h
  have t_ := tT h1 <| tO h2 <| tE (.el [(.int .i64 n3), (.str s), (.str s2)]) <| tO (el_of (f := E_card_Field.pv) h3) <| tO (show (Nat.beq (l).length (l).length) = true from Nat.beq_refl _) <| tO h4 <| tO (show (Nat.beq (l).length (l).length) = true from Nat.beq_refl _) <| tO h4 <| tO (show (Nat.beq (l).length (l).length) = true from Nat.beq_refl _) <| tO h4 <| tO (show (Nat.beq (l).length (l).length) = true from Nat.beq_refl _) <| tO h4 <| tR (Runs.coe (as' := [(.one (.pv (.ints .u8 (List.take ((l ++ [(IntKind.u8.wrap n3)])).length (l ++ [(IntKind.u8.wrap n3)])) false))), (.one (.pv (.str s)))]) (objs' := []) (rows' := []) (wire_Text_runs (l ++ [(IntKind.u8.wrap n3)]) s _ h5) ⟨.pv (.ints (by first | rfl | (simp only [List.take_length, List.drop_zero, List.map_take, List.nil_append]; done) | (simp; done) | (simp only [E_card_Field.upd, E_card_Field.upd]; done) | (simp [E_card_Field.pv, E_card_Field.pv]; done) | (simp only [List.length_map, List.take_length, List.length_append, List.map_append, List.map_cons, List.map_nil, List.append_nil, List.nil_append, E_card_Field.pv, E_card_Field.pv]; done))), .eq rfl, trivial⟩ trivial trivial) <| tR (Runs.coe (as' := [(.one (.pv (.ints .u8 (List.take ((l ++ [(IntKind.u8.wrap n3)])).length (l ++ [(IntKind.u8.wrap n3)])) false))), (.one (.pv (.str s)))]) (objs' := []) (rows' := []) (wire_Text_runs (l ++ [(IntKind.u8.wrap n3)]) s _ h5) ⟨.pv (.ints (by first | rfl | (simp only [List.take_length, List.drop_zero, List.map_take, List.nil_append]; done) | (simp; done) | (simp only [E_card_Field.upd, E_card_Field.upd]; done) | (simp [E_card_Field.pv, E_card_Field.pv]; done) | (simp only [List.length_map, List.take_length, List.length_append, List.map_append, List.map_cons, List.map_nil, List.append_nil, List.nil_append, E_card_Field.pv, E_card_Field.pv]; done))), .eq rfl, trivial⟩ trivial trivial) <| tR (Runs.coe (as' := [(.one (.pv (.ints .u8 (List.take (l_).length l_) false))), (.one (.pv (.str s2)))]) (objs' := []) (rows' := []) (wire_Text_runs l_ s2 _ h6) ⟨.pv (.ints (by first | rfl | (simp only [List.take_length, List.drop_zero, List.map_take, List.nil_append]; done) | (simp; done) | (simp only [E_card_Field.upd, E_card_Field.upd]; done) | (simp [E_card_Field.pv, E_card_Field.pv]; done) | (simp only [List.length_map, List.take_length, List.length_append, List.map_append, List.map_cons, List.map_nil, List.append_nil, List.nil_append, E_card_Field.pv, E_card_Field.pv]; done))), .eq rfl, trivial⟩ trivial trivial) <| tN
  exact ⟨t_.ev, paper_fields_L0_st r n ((iadd .i64 n2 1), l_2), .k1 t_.pf (by kernel_rfl) (by kernel_rfl), .same (by kernel_rfl)⟩
 ·have h := some_of h
  subst h
  have t_ := tF h1 <| tN
  exact ⟨t_.ev, ⟨[(15, (.av (.one (.pv (.bool false))))), (0, (.av (.one (.own 0 0 (l).length false)))), (12, (.av (.one (.pv (.recs 3 (List.map E_card_Field.pv r) false))))), (13, (.av (.one (.pv (.int .i64 n))))), (14, (.av (.one (.pv (.int .i64 n2))))), (15, (.av (.one (.pv (.bool (decide ((n2 : Int) < n)))))))], [], [(0, (.live (.ints .u8 l)))]⟩, .k0 t_.pf (by kernel_rfl), ⟨⟨⟨_, rfl, .eq rfl⟩, trivial⟩, trivial, ⟨⟨rfl, .eq rfl⟩, trivial⟩⟩⟩
theorem paper_fields_L0_runs (r : List E_card_Field) (n : Int) (s_ : Int × List Int) (r_ : List Int) (h : runL (paper_fields_L0_step r n) s_ = some r_) : LRuns Tryz.prog (lEnv Tryz.prog cfg 71 0).nt 0 (.loop (loopAt Tryz.prog 71 0)) (paper_fields_L0_st r n s_) (paper_fields_L0_ex r n r_).1 (paper_fields_L0_ex r n r_).2 :=
 loop_run h (paper_fields_L0_ok r n) (by intro r_; rcases r_ with r1 <;> simp [paper_fields_L0_ex])
noncomputable def paper_fields (p : List Int) (l : List E_card_Field) : Option (List Int) :=
 (wire_Num p (IntKind.u64.wrap (((List.map E_card_Field.pv l)).length : Int))).bind fun l_ =>
 (runL (paper_fields_L0_step l (((List.map E_card_Field.pv l)).length : Int)) (0, l_)).bind fun l_2 =>
 some l_2
theorem paper_fields_runs (p : List Int) (l : List E_card_Field) (r_ : List Int) (h : paper_fields p l = some r_) : Runs Tryz.prog 71 [(.one (.pv (.ints .u8 p false))), (.one (.pv (.recs 3 (List.map E_card_Field.pv l) false)))] [] [] (paper_fields_out p l r_) := by
 unfold paper_fields at h
 obtain ⟨l_, h1, h⟩ := bind_of h
 obtain ⟨l_2, h2, h⟩ := bind_of h
 have h := some_of h
 subst h
 have t_ := tR (wire_Num_runs p (IntKind.u64.wrap (((List.map E_card_Field.pv l)).length : Int)) _ h1) <| tL (paper_fields_L0_runs l (((List.map E_card_Field.pv l)).length : Int) _ _ h2) <| tN
 exact runs_of (C := cfg) (objs := []) (sc := t_.ev) (.k0 t_.pf (by kernel_rfl))
noncomputable def paper_PutCard (p : List Int) (c : List E_card_Field) : Option (List Int) :=
 (card_Card_Fields c).bind fun _ =>
 (paper_fields p (List.take ((List.map E_card_Field.pv c)).length c)).bind fun l_ =>
 some l_
theorem paper_PutCard_runs (p : List Int) (c : List E_card_Field) (r_ : List Int) (h : paper_PutCard p c = some r_) : Runs Tryz.prog 32 [(.one (.pv (.ints .u8 p false))), (.agg [(.pv (.recs 3 (List.map E_card_Field.pv c) false))])] [] [] (paper_PutCard_out p c r_) := by
 unfold paper_PutCard at h
 obtain ⟨_, h1, h⟩ := bind_of h
 obtain ⟨l_, h2, h⟩ := bind_of h
 have h := some_of h
 subst h
 have t_ := tR (card_Card_Fields_runs c _ h1) <| tR (Runs.coe (as' := [(.one (.pv (.ints .u8 p false))), (.one (.pv (.recs 3 (List.take ((List.map E_card_Field.pv c)).length (List.map E_card_Field.pv c)) false)))]) (objs' := []) (rows' := []) (paper_fields_runs p (List.take ((List.map E_card_Field.pv c)).length c) _ h2) ⟨.eq rfl, .pv (.recsT (.eq (by first | rfl | (simp only [List.take_length, List.drop_zero, List.map_take, List.nil_append]; done) | (simp; done) | (simp only [E_card_Field.upd, E_card_Field.upd]; done) | (simp [E_card_Field.pv, E_card_Field.pv]; done) | (simp only [List.length_map, List.take_length, List.length_append, List.map_append, List.map_cons, List.map_nil, List.append_nil, List.nil_append, E_card_Field.pv, E_card_Field.pv]; done)))), trivial⟩ trivial trivial) <| tN
 exact runs_of (C := cfg) (objs := []) (sc := t_.ev) (.k0 t_.pf (by kernel_rfl))
noncomputable def paper_Card (c : List E_card_Field) : Option (List Int) :=
 (paper_PutCard [] c).bind fun l_ =>
 some l_
theorem paper_Card_runs (c : List E_card_Field) (r_ : List Int) (h : paper_Card c = some r_) : Runs Tryz.prog 30 [(.agg [(.pv (.recs 3 (List.map E_card_Field.pv c) false))])] [] [] (paper_Card_out c r_) := by
 unfold paper_Card at h
 obtain ⟨l_, h1, h⟩ := bind_of h
 have h := some_of h
 subst h
 have t_ := tR (Runs.coe (as' := [(.one (.pv .nils)), (.agg [(.pv (.recs 3 (List.map E_card_Field.pv c) false))])]) (objs' := []) (rows' := []) (paper_PutCard_runs [] c _ h1) ⟨.pv (.nilsI), ⟨.eq rfl, trivial⟩, trivial⟩ trivial trivial) <| tN
 exact runs_of (C := cfg) (objs := []) (sc := t_.ev) (.k0 t_.pf (by kernel_rfl))
def kinfolkref06_Same_out (a : List Int) (b : List Int) : Bool → Res
 | r1 => ([(.one (.pv (.bool r1)))], [], [])
def kinfolkref06_Same_L0_st (a : List Int) (b : List Int) (n : Int) : Int → St
 | n2 => ⟨[(0, (.av (.one (.pv (.ints .u8 a false))))), (1, (.av (.one (.pv (.ints .u8 b false))))), (12, (.av (.one (.pv (.int .i64 n))))), (13, (.av (.one (.pv (.int .i64 n2)))))], [], []⟩
def kinfolkref06_Same_L0_ex (a : List Int) (b : List Int) (n : Int) : (Unit) ⊕ (Unit) → Ex × St
 | .inl _ => (.ret, ⟨[(4, (.av (.one (.pv (.bool false)))))], [], []⟩)
 | .inr _ => ((.exit 0), ⟨[], [], []⟩)
noncomputable def kinfolkref06_Same_L0_step (a : List Int) (b : List Int) (n : Int) : Int → Option ((Int) ⊕ ((Unit) ⊕ (Unit)))
 | n2 =>
 bif (decide ((n2 : Int) < n)) then
  bif decide ((0 : Int) ≤ n2) && decide ((n2 : Int) < ((a).length : Int)) then
  bif decide ((0 : Int) ≤ n2) && decide ((n2 : Int) < ((b).length : Int)) then
  bif (decide (((a.getD (n2).toNat 0) : Int) = (b.getD (n2).toNat 0))) then
   some (.inl (iadd .i64 n2 1))
  else
   some (.inr (.inl ()))
  else none
  else none
 else
  some (.inr (.inr ()))
theorem kinfolkref06_Same_L0_ok (a : List Int) (b : List Int) (n : Int) (n2 : Int) (z_ : (Int) ⊕ ((Unit) ⊕ (Unit))) (h : kinfolkref06_Same_L0_step a b n n2 = some z_) : RoundOk Tryz.prog cfg 29 0 (loopAt Tryz.prog 29 0) (kinfolkref06_Same_L0_st a b n) (kinfolkref06_Same_L0_ex a b n) n2 z_ := by
 rcases cond_of h with ⟨h1, h⟩ | ⟨h1, h⟩
 ·obtain ⟨h2, h⟩ := need_of h
  obtain ⟨h3, h⟩ := need_of h
  rcases cond_of h with ⟨h4, h⟩ | ⟨h4, h⟩
  ·have h := some_of h
   subst h
   have t_ := tT h1 <| tO h2 <| tO h3 <| tF (not_of2 h4) <| tN
   exact ⟨t_.ev, kinfolkref06_Same_L0_st a b n (iadd .i64 n2 1), .k0 t_.pf (by kernel_rfl), .same (by kernel_rfl)⟩
  ·have h := some_of h
   subst h
   have t_ := tT h1 <| tO h2 <| tO h3 <| tT (not_of h4) <| tN
   exact ⟨t_.ev, (kinfolkref06_Same_L0_ex a b n (.inl ())).2, .k0 t_.pf (by kernel_rfl), .same (by kernel_rfl)⟩
 ·have h := some_of h
  subst h
  have t_ := tF h1 <| tN
  exact ⟨t_.ev, ⟨[(14, (.av (.one (.pv (.bool false))))), (0, (.av (.one (.pv (.ints .u8 a false))))), (1, (.av (.one (.pv (.ints .u8 b false))))), (12, (.av (.one (.pv (.int .i64 n))))), (13, (.av (.one (.pv (.int .i64 n2))))), (14, (.av (.one (.pv (.bool (decide ((n2 : Int) < n)))))))], [], []⟩, .k0 t_.pf (by kernel_rfl), ⟨trivial, trivial, trivial⟩⟩
theorem kinfolkref06_Same_L0_runs (a : List Int) (b : List Int) (n : Int) (s_ : Int) (r_ : (Unit) ⊕ (Unit)) (h : runL (kinfolkref06_Same_L0_step a b n) s_ = some r_) : LRuns Tryz.prog (lEnv Tryz.prog cfg 29 0).nt 0 (.loop (loopAt Tryz.prog 29 0)) (kinfolkref06_Same_L0_st a b n s_) (kinfolkref06_Same_L0_ex a b n r_).1 (kinfolkref06_Same_L0_ex a b n r_).2 :=
 loop_run h (kinfolkref06_Same_L0_ok a b n) (by intro r_; rcases r_ with _ | _ <;> simp [kinfolkref06_Same_L0_ex])
noncomputable def kinfolkref06_Same (a : List Int) (b : List Int) : Option (Bool) :=
 bif (decide ((((a).length : Int) : Int) = ((b).length : Int))) then
  (runL (kinfolkref06_Same_L0_step a b ((a).length : Int)) 0).bind fun z_ => match z_ with
  | .inl _ =>
   some false
  | .inr _ =>
   some true
 else
  some false
theorem kinfolkref06_Same_runs (a : List Int) (b : List Int) (r_ : Bool) (h : kinfolkref06_Same a b = some r_) : Runs Tryz.prog 29 [(.one (.pv (.ints .u8 a false))), (.one (.pv (.ints .u8 b false)))] [] [] (kinfolkref06_Same_out a b r_) := by
 unfold kinfolkref06_Same at h
 rcases cond_of h with ⟨h1, h⟩ | ⟨h1, h⟩
 ·obtain ⟨z_, h2, h⟩ := bind_of h
  rcases z_ with _ | _
  ·have h := some_of h
   subst h
   have t_ := tF (not_of2 h1) <| tL (kinfolkref06_Same_L0_runs a b ((a).length : Int) _ _ h2) <| tN
   exact runs_of (C := cfg) (objs := []) (sc := t_.ev) (.k0 t_.pf (by kernel_rfl))
  ·have h := some_of h
   subst h
   have t_ := tF (not_of2 h1) <| tL (kinfolkref06_Same_L0_runs a b ((a).length : Int) _ _ h2) <| tN
   exact runs_of (C := cfg) (objs := []) (sc := t_.ev) (.k0 t_.pf (by kernel_rfl))
 ·have h := some_of h
  subst h
  have t_ := tT (not_of h1) <| tN
  exact runs_of (C := cfg) (objs := []) (sc := t_.ev) (.k0 t_.pf (by kernel_rfl))
noncomputable def kinfolklaw10_awake : Option (Bool) :=
 (card_Make [(E_card_Field.mk 1 (⟨#[]⟩ : ByteArray) (⟨#[65, 110, 110]⟩ : ByteArray))]).bind fun (r, n) =>
 (paper_Card r).bind fun l_ =>
 (kinfolkref06_Same l_ [1, 1, 0, 3, 65, 110, 110]).bind fun b =>
 some b
theorem kinfolklaw10_awake_runs (r_ : Bool) (h : kinfolklaw10_awake = some r_) : Runs Tryz.prog 25 [] [] [] (kinfolklaw10_awake_out r_) := by
 unfold kinfolklaw10_awake at h
 obtain ⟨⟨r, n⟩, h1, h⟩ := bind_of h
 obtain ⟨l_, h2, h⟩ := bind_of h
 obtain ⟨b, h3, h⟩ := bind_of h
 have h := some_of h
 subst h
 have t_ := tR (Runs.coe (as' := [(.one (.pv (.recs 3 [[(.int .i64 1), (.str (⟨#[]⟩ : ByteArray)), (.str (⟨#[65, 110, 110]⟩ : ByteArray))]] true)))]) (objs' := []) (rows' := []) (card_Make_runs [(E_card_Field.mk 1 (⟨#[]⟩ : ByteArray) (⟨#[65, 110, 110]⟩ : ByteArray))] _ h1) ⟨.pv (.recs (.cons (.cons (.eq rfl) (.cons (.eq rfl) (.cons (.eq rfl) (.nil)))) (.nil))), trivial⟩ trivial trivial) <| tR (paper_Card_runs r _ h2) <| tR (Runs.coe (as' := [(.one (.pv (.ints .u8 (List.take (l_).length l_) false))), (.one (.pv (.ints .u8 [1, 1, 0, 3, 65, 110, 110] true)))]) (objs' := []) (rows' := []) (kinfolkref06_Same_runs l_ [1, 1, 0, 3, 65, 110, 110] _ h3) ⟨.pv (.ints (by first | rfl | (simp only [List.take_length, List.drop_zero, List.map_take, List.nil_append]; done) | (simp; done) | (simp only [E_card_Field.upd, E_card_Field.upd]; done) | (simp [E_card_Field.pv, E_card_Field.pv]; done) | (simp only [List.length_map, List.take_length, List.length_append, List.map_append, List.map_cons, List.map_nil, List.append_nil, List.nil_append, E_card_Field.pv, E_card_Field.pv]; done))), .pv (.ints rfl), trivial⟩ trivial trivial) <| tN
 exact runs_of (C := cfg) (objs := []) (sc := t_.ev) (.k0 t_.pf (by kernel_rfl))
def wire_Of_out (p : List Int) : Unit → Res
 | _ => ([(.one (.ref 0 0))], [[(.pv (.ints .u8 p false)), (.pv (.int .i64 0))]], [])
noncomputable def wire_Of (p : List Int) : Option (Unit) :=
 bif fits (p).length then
 some ()
 else none
theorem wire_Of_runs (p : List Int) (r_ : Unit) (h : wire_Of p = some r_) : Runs Tryz.prog 33 [(.one (.pv (.ints .u8 p false)))] [] [] (wire_Of_out p r_) := by
 unfold wire_Of at h
 obtain ⟨h1, h⟩ := need_of h
 have h := some_of h
 subst h
 have t_ := tR (bytes_Clone_runs (l := p) (t := false) h1) <| tN
 exact runs_of (C := cfg) (objs := []) (sc := t_.ev) (.k0 t_.pf (by kernel_rfl))
def wire_In_Num_out (l : List Int) (n : Int) : Int × List Int × Int → Res
 | (r1, r2, r3) => ([(.one (.pv (.int .u64 r1)))], [[(.pv (.ints .u8 r2 false)), (.pv (.int .i64 r3))]], [])
def wire_In_Err_out (l : List Int) (n : Int) : Unit → Res
 | _ => ([(.one (.pv (.int .i64 n)))], [[(.pv (.ints .u8 l false)), (.pv (.int .i64 n))]], [])
noncomputable def wire_In_Err (l : List Int) (n : Int) : Option (Unit) :=
 some ()
theorem wire_In_Err_runs (l : List Int) (n : Int) (r_ : Unit) (h : wire_In_Err l n = some r_) : Runs Tryz.prog 35 [(.one (.ref 0 0))] [[(.pv (.ints .u8 l false)), (.pv (.int .i64 n))]] [] (wire_In_Err_out l n r_) := by
 unfold wire_In_Err at h
 have h := some_of h
 subst h
 have t_ := tF (rfl : false = false) <| tN
 exact runs_of (C := cfg) (objs := [[(.pv (.ints .u8 l false)), (.pv (.int .i64 n))]]) (sc := t_.ev) (.k0 t_.pf (by kernel_rfl))
def wire_In_Num_L0_st (l : List Int) (n : Int) (l2 : List Int) (n2 : Int) : Int × Int → St
 | (n3, n4) => ⟨[(0, (.av (.one (.ref 0 0)))), (3, (.av (.one (.pv (.int .u64 n3))))), (12, (.av (.one (.pv (.ints .u8 l false))))), (13, (.av (.one (.pv (.int .i64 n))))), (14, (.av (.one (.pv (.int .i64 n4)))))], [(0, [(.pv (.ints .u8 l2 false)), (.pv (.int .i64 n2))])], []⟩
def wire_In_Num_L0_ex (l : List Int) (n : Int) (l2 : List Int) (n2 : Int) : (Unit) ⊕ (Int × List Int) → Ex × St
 | .inl _ => ((.exit 0), ⟨[(0, (.av (.one (.ref 0 0))))], [(0, [(.pv (.ints .u8 l2 false)), (.pv (.int .i64 n2))])], []⟩)
 | .inr (r1, r2) => (.ret, ⟨[(2, (.av (.one (.pv (.int .u64 r1)))))], [(0, [(.pv (.ints .u8 r2 false)), (.pv (.int .i64 n2))])], []⟩)
noncomputable def wire_In_Num_L0_step (l : List Int) (n : Int) (l2 : List Int) (n2 : Int) : Int × Int → Option ((Int × Int) ⊕ ((Unit) ⊕ (Int × List Int)))
 | (n3, n4) =>
 bif (decide ((n4 : Int) < n)) then
  bif decide ((0 : Int) ≤ n4) && decide ((n4 : Int) < ((l).length : Int)) then
  bif (decide ((n4 : Int) = 9)) then
   bif (decide ((1 : Int) < (l.getD (n4).toNat 0))) then
    some (.inr (.inl ()))
   else
    bif (decide (((l.getD (n4).toNat 0) : Int) = 0)) then
     bif (decide ((0 : Int) < n4)) then
      some (.inr (.inl ()))
     else
      bif decide ((0 : Int) ≤ (imul .i64 7 n4)) then
      bif (decide (((l.getD (n4).toNat 0) : Int) < 128)) then
       bif decide ((0 : Int) ≤ (iadd .i64 n4 1)) && decide (((iadd .i64 n4 1) : Int) ≤ ((l2).length : Int)) && decide ((((l2).length : Int) : Int) ≤ ((l2).length : Int)) && decide ((((l2).length : Int) : Int) = ((l2).length : Int)) then
       some (.inr (.inr ((ior .u64 n3 (ishl .u64 (IntKind.u64.wrap (iandnot .u8 (l.getD (n4).toNat 0) 128)) (imul .i64 7 n4))), (List.take (((l2).length : Int) - (iadd .i64 n4 1)).toNat (List.drop ((iadd .i64 n4 1)).toNat l2)))))
       else none
      else
       some (.inl ((ior .u64 n3 (ishl .u64 (IntKind.u64.wrap (iandnot .u8 (l.getD (n4).toNat 0) 128)) (imul .i64 7 n4))), (iadd .i64 n4 1)))
      else none
    else
     bif decide ((0 : Int) ≤ (imul .i64 7 n4)) then
     bif (decide (((l.getD (n4).toNat 0) : Int) < 128)) then
      bif decide ((0 : Int) ≤ (iadd .i64 n4 1)) && decide (((iadd .i64 n4 1) : Int) ≤ ((l2).length : Int)) && decide ((((l2).length : Int) : Int) ≤ ((l2).length : Int)) && decide ((((l2).length : Int) : Int) = ((l2).length : Int)) then
      some (.inr (.inr ((ior .u64 n3 (ishl .u64 (IntKind.u64.wrap (iandnot .u8 (l.getD (n4).toNat 0) 128)) (imul .i64 7 n4))), (List.take (((l2).length : Int) - (iadd .i64 n4 1)).toNat (List.drop ((iadd .i64 n4 1)).toNat l2)))))
      else none
     else
      some (.inl ((ior .u64 n3 (ishl .u64 (IntKind.u64.wrap (iandnot .u8 (l.getD (n4).toNat 0) 128)) (imul .i64 7 n4))), (iadd .i64 n4 1)))
     else none
  else
   bif (decide (((l.getD (n4).toNat 0) : Int) = 0)) then
    bif (decide ((0 : Int) < n4)) then
     some (.inr (.inl ()))
    else
     bif decide ((0 : Int) ≤ (imul .i64 7 n4)) then
     bif (decide (((l.getD (n4).toNat 0) : Int) < 128)) then
      bif decide ((0 : Int) ≤ (iadd .i64 n4 1)) && decide (((iadd .i64 n4 1) : Int) ≤ ((l2).length : Int)) && decide ((((l2).length : Int) : Int) ≤ ((l2).length : Int)) && decide ((((l2).length : Int) : Int) = ((l2).length : Int)) then
      some (.inr (.inr ((ior .u64 n3 (ishl .u64 (IntKind.u64.wrap (iandnot .u8 (l.getD (n4).toNat 0) 128)) (imul .i64 7 n4))), (List.take (((l2).length : Int) - (iadd .i64 n4 1)).toNat (List.drop ((iadd .i64 n4 1)).toNat l2)))))
      else none
     else
      some (.inl ((ior .u64 n3 (ishl .u64 (IntKind.u64.wrap (iandnot .u8 (l.getD (n4).toNat 0) 128)) (imul .i64 7 n4))), (iadd .i64 n4 1)))
     else none
   else
    bif decide ((0 : Int) ≤ (imul .i64 7 n4)) then
    bif (decide (((l.getD (n4).toNat 0) : Int) < 128)) then
     bif decide ((0 : Int) ≤ (iadd .i64 n4 1)) && decide (((iadd .i64 n4 1) : Int) ≤ ((l2).length : Int)) && decide ((((l2).length : Int) : Int) ≤ ((l2).length : Int)) && decide ((((l2).length : Int) : Int) = ((l2).length : Int)) then
     some (.inr (.inr ((ior .u64 n3 (ishl .u64 (IntKind.u64.wrap (iandnot .u8 (l.getD (n4).toNat 0) 128)) (imul .i64 7 n4))), (List.take (((l2).length : Int) - (iadd .i64 n4 1)).toNat (List.drop ((iadd .i64 n4 1)).toNat l2)))))
     else none
    else
     some (.inl ((ior .u64 n3 (ishl .u64 (IntKind.u64.wrap (iandnot .u8 (l.getD (n4).toNat 0) 128)) (imul .i64 7 n4))), (iadd .i64 n4 1)))
    else none
  else none
 else
  some (.inr (.inl ()))
theorem wire_In_Num_L0_ok (l : List Int) (n : Int) (l2 : List Int) (n2 : Int) (s_ : Int × Int) (z_ : (Int × Int) ⊕ ((Unit) ⊕ (Int × List Int))) (h : wire_In_Num_L0_step l n l2 n2 s_ = some z_) : RoundOk Tryz.prog cfg 73 1 (loopAt Tryz.prog 73 0) (wire_In_Num_L0_st l n l2 n2) (wire_In_Num_L0_ex l n l2 n2) s_ z_ := by
 rcases s_ with ⟨n3, n4⟩
 rcases cond_of h with ⟨h1, h⟩ | ⟨h1, h⟩
 ·obtain ⟨h2, h⟩ := need_of h
  rcases cond_of h with ⟨h3, h⟩ | ⟨h3, h⟩
  ·rcases cond_of h with ⟨h4, h⟩ | ⟨h4, h⟩
   ·have h := some_of h
    subst h
    have t_ := tT h1 <| tO h2 <| tT h3 <| tT h4 <| tT (rfl : true = true) <| tN
    exact ⟨t_.ev, ⟨[(32, (.av (.one (.pv (.bool true))))), (0, (.av (.one (.ref 0 0)))), (3, (.av (.one (.pv (.int .u64 n3))))), (4, (.av (.one (.pv (.int .i64 n4))))), (5, (.av (.one (.pv (.int .u8 (l.getD (n4).toNat 0)))))), (12, (.av (.one (.pv (.ints .u8 l false))))), (13, (.av (.one (.pv (.int .i64 n))))), (14, (.av (.one (.pv (.int .i64 n4))))), (32, (.av (.one (.pv (.bool true)))))], [(0, [(.pv (.ints .u8 l2 false)), (.pv (.int .i64 n2))])], []⟩, .k0 t_.pf (by kernel_rfl), ⟨⟨⟨_, rfl, .eq rfl⟩, trivial⟩, ⟨⟨rfl, ⟨.eq rfl, .eq rfl, trivial⟩⟩, trivial⟩, trivial⟩⟩
   ·rcases cond_of h with ⟨h5, h⟩ | ⟨h5, h⟩
    ·rcases cond_of h with ⟨h6, h⟩ | ⟨h6, h⟩
     ·have h := some_of h
      subst h
      have t_ := tT h1 <| tO h2 <| tT h3 <| tF h4 <| tT h5 <| tT h6 <| tN
      exact ⟨t_.ev, ⟨[(32, (.av (.one (.pv (.bool true))))), (0, (.av (.one (.ref 0 0)))), (3, (.av (.one (.pv (.int .u64 n3))))), (4, (.av (.one (.pv (.int .i64 n4))))), (5, (.av (.one (.pv (.int .u8 (l.getD (n4).toNat 0)))))), (12, (.av (.one (.pv (.ints .u8 l false))))), (13, (.av (.one (.pv (.int .i64 n))))), (14, (.av (.one (.pv (.int .i64 n4))))), (32, (.av (.one (.pv (.bool (decide ((0 : Int) < n4)))))))], [(0, [(.pv (.ints .u8 l2 false)), (.pv (.int .i64 n2))])], []⟩, .k0 t_.pf (by kernel_rfl), ⟨⟨⟨_, rfl, .eq rfl⟩, trivial⟩, ⟨⟨rfl, ⟨.eq rfl, .eq rfl, trivial⟩⟩, trivial⟩, trivial⟩⟩
     ·obtain ⟨h7, h⟩ := need_of h
      rcases cond_of h with ⟨h8, h⟩ | ⟨h8, h⟩
      ·obtain ⟨h9, h⟩ := need_of h
       have h := some_of h
       subst h
       have t_ := tT h1 <| tO h2 <| tT h3 <| tF h4 <| tT h5 <| tF h6 <| tO h7 <| tT h8 <| tO h9 <| tN
       exact ⟨t_.ev, (wire_In_Num_L0_ex l n l2 n2 (.inr ((ior .u64 n3 (ishl .u64 (IntKind.u64.wrap (iandnot .u8 (l.getD (n4).toNat 0) 128)) (imul .i64 7 n4))), (List.take (((l2).length : Int) - (iadd .i64 n4 1)).toNat (List.drop ((iadd .i64 n4 1)).toNat l2))))).2, .k0 t_.pf (by kernel_rfl), .same (by kernel_rfl)⟩
      ·have h := some_of h
       subst h
       have t_ := tT h1 <| tO h2 <| tT h3 <| tF h4 <| tT h5 <| tF h6 <| tO h7 <| tF h8 <| tN
       exact ⟨t_.ev, wire_In_Num_L0_st l n l2 n2 ((ior .u64 n3 (ishl .u64 (IntKind.u64.wrap (iandnot .u8 (l.getD (n4).toNat 0) 128)) (imul .i64 7 n4))), (iadd .i64 n4 1)), .k0 t_.pf (by kernel_rfl), .same (by kernel_rfl)⟩
    ·obtain ⟨h6, h⟩ := need_of h
     rcases cond_of h with ⟨h7, h⟩ | ⟨h7, h⟩
     ·obtain ⟨h8, h⟩ := need_of h
      have h := some_of h
      subst h
      have t_ := tT h1 <| tO h2 <| tT h3 <| tF h4 <| tF h5 <| tF (rfl : false = false) <| tO h6 <| tT h7 <| tO h8 <| tN
      exact ⟨t_.ev, (wire_In_Num_L0_ex l n l2 n2 (.inr ((ior .u64 n3 (ishl .u64 (IntKind.u64.wrap (iandnot .u8 (l.getD (n4).toNat 0) 128)) (imul .i64 7 n4))), (List.take (((l2).length : Int) - (iadd .i64 n4 1)).toNat (List.drop ((iadd .i64 n4 1)).toNat l2))))).2, .k0 t_.pf (by kernel_rfl), .same (by kernel_rfl)⟩
     ·have h := some_of h
      subst h
      have t_ := tT h1 <| tO h2 <| tT h3 <| tF h4 <| tF h5 <| tF (rfl : false = false) <| tO h6 <| tF h7 <| tN
      exact ⟨t_.ev, wire_In_Num_L0_st l n l2 n2 ((ior .u64 n3 (ishl .u64 (IntKind.u64.wrap (iandnot .u8 (l.getD (n4).toNat 0) 128)) (imul .i64 7 n4))), (iadd .i64 n4 1)), .k0 t_.pf (by kernel_rfl), .same (by kernel_rfl)⟩
  ·rcases cond_of h with ⟨h4, h⟩ | ⟨h4, h⟩
   ·rcases cond_of h with ⟨h5, h⟩ | ⟨h5, h⟩
    ·have h := some_of h
     subst h
     have t_ := tT h1 <| tO h2 <| tF h3 <| tF (rfl : false = false) <| tT h4 <| tT h5 <| tN
     exact ⟨t_.ev, ⟨[(32, (.av (.one (.pv (.bool true))))), (0, (.av (.one (.ref 0 0)))), (3, (.av (.one (.pv (.int .u64 n3))))), (4, (.av (.one (.pv (.int .i64 n4))))), (5, (.av (.one (.pv (.int .u8 (l.getD (n4).toNat 0)))))), (12, (.av (.one (.pv (.ints .u8 l false))))), (13, (.av (.one (.pv (.int .i64 n))))), (14, (.av (.one (.pv (.int .i64 n4))))), (32, (.av (.one (.pv (.bool (decide ((0 : Int) < n4)))))))], [(0, [(.pv (.ints .u8 l2 false)), (.pv (.int .i64 n2))])], []⟩, .k0 t_.pf (by kernel_rfl), ⟨⟨⟨_, rfl, .eq rfl⟩, trivial⟩, ⟨⟨rfl, ⟨.eq rfl, .eq rfl, trivial⟩⟩, trivial⟩, trivial⟩⟩
    ·obtain ⟨h6, h⟩ := need_of h
     rcases cond_of h with ⟨h7, h⟩ | ⟨h7, h⟩
     ·obtain ⟨h8, h⟩ := need_of h
      have h := some_of h
      subst h
      have t_ := tT h1 <| tO h2 <| tF h3 <| tF (rfl : false = false) <| tT h4 <| tF h5 <| tO h6 <| tT h7 <| tO h8 <| tN
      exact ⟨t_.ev, (wire_In_Num_L0_ex l n l2 n2 (.inr ((ior .u64 n3 (ishl .u64 (IntKind.u64.wrap (iandnot .u8 (l.getD (n4).toNat 0) 128)) (imul .i64 7 n4))), (List.take (((l2).length : Int) - (iadd .i64 n4 1)).toNat (List.drop ((iadd .i64 n4 1)).toNat l2))))).2, .k0 t_.pf (by kernel_rfl), .same (by kernel_rfl)⟩
     ·have h := some_of h
      subst h
      have t_ := tT h1 <| tO h2 <| tF h3 <| tF (rfl : false = false) <| tT h4 <| tF h5 <| tO h6 <| tF h7 <| tN
      exact ⟨t_.ev, wire_In_Num_L0_st l n l2 n2 ((ior .u64 n3 (ishl .u64 (IntKind.u64.wrap (iandnot .u8 (l.getD (n4).toNat 0) 128)) (imul .i64 7 n4))), (iadd .i64 n4 1)), .k0 t_.pf (by kernel_rfl), .same (by kernel_rfl)⟩
   ·obtain ⟨h5, h⟩ := need_of h
    rcases cond_of h with ⟨h6, h⟩ | ⟨h6, h⟩
    ·obtain ⟨h7, h⟩ := need_of h
     have h := some_of h
     subst h
     have t_ := tT h1 <| tO h2 <| tF h3 <| tF (rfl : false = false) <| tF h4 <| tF (rfl : false = false) <| tO h5 <| tT h6 <| tO h7 <| tN
     exact ⟨t_.ev, (wire_In_Num_L0_ex l n l2 n2 (.inr ((ior .u64 n3 (ishl .u64 (IntKind.u64.wrap (iandnot .u8 (l.getD (n4).toNat 0) 128)) (imul .i64 7 n4))), (List.take (((l2).length : Int) - (iadd .i64 n4 1)).toNat (List.drop ((iadd .i64 n4 1)).toNat l2))))).2, .k0 t_.pf (by kernel_rfl), .same (by kernel_rfl)⟩
    ·have h := some_of h
     subst h
     have t_ := tT h1 <| tO h2 <| tF h3 <| tF (rfl : false = false) <| tF h4 <| tF (rfl : false = false) <| tO h5 <| tF h6 <| tN
     exact ⟨t_.ev, wire_In_Num_L0_st l n l2 n2 ((ior .u64 n3 (ishl .u64 (IntKind.u64.wrap (iandnot .u8 (l.getD (n4).toNat 0) 128)) (imul .i64 7 n4))), (iadd .i64 n4 1)), .k0 t_.pf (by kernel_rfl), .same (by kernel_rfl)⟩
 ·have h := some_of h
  subst h
  have t_ := tF h1 <| tN
  exact ⟨t_.ev, ⟨[(15, (.av (.one (.pv (.bool false))))), (0, (.av (.one (.ref 0 0)))), (3, (.av (.one (.pv (.int .u64 n3))))), (12, (.av (.one (.pv (.ints .u8 l false))))), (13, (.av (.one (.pv (.int .i64 n))))), (14, (.av (.one (.pv (.int .i64 n4))))), (15, (.av (.one (.pv (.bool (decide ((n4 : Int) < n)))))))], [(0, [(.pv (.ints .u8 l2 false)), (.pv (.int .i64 n2))])], []⟩, .k0 t_.pf (by kernel_rfl), ⟨⟨⟨_, rfl, .eq rfl⟩, trivial⟩, ⟨⟨rfl, ⟨.eq rfl, .eq rfl, trivial⟩⟩, trivial⟩, trivial⟩⟩
theorem wire_In_Num_L0_runs (l : List Int) (n : Int) (l2 : List Int) (n2 : Int) (s_ : Int × Int) (r_ : (Unit) ⊕ (Int × List Int)) (h : runL (wire_In_Num_L0_step l n l2 n2) s_ = some r_) : LRuns Tryz.prog (lEnv Tryz.prog cfg 73 1).nt 1 (.loop (loopAt Tryz.prog 73 0)) (wire_In_Num_L0_st l n l2 n2 s_) (wire_In_Num_L0_ex l n l2 n2 r_).1 (wire_In_Num_L0_ex l n l2 n2 r_).2 :=
 loop_run h (wire_In_Num_L0_ok l n l2 n2) (by intro r_; rcases r_ with _ | ⟨r1, r2⟩ <;> simp [wire_In_Num_L0_ex])
def wire_In_Fail_out (e : Int) (l : List Int) (n : Int) : Int → Res
 | r1 => ([], [[(.pv (.ints .u8 l false)), (.pv (.int .i64 r1))]], [])
noncomputable def wire_In_Fail (e : Int) (l : List Int) (n : Int) : Option (Int) :=
 bif (decide ((n : Int) = 0)) then
  some e
 else
  some n
theorem wire_In_Fail_runs (e : Int) (l : List Int) (n : Int) (r_ : Int) (h : wire_In_Fail e l n = some r_) : Runs Tryz.prog 74 [(.one (.ref 0 0)), (.one (.pv (.int .i64 e)))] [[(.pv (.ints .u8 l false)), (.pv (.int .i64 n))]] [] (wire_In_Fail_out e l n r_) := by
 unfold wire_In_Fail at h
 rcases cond_of h with ⟨h1, h⟩ | ⟨h1, h⟩
 ·have h := some_of h
  subst h
  have t_ := tT (rfl : true = true) <| tT h1 <| tN
  exact runs_of (C := cfg) (objs := [[(.pv (.ints .u8 l false)), (.pv (.int .i64 n))]]) (sc := t_.ev) (.k0 t_.pf (by kernel_rfl))
 ·have h := some_of h
  subst h
  have t_ := tT (rfl : true = true) <| tF h1 <| tN
  exact runs_of (C := cfg) (objs := [[(.pv (.ints .u8 l false)), (.pv (.int .i64 n))]]) (sc := t_.ev) (.k0 t_.pf (by kernel_rfl))
noncomputable def wire_In_Num (l : List Int) (n : Int) : Option (Int × List Int × Int) :=
 (wire_In_Err l n).bind fun _ =>
 bif (decide ((n : Int) = 0)) then
  (runL (wire_In_Num_L0_step l ((l).length : Int) l n) (0, 0)).bind fun z_ => match z_ with
  | .inl _ =>
   (wire_In_Fail 6 l n).bind fun n2 =>
   some (0, l, n2)
  | .inr (n2, l_) =>
   some (n2, l_, n)
 else
  some (0, l, n)
theorem wire_In_Num_runs (l : List Int) (n : Int) (r_ : Int × List Int × Int) (h : wire_In_Num l n = some r_) : Runs Tryz.prog 73 [(.one (.ref 0 0))] [[(.pv (.ints .u8 l false)), (.pv (.int .i64 n))]] [] (wire_In_Num_out l n r_) := by
 unfold wire_In_Num at h
 obtain ⟨_, h1, h⟩ := bind_of h
 rcases cond_of h with ⟨h2, h⟩ | ⟨h2, h⟩
 ·obtain ⟨z_, h3, h⟩ := bind_of h
  rcases z_ with _ | ⟨n2, l_⟩
  ·obtain ⟨n2, h4, h⟩ := bind_of h
   have h := some_of h
   subst h
   have t_ := tR (wire_In_Err_runs l n _ h1) <| tF (not_of2 h2) <| tL (wire_In_Num_L0_runs l ((l).length : Int) l n _ _ h3) <| tR (wire_In_Fail_runs 6 l n _ h4) <| tN
   exact runs_of (C := cfg) (objs := [[(.pv (.ints .u8 l false)), (.pv (.int .i64 n))]]) (sc := t_.ev) (.k0 t_.pf (by kernel_rfl))
  ·have h := some_of h
   subst h
   have t_ := tR (wire_In_Err_runs l n _ h1) <| tF (not_of2 h2) <| tL (wire_In_Num_L0_runs l ((l).length : Int) l n _ _ h3) <| tN
   exact runs_of (C := cfg) (objs := [[(.pv (.ints .u8 l false)), (.pv (.int .i64 n))]]) (sc := t_.ev) (.k0 t_.pf (by kernel_rfl))
 ·have h := some_of h
  subst h
  have t_ := tR (wire_In_Err_runs l n _ h1) <| tT (not_of h2) <| tN
  exact runs_of (C := cfg) (objs := [[(.pv (.ints .u8 l false)), (.pv (.int .i64 n))]]) (sc := t_.ev) (.k0 t_.pf (by kernel_rfl))
def wire_In_Byte_out (l : List Int) (n : Int) : Int × List Int × Int → Res
 | (r1, r2, r3) => ([(.one (.pv (.int .u8 r1)))], [[(.pv (.ints .u8 r2 false)), (.pv (.int .i64 r3))]], [])
noncomputable def wire_In_Byte (l : List Int) (n : Int) : Option (Int × List Int × Int) :=
 (wire_In_Err l n).bind fun _ =>
 bif (decide ((n : Int) = 0)) then
  bif (decide ((((l).length : Int) : Int) = 0)) then
   (wire_In_Fail 6 l n).bind fun n2 =>
   some (0, l, n2)
  else
   bif decide ((0 : Int) ≤ 0) && decide ((0 : Int) < ((l).length : Int)) then
   bif decide ((0 : Int) ≤ 1) && decide ((1 : Int) ≤ ((l).length : Int)) && decide ((((l).length : Int) : Int) ≤ ((l).length : Int)) && decide ((((l).length : Int) : Int) = ((l).length : Int)) then
   some ((l.getD 0 0), (List.take (((l).length : Int) - 1).toNat (List.drop 1 l)), n)
   else none
   else none
 else
  (wire_In_Fail 6 l n).bind fun n2 =>
  some (0, l, n2)
theorem wire_In_Byte_runs (l : List Int) (n : Int) (r_ : Int × List Int × Int) (h : wire_In_Byte l n = some r_) : Runs Tryz.prog 37 [(.one (.ref 0 0))] [[(.pv (.ints .u8 l false)), (.pv (.int .i64 n))]] [] (wire_In_Byte_out l n r_) := by
 unfold wire_In_Byte at h
 obtain ⟨_, h1, h⟩ := bind_of h
 rcases cond_of h with ⟨h2, h⟩ | ⟨h2, h⟩
 ·rcases cond_of h with ⟨h3, h⟩ | ⟨h3, h⟩
  ·obtain ⟨n2, h4, h⟩ := bind_of h
   have h := some_of h
   subst h
   have t_ := tR (wire_In_Err_runs l n _ h1) <| tF (not_of2 h2) <| tT h3 <| tR (wire_In_Fail_runs 6 l n _ h4) <| tN
   exact runs_of (C := cfg) (objs := [[(.pv (.ints .u8 l false)), (.pv (.int .i64 n))]]) (sc := t_.ev) (.k0 t_.pf (by kernel_rfl))
  ·obtain ⟨h4, h⟩ := need_of h
   obtain ⟨h5, h⟩ := need_of h
   have h := some_of h
   subst h
   have t_ := tR (wire_In_Err_runs l n _ h1) <| tF (not_of2 h2) <| tF h3 <| tO h4 <| tO h5 <| tN
   exact runs_of (C := cfg) (objs := [[(.pv (.ints .u8 l false)), (.pv (.int .i64 n))]]) (sc := t_.ev) (.k0 t_.pf (by kernel_rfl))
 ·obtain ⟨n2, h3, h⟩ := bind_of h
  have h := some_of h
  subst h
  have t_ := tR (wire_In_Err_runs l n _ h1) <| tT (not_of h2) <| tT (rfl : true = true) <| tR (wire_In_Fail_runs 6 l n _ h3) <| tN
  exact runs_of (C := cfg) (objs := [[(.pv (.ints .u8 l false)), (.pv (.int .i64 n))]]) (sc := t_.ev) (.k0 t_.pf (by kernel_rfl))
def wire_In_Text_out (most : Int) (l : List Int) (n : Int) : ByteArray × List Int × Int → Res
 | (r1, r2, r3) => ([(.one (.pv (.str r1)))], [[(.pv (.ints .u8 r2 false)), (.pv (.int .i64 r3))]], [])
end Go.Proofs.YteiikkpajcggfaaGreatDoor
