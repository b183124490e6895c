/- What functions compute, and that they do. -/
import Derived.Test.YteiikkpajcggfaaDoorSo
set_option linter.unusedVariables false
set_option linter.unusedSimpArgs false
set_option maxRecDepth 100000
namespace Go.Proofs.YteiikkpajcggfaaDoor
open Go.Ev

/-! ### kinfolklaw09_CardMakes_out -/
def kinfolklaw09_CardMakes_out (l : List E_card_Field) : Bool → Res
  | r1 => ([(.one (.pv (.bool r1)))], [], [])
/-! ### kinfolklaw09_awake_out -/
def kinfolklaw09_awake_out : Bool → Res
  | r1 => ([(.one (.pv (.bool r1)))], [], [])
/-! ### card_Make_out -/
def card_Make_out (l : List E_card_Field) : List E_card_Field × Int → Res
  | (r1, r2) => ([(.agg [(.pv (.recs 3 (List.map E_card_Field.pv r1) false))]), (.one (.pv (.int .i64 r2)))], [], [])
/-! ### card_Field_Right_out -/
def card_Field_Right_out (f : Int) (f2 : ByteArray) (f3 : ByteArray) : Int → Res
  | r1 => ([(.one (.pv (.int .i64 r1)))], [], [])
/-! ### text_Check_out -/
def text_Check_out (s : ByteArray) (most : Int) : Int → Res
  | r1 => ([(.one (.pv (.int .i64 r1)))], [], [])
/-! ### strings_ContainsFunc_out -/
def strings_ContainsFunc_out (s : ByteArray) : Bool → Res
  | r1 => ([(.one (.pv (.bool r1)))], [], [])
/-! ### strings_IndexFunc_out -/
def strings_IndexFunc_out (s : ByteArray) : Int → Res
  | r1 => ([(.one (.pv (.int .i64 r1)))], [], [])
/-! ### strings_indexFunc_out -/
def strings_indexFunc_out (s : ByteArray) (truth : Bool) : Int → Res
  | r1 => ([(.one (.pv (.int .i64 r1)))], [], [])
/-! ### text_Check_1_out -/
def text_Check_1_out (r : Int) : Bool → Res
  | r1 => ([(.one (.pv (.bool r1)))], [], [])
/-! ### text_plain_out -/
def text_plain_out (r : Int) : Bool → Res
  | r1 => ([(.one (.pv (.bool r1)))], [], [])
/-! ### text_plain -/
noncomputable def text_plain (r : Int) : Option (Bool) :=
  bif (decide ((32 : Int) ≤ r)) then
    some (!(decide ((r : Int) = 127)))
  else
    some false
theorem text_plain_runs (r : Int) (r_ : Bool) (h : text_plain r = some r_) : Runs Tryd.prog 45 [(.one (.pv (.int .i32 r)))] [] [] (text_plain_out r r_) := by
  unfold text_plain at h
  rcases cond_of h with ⟨h1, h⟩ | ⟨h1, h⟩
  · have h := some_of h
    subst h
    have t_ := tT h1 <| tN
    exact runs_of (C := cfg) (objs := []) (sc := t_.ev) (.k0 t_.pf (by kernel_rfl))
  · have h := some_of h
    subst h
    have t_ := tF h1 <| tN
    exact runs_of (C := cfg) (objs := []) (sc := t_.ev) (.k0 t_.pf (by kernel_rfl))
/-! ### text_Check_1 -/
noncomputable def text_Check_1 (r : Int) : Option (Bool) :=
  (text_plain r).bind fun b =>
  some (!b)
theorem text_Check_1_runs (r : Int) (r_ : Bool) (h : text_Check_1 r = some r_) : Runs Tryd.prog 44 [(.one (.pv (.int .i32 r)))] [] [] (text_Check_1_out r r_) := by
  unfold text_Check_1 at h
  obtain ⟨b, h1, h⟩ := bind_of h
  have h := some_of h
  subst h
  have t_ := tR (text_plain_runs r _ h1) <| tN
  exact runs_of (C := cfg) (objs := []) (sc := t_.ev) (.k0 t_.pf (by kernel_rfl))
/-! ### strings_indexFunc_L0 -/
def strings_indexFunc_L0_st (truth : Bool) (s : ByteArray) : Nat → St
  | k => ⟨[(1, (.av (.one (.fn 44 [])))), (2, (.av (.one (.pv (.bool truth))))), (10, (.av (.one (.ref 0 0))))], [(0, [(.sit s k)])], []⟩
def strings_indexFunc_L0_ex (truth : Bool) (s : ByteArray) : (Int) ⊕ (Nat) → Ex × St
  | .inl r1 => (.ret, ⟨[(6, (.av (.one (.pv (.int .i64 r1)))))], [], []⟩)
  | .inr r1 => ((.exit 0), ⟨[], [(0, [(.sit s r1)])], []⟩)
noncomputable def strings_indexFunc_L0_step (truth : Bool) (s : ByteArray) : Nat → Option ((Nat) ⊕ ((Int) ⊕ (Nat)))
  | k =>
  bif (decide ((k : Nat) < s.size)) then
    (text_Check_1 ((Utf8.decode s k).1 : Int)).bind fun b =>
    bif (b == truth) then
      some (.inr (.inl (k : Int)))
    else
      some (.inl (k + (Utf8.decode s k).2))
  else
    some (.inr (.inr k))
theorem strings_indexFunc_L0_ok (truth : Bool) (s : ByteArray) (k : Nat) (z_ : (Nat) ⊕ ((Int) ⊕ (Nat))) (h : strings_indexFunc_L0_step truth s k = some z_) : RoundOk Tryd.prog cfg 81 0 (loopAt Tryd.prog 81 0) (strings_indexFunc_L0_st truth s) (strings_indexFunc_L0_ex truth s) k z_ := by
  rcases cond_of h with ⟨h1, h⟩ | ⟨h1, h⟩
  · obtain ⟨b, h2, h⟩ := bind_of h
    have q_2 := (text_Check_1_runs ((Utf8.decode s k).1 : Int) _ h2)
    rcases cond_of h with ⟨h3, h⟩ | ⟨h3, h⟩
    · have h := some_of h
      subst h
      have t_ := tT h1 <| tT (rfl : true = true) <| tR q_2 <| tT h3 <| tN
      exact ⟨t_.ev, (strings_indexFunc_L0_ex truth s (.inl (k : Int))).2, .k0 t_.pf (by kernel_rfl), .same (by kernel_rfl)⟩
    · have h := some_of h
      subst h
      have t_ := tT h1 <| tT (rfl : true = true) <| tR q_2 <| tF h3 <| tN
      exact ⟨t_.ev, strings_indexFunc_L0_st truth s (k + (Utf8.decode s k).2), .k0 t_.pf (by kernel_rfl), .same (by kernel_rfl)⟩
  · have h := some_of h
    subst h
    have t_ := tF h1 <| tF (rfl : false = false) <| tN
    exact ⟨t_.ev, ⟨[(12, (.av (.one (.pv (.bool false))))), (1, (.av (.one (.fn 44 [])))), (2, (.av (.one (.pv (.bool truth))))), (10, (.av (.one (.ref 0 0)))), (11, (.tup [(.one (.pv (.bool false)))])), (12, (.av (.one (.pv (.bool false)))))], [(0, [(.sit s k)])], []⟩, .k0 t_.pf (by kernel_rfl), ⟨trivial, ⟨⟨rfl, ⟨.eq rfl, trivial⟩⟩, trivial⟩, trivial⟩⟩
theorem strings_indexFunc_L0_runs (truth : Bool) (s : ByteArray) (s_ : Nat) (r_ : (Int) ⊕ (Nat)) (h : runL (strings_indexFunc_L0_step truth s) s_ = some r_) : LRuns Tryd.prog (lEnv Tryd.prog cfg 81 0).nt 0 (.loop (loopAt Tryd.prog 81 0)) (strings_indexFunc_L0_st truth s s_) (strings_indexFunc_L0_ex truth s r_).1 (strings_indexFunc_L0_ex truth s r_).2 :=
  loop_run h (strings_indexFunc_L0_ok truth s) (by intro r_; rcases r_ with r1 | r1 <;> simp [strings_indexFunc_L0_ex])
/-! ### strings_indexFunc -/
noncomputable def strings_indexFunc (s : ByteArray) (truth : Bool) : Option (Int) :=
  (runL (strings_indexFunc_L0_step truth s) 0).bind fun z_ => match z_ with
  | .inl n =>
    some n
  | .inr k =>
    some (-1)
theorem strings_indexFunc_runs (s : ByteArray) (truth : Bool) (r_ : Int) (h : strings_indexFunc s truth = some r_) : Runs Tryd.prog 81 [(.one (.pv (.str s))), (.one (.fn 44 [])), (.one (.pv (.bool truth)))] [] [] (strings_indexFunc_out s truth r_) := by
  unfold strings_indexFunc at h
  obtain ⟨z_, h1, h⟩ := bind_of h
  rcases z_ with n | k
  · have h := some_of h
    subst h
    have t_ := tL (strings_indexFunc_L0_runs truth s _ _ h1) <| tN
    exact runs_of (C := cfg) (objs := []) (sc := t_.ev) (.k0 t_.pf (by kernel_rfl))
  · have h := some_of h
    subst h
    have t_ := tL (strings_indexFunc_L0_runs truth s _ _ h1) <| tN
    exact runs_of (C := cfg) (objs := []) (sc := t_.ev) (.k0 t_.pf (by kernel_rfl))
/-! ### strings_IndexFunc -/
noncomputable def strings_IndexFunc (s : ByteArray) : Option (Int) :=
  (strings_indexFunc s true).bind fun n =>
  some n
theorem strings_IndexFunc_runs (s : ByteArray) (r_ : Int) (h : strings_IndexFunc s = some r_) : Runs Tryd.prog 58 [(.one (.pv (.str s))), (.one (.fn 44 []))] [] [] (strings_IndexFunc_out s r_) := by
  unfold strings_IndexFunc at h
  obtain ⟨n, h1, h⟩ := bind_of h
  have h := some_of h
  subst h
  have t_ := tR (strings_indexFunc_runs s true _ h1) <| tN
  exact runs_of (C := cfg) (objs := []) (sc := t_.ev) (.k0 t_.pf (by kernel_rfl))
/-! ### strings_ContainsFunc -/
noncomputable def strings_ContainsFunc (s : ByteArray) : Option (Bool) :=
  (strings_IndexFunc s).bind fun n =>
  some (decide ((0 : Int) ≤ n))
theorem strings_ContainsFunc_runs (s : ByteArray) (r_ : Bool) (h : strings_ContainsFunc s = some r_) : Runs Tryd.prog 43 [(.one (.pv (.str s))), (.one (.fn 44 []))] [] [] (strings_ContainsFunc_out s r_) := by
  unfold strings_ContainsFunc at h
  obtain ⟨n, h1, h⟩ := bind_of h
  have h := some_of h
  subst h
  have t_ := tR (strings_IndexFunc_runs s _ h1) <| tN
  exact runs_of (C := cfg) (objs := []) (sc := t_.ev) (.k0 t_.pf (by kernel_rfl))
/-! ### text_Check -/
noncomputable def text_Check (s : ByteArray) (most : Int) : Option (Int) :=
  bif (decide ((most : Int) < (s.size : Int))) then
    some 9
  else
    (utf8_ValidString s).bind fun b =>
    bif b then
      (strings_ContainsFunc s).bind fun b2 =>
      bif b2 then
        some 7
      else
        some 0
    else
      some 7
theorem text_Check_runs (s : ByteArray) (most : Int) (r_ : Int) (h : text_Check s most = some r_) : Runs Tryd.prog 27 [(.one (.pv (.str s))), (.one (.pv (.int .i64 most)))] [] [] (text_Check_out s most r_) := by
  unfold text_Check at h
  rcases cond_of h with ⟨h1, h⟩ | ⟨h1, h⟩
  · have h := some_of h
    subst h
    have t_ := tT h1 <| tN
    exact runs_of (C := cfg) (objs := []) (sc := t_.ev) (.k0 t_.pf (by kernel_rfl))
  · obtain ⟨b, h2, h⟩ := bind_of h
    rcases cond_of h with ⟨h3, h⟩ | ⟨h3, h⟩
    · obtain ⟨b2, h4, h⟩ := bind_of h
      rcases cond_of h with ⟨h5, h⟩ | ⟨h5, h⟩
      · have h := some_of h
        subst h
        have t_ := tF h1 <| tR (utf8_ValidString_runs s _ h2) <| tF (not_of2 h3) <| tR (strings_ContainsFunc_runs s _ h4) <| tT h5 <| tN
        exact runs_of (C := cfg) (objs := []) (sc := t_.ev) (.k0 t_.pf (by kernel_rfl))
      · have h := some_of h
        subst h
        have t_ := tF h1 <| tR (utf8_ValidString_runs s _ h2) <| tF (not_of2 h3) <| tR (strings_ContainsFunc_runs s _ h4) <| tF h5 <| tN
        exact runs_of (C := cfg) (objs := []) (sc := t_.ev) (.k0 t_.pf (by kernel_rfl))
    · have h := some_of h
      subst h
      have t_ := tF h1 <| tR (utf8_ValidString_runs s _ h2) <| tT (not_of h3) <| tT (rfl : true = true) <| tN
      exact runs_of (C := cfg) (objs := []) (sc := t_.ev) (.k0 t_.pf (by kernel_rfl))
/-! ### text_Fold_out -/
def text_Fold_out (s : ByteArray) : ByteArray → Res
  | r1 => ([(.one (.pv (.str r1)))], [], [])
/-! ### text_Fold_L0_2 -/
def text_Fold_L0_2_st (k : Nat) (n : Int) (l : List Int) : Bool × Int × List Int → St
  | (blank, n2, l2) => ⟨[(3, (.av (.one (.own 0 0 (l2).length false)))), (4, (.av (.one (.pv (.bool blank))))), (8, (.av (.one (.own 1 0 k false)))), (9, (.av (.one (.pv (.int .i64 n))))), (10, (.av (.one (.pv (.int .i64 n2)))))], [], [(0, (.live (.ints .u8 l2))), (1, (.live (.ints .u8 l)))]⟩
def text_Fold_L0_2_ex (k : Nat) (n : Int) (l : List Int) : List Int → Ex × St
  | r1 => ((.exit 0), ⟨[(3, (.av (.one (.own 0 0 (r1).length false))))], [], [(0, (.live (.ints .u8 r1))), (1, (.live (.ints .u8 l)))]⟩)
noncomputable def text_Fold_L0_2_step (k : Nat) (n : Int) (l : List Int) : Bool × Int × List Int → Option ((Bool × Int × List Int) ⊕ (List Int))
  | (blank, n2, l2) =>
  bif (decide ((n2 : Int) < n)) then
    bif decide ((0 : Int) ≤ n2) && decide ((n2 : Int) < (k : Int)) then
    bif (decide (((l.getD (0 + (n2).toNat) 0) : Int) = 32)) then
      bif blank then
        some (.inl ((decide (((l.getD (0 + (n2).toNat) 0) : Int) = 32)), (iadd .i64 n2 1), l2))
      else
        bif fits ((l2 ++ [(l.getD (0 + (n2).toNat) 0)])).length then
        some (.inl ((decide (((l.getD (0 + (n2).toNat) 0) : Int) = 32)), (iadd .i64 n2 1), (l2 ++ [(l.getD (0 + (n2).toNat) 0)])))
        else none
    else
      bif fits ((l2 ++ [(l.getD (0 + (n2).toNat) 0)])).length then
      some (.inl ((decide (((l.getD (0 + (n2).toNat) 0) : Int) = 32)), (iadd .i64 n2 1), (l2 ++ [(l.getD (0 + (n2).toNat) 0)])))
      else none
    else none
  else
    some (.inr l2)
theorem text_Fold_L0_2_ok (k : Nat) (n : Int) (l : List Int) (s_ : Bool × Int × List Int) (z_ : (Bool × Int × List Int) ⊕ (List Int)) (h : text_Fold_L0_2_step k n l s_ = some z_) : RoundOk Tryd.prog cfg 28 0 (loopAt Tryd.prog 28 0) (text_Fold_L0_2_st k n l) (text_Fold_L0_2_ex k n l) s_ z_ := by
  rcases s_ with ⟨blank, n2, l2⟩
  rcases cond_of h with ⟨h1, h⟩ | ⟨h1, h⟩
  · obtain ⟨h2, h⟩ := need_of h
    rcases cond_of h with ⟨h3, h⟩ | ⟨h3, h⟩
    · rcases cond_of h with ⟨h4, h⟩ | ⟨h4, h⟩
      · have h := some_of h
        subst h
        have t_ := tT h1 <| tO h2 <| tF (not_of2 h3) <| tF (not_of2 h4) <| tN
        exact ⟨t_.ev, text_Fold_L0_2_st k n l ((decide (((l.getD (0 + (n2).toNat) 0) : Int) = 32)), (iadd .i64 n2 1), l2), .k0 t_.pf (by kernel_rfl), .same (by kernel_rfl)⟩
      · obtain ⟨h5, h⟩ := need_of h
        have h := some_of h
        subst h
        have t_ := tT h1 <| tO h2 <| tF (not_of2 h3) <| tT (not_of h4) <| tO (show (Nat.beq (l2).length (l2).length) = true from Nat.beq_refl _) <| tO h5 <| tN
        exact ⟨t_.ev, text_Fold_L0_2_st k n l ((decide (((l.getD (0 + (n2).toNat) 0) : Int) = 32)), (iadd .i64 n2 1), (l2 ++ [(l.getD (0 + (n2).toNat) 0)])), .k0 t_.pf (by kernel_rfl), .same (by kernel_rfl)⟩
    · obtain ⟨h4, h⟩ := need_of h
      have h := some_of h
      subst h
      have t_ := tT h1 <| tO h2 <| tT (not_of h3) <| tT (rfl : true = true) <| tO (show (Nat.beq (l2).length (l2).length) = true from Nat.beq_refl _) <| tO h4 <| tN
      exact ⟨t_.ev, text_Fold_L0_2_st k n l ((decide (((l.getD (0 + (n2).toNat) 0) : Int) = 32)), (iadd .i64 n2 1), (l2 ++ [(l.getD (0 + (n2).toNat) 0)])), .k0 t_.pf (by kernel_rfl), .same (by kernel_rfl)⟩
  · have h := some_of h
    subst h
    have t_ := tF h1 <| tN
    exact ⟨t_.ev, ⟨[(11, (.av (.one (.pv (.bool false))))), (3, (.av (.one (.own 0 0 (l2).length false)))), (4, (.av (.one (.pv (.bool blank))))), (8, (.av (.one (.own 1 0 k false)))), (9, (.av (.one (.pv (.int .i64 n))))), (10, (.av (.one (.pv (.int .i64 n2))))), (11, (.av (.one (.pv (.bool (decide ((n2 : Int) < n)))))))], [], [(0, (.live (.ints .u8 l2))), (1, (.live (.ints .u8 l)))]⟩, .k0 t_.pf (by kernel_rfl), ⟨⟨⟨_, rfl, .eq rfl⟩, trivial⟩, trivial, ⟨⟨rfl, .eq rfl⟩, ⟨rfl, .eq rfl⟩, trivial⟩⟩⟩
theorem text_Fold_L0_2_runs (k : Nat) (n : Int) (l : List Int) (s_ : Bool × Int × List Int) (r_ : List Int) (h : runL (text_Fold_L0_2_step k n l) s_ = some r_) : LRuns Tryd.prog (lEnv Tryd.prog cfg 28 0).nt 0 (.loop (loopAt Tryd.prog 28 0)) (text_Fold_L0_2_st k n l s_) (text_Fold_L0_2_ex k n l r_).1 (text_Fold_L0_2_ex k n l r_).2 :=
  loop_run h (text_Fold_L0_2_ok k n l) (by intro r_; rcases r_ with r1 <;> simp [text_Fold_L0_2_ex])
/-! ### strings_TrimSuffix_out -/
def strings_TrimSuffix_out (s : ByteArray) (suffix : ByteArray) : ByteArray → Res
  | r1 => ([(.one (.pv (.str r1)))], [], [])
/-! ### stringslite_TrimSuffix_out -/
def stringslite_TrimSuffix_out (s : ByteArray) (suffix : ByteArray) : ByteArray → Res
  | r1 => ([(.one (.pv (.str r1)))], [], [])
/-! ### stringslite_HasSuffix_out -/
def stringslite_HasSuffix_out (s : ByteArray) (suffix : ByteArray) : Bool → Res
  | r1 => ([(.one (.pv (.bool r1)))], [], [])
/-! ### stringslite_HasSuffix -/
noncomputable def stringslite_HasSuffix (s : ByteArray) (suffix : ByteArray) : Option (Bool) :=
  bif (decide (((suffix.size : Int) : Int) ≤ (s.size : Int))) then
    bif decide ((0 : Int) ≤ (isub .i64 (s.size : Int) (suffix.size : Int))) && decide (((isub .i64 (s.size : Int) (suffix.size : Int)) : Int) ≤ (s.size : Int)) && decide (((s.size : Int) : Int) ≤ (s.size : Int)) then
    some (decide ((s.extract ((isub .i64 (s.size : Int) (suffix.size : Int))).toNat ((s.size : Int)).toNat) = suffix))
    else none
  else
    some false
theorem stringslite_HasSuffix_runs (s : ByteArray) (suffix : ByteArray) (r_ : Bool) (h : stringslite_HasSuffix s suffix = some r_) : Runs Tryd.prog 82 [(.one (.pv (.str s))), (.one (.pv (.str suffix)))] [] [] (stringslite_HasSuffix_out s suffix r_) := by
  unfold stringslite_HasSuffix at h
  rcases cond_of h with ⟨h1, h⟩ | ⟨h1, h⟩
  · obtain ⟨h2, h⟩ := need_of h
    have h := some_of h
    subst h
    have t_ := tT h1 <| tO h2 <| tN
    exact runs_of (C := cfg) (objs := []) (sc := t_.ev) (.k0 t_.pf (by kernel_rfl))
  · have h := some_of h
    subst h
    have t_ := tF h1 <| tN
    exact runs_of (C := cfg) (objs := []) (sc := t_.ev) (.k0 t_.pf (by kernel_rfl))
/-! ### stringslite_TrimSuffix -/
noncomputable def stringslite_TrimSuffix (s : ByteArray) (suffix : ByteArray) : Option (ByteArray) :=
  (stringslite_HasSuffix s suffix).bind fun b =>
  bif b then
    bif decide ((0 : Int) ≤ 0) && decide ((0 : Int) ≤ (isub .i64 (s.size : Int) (suffix.size : Int))) && decide (((isub .i64 (s.size : Int) (suffix.size : Int)) : Int) ≤ (s.size : Int)) then
    some (s.extract 0 ((isub .i64 (s.size : Int) (suffix.size : Int))).toNat)
    else none
  else
    some s
theorem stringslite_TrimSuffix_runs (s : ByteArray) (suffix : ByteArray) (r_ : ByteArray) (h : stringslite_TrimSuffix s suffix = some r_) : Runs Tryd.prog 59 [(.one (.pv (.str s))), (.one (.pv (.str suffix)))] [] [] (stringslite_TrimSuffix_out s suffix r_) := by
  unfold stringslite_TrimSuffix at h
  obtain ⟨b, h1, h⟩ := bind_of h
  rcases cond_of h with ⟨h2, h⟩ | ⟨h2, h⟩
  · obtain ⟨h3, h⟩ := need_of h
    have h := some_of h
    subst h
    have t_ := tR (stringslite_HasSuffix_runs s suffix _ h1) <| tT h2 <| tO h3 <| tN
    exact runs_of (C := cfg) (objs := []) (sc := t_.ev) (.k0 t_.pf (by kernel_rfl))
  · have h := some_of h
    subst h
    have t_ := tR (stringslite_HasSuffix_runs s suffix _ h1) <| tF h2 <| tN
    exact runs_of (C := cfg) (objs := []) (sc := t_.ev) (.k0 t_.pf (by kernel_rfl))
/-! ### strings_TrimSuffix -/
noncomputable def strings_TrimSuffix (s : ByteArray) (suffix : ByteArray) : Option (ByteArray) :=
  (stringslite_TrimSuffix s suffix).bind fun s2 =>
  some s2
theorem strings_TrimSuffix_runs (s : ByteArray) (suffix : ByteArray) (r_ : ByteArray) (h : strings_TrimSuffix s suffix = some r_) : Runs Tryd.prog 46 [(.one (.pv (.str s))), (.one (.pv (.str suffix)))] [] [] (strings_TrimSuffix_out s suffix r_) := by
  unfold strings_TrimSuffix at h
  obtain ⟨s2, h1, h⟩ := bind_of h
  have h := some_of h
  subst h
  have t_ := tR (stringslite_TrimSuffix_runs s suffix _ h1) <| tN
  exact runs_of (C := cfg) (objs := []) (sc := t_.ev) (.k0 t_.pf (by kernel_rfl))
/-! ### text_Fold -/
noncomputable def text_Fold (s : ByteArray) : Option (ByteArray) :=
  bif decide (s.size ≤ 140737488355328) then
  (runL (text_Fold_L0_2_step ((bytesL s).length) ((bytesL s).length : Int) (bytesL s)) (true, 0, [])).bind fun l_ =>
  (strings_TrimSuffix (strOf (List.take (l_).length l_)) (⟨#[32]⟩ : ByteArray)).bind fun s2 =>
  some s2
  else none
theorem text_Fold_runs (s : ByteArray) (r_ : ByteArray) (h : text_Fold s = some r_) : Runs Tryd.prog 28 [(.one (.pv (.str s)))] [] [] (text_Fold_out s r_) := by
  unfold text_Fold at h
  obtain ⟨h1, h⟩ := need_of h
  obtain ⟨l_, h2, h⟩ := bind_of h
  obtain ⟨s2, h3, h⟩ := bind_of h
  have h := some_of h
  subst h
  have t_ := tO h1 <| tL (LRuns.coe (s0 := ⟨[(3, (.av (.one (.own 0 0 0 false)))), (4, (.av (.one (.pv (.bool true))))), (8, (.av (.one (.own 1 0 (bytesL s).length false)))), (9, (.av (.one (.pv (.int .i64 ((bytesL s).length : Int)))))), (10, (.av (.one (.pv (.int .i64 0)))))], [], [(0, (.live (.ints .u8 []))), (1, (.live (.ints .u8 (bytesL s))))]⟩) (text_Fold_L0_2_runs ((bytesL s).length) ((bytesL s).length : Int) (bytesL s) _ _ h2) ⟨⟨⟨_, rfl, .own (by first | rfl | (simp only [List.take_length]; done) | (simp only [List.take_length, List.length_append, List.drop_zero, List.map_append, List.map_take, List.map_drop, List.map_replicate, List.map_cons, List.map_nil, List.append_nil, List.nil_append, E_card_Field.pv, E_card_Field.upd]; done) | (simp; done))⟩, ⟨_, rfl, .eq rfl⟩, ⟨_, rfl, .eq rfl⟩, ⟨_, rfl, .eq rfl⟩, ⟨_, rfl, .eq rfl⟩, trivial⟩, trivial, ⟨⟨rfl, .eq rfl⟩, ⟨rfl, .eq rfl⟩, trivial⟩⟩) <| tR (strings_TrimSuffix_runs (strOf (List.take (l_).length l_)) (⟨#[32]⟩ : ByteArray) _ h3) <| tN
  exact runs_of (C := cfg) (objs := []) (sc := t_.ev) (.k0 t_.pf (by kernel_rfl))
/-! ### text_Phone_out -/
def text_Phone_out (s : ByteArray) : Bool → Res
  | r1 => ([(.one (.pv (.bool r1)))], [], [])
/-! ### text_Phone_L0 -/
def text_Phone_L0_st (s : ByteArray) (s2 : ByteArray) : Bool × Nat → St
  | (digits, k) => ⟨[(0, (.av (.one (.pv (.str s))))), (3, (.av (.one (.pv (.bool digits))))), (7, (.av (.one (.ref 0 0))))], [(0, [(.sit s2 k)])], []⟩
def text_Phone_L0_ex (s : ByteArray) (s2 : ByteArray) : (Unit) ⊕ (Bool × Nat) → Ex × St
  | .inl _ => (.ret, ⟨[(2, (.av (.one (.pv (.bool false)))))], [], []⟩)
  | .inr (r1, r2) => ((.exit 0), ⟨[(0, (.av (.one (.pv (.str s))))), (3, (.av (.one (.pv (.bool r1)))))], [(0, [(.sit s2 r2)])], []⟩)
noncomputable def text_Phone_L0_step (s : ByteArray) (s2 : ByteArray) : Bool × Nat → Option ((Bool × Nat) ⊕ ((Unit) ⊕ (Bool × Nat)))
  | (digits, k) =>
  bif (decide ((k : Nat) < s2.size)) then
    bif (decide ((48 : Int) ≤ ((Utf8.decode s2 k).1 : Int))) then
      bif (decide ((((Utf8.decode s2 k).1 : Int) : Int) ≤ 57)) then
        some (.inl (true, (k + (Utf8.decode s2 k).2)))
      else
        bif (decide ((((Utf8.decode s2 k).1 : Int) : Int) = 43)) then
          bif (decide (((k : Int) : Int) = 0)) then
            some (.inl (digits, (k + (Utf8.decode s2 k).2)))
          else
            bif (decide ((((Utf8.decode s2 k).1 : Int) : Int) = 32)) then
              some (.inl (digits, (k + (Utf8.decode s2 k).2)))
            else
              bif (decide ((((Utf8.decode s2 k).1 : Int) : Int) = 45)) then
                some (.inl (digits, (k + (Utf8.decode s2 k).2)))
              else
                some (.inr (.inl ()))
        else
          bif (decide ((((Utf8.decode s2 k).1 : Int) : Int) = 32)) then
            some (.inl (digits, (k + (Utf8.decode s2 k).2)))
          else
            bif (decide ((((Utf8.decode s2 k).1 : Int) : Int) = 45)) then
              some (.inl (digits, (k + (Utf8.decode s2 k).2)))
            else
              some (.inr (.inl ()))
    else
      bif (decide ((((Utf8.decode s2 k).1 : Int) : Int) = 43)) then
        bif (decide (((k : Int) : Int) = 0)) then
          some (.inl (digits, (k + (Utf8.decode s2 k).2)))
        else
          bif (decide ((((Utf8.decode s2 k).1 : Int) : Int) = 32)) then
            some (.inl (digits, (k + (Utf8.decode s2 k).2)))
          else
            bif (decide ((((Utf8.decode s2 k).1 : Int) : Int) = 45)) then
              some (.inl (digits, (k + (Utf8.decode s2 k).2)))
            else
              some (.inr (.inl ()))
      else
        bif (decide ((((Utf8.decode s2 k).1 : Int) : Int) = 32)) then
          some (.inl (digits, (k + (Utf8.decode s2 k).2)))
        else
          bif (decide ((((Utf8.decode s2 k).1 : Int) : Int) = 45)) then
            some (.inl (digits, (k + (Utf8.decode s2 k).2)))
          else
            some (.inr (.inl ()))
  else
    some (.inr (.inr (digits, k)))
theorem text_Phone_L0_ok (s : ByteArray) (s2 : ByteArray) (s_ : Bool × Nat) (z_ : (Bool × Nat) ⊕ ((Unit) ⊕ (Bool × Nat))) (h : text_Phone_L0_step s s2 s_ = some z_) : RoundOk Tryd.prog cfg 29 0 (loopAt Tryd.prog 29 0) (text_Phone_L0_st s s2) (text_Phone_L0_ex s s2) s_ z_ := by
  rcases s_ with ⟨digits, k⟩
  rcases cond_of h with ⟨h1, h⟩ | ⟨h1, h⟩
  · rcases cond_of h with ⟨h2, h⟩ | ⟨h2, h⟩
    · rcases cond_of h with ⟨h3, h⟩ | ⟨h3, h⟩
      · have h := some_of h
        subst h
        have t_ := tT h1 <| tT (rfl : true = true) <| tT h2 <| tT h3 <| tN
        exact ⟨t_.ev, text_Phone_L0_st s s2 (true, (k + (Utf8.decode s2 k).2)), .k0 t_.pf (by kernel_rfl), .same (by kernel_rfl)⟩
      · rcases cond_of h with ⟨h4, h⟩ | ⟨h4, h⟩
        · rcases cond_of h with ⟨h5, h⟩ | ⟨h5, h⟩
          · have h := some_of h
            subst h
            have t_ := tT h1 <| tT (rfl : true = true) <| tT h2 <| tF h3 <| tT h4 <| tT h5 <| tT (rfl : true = true) <| tN
            exact ⟨t_.ev, text_Phone_L0_st s s2 (digits, (k + (Utf8.decode s2 k).2)), .k0 t_.pf (by kernel_rfl), .same (by kernel_rfl)⟩
          · rcases cond_of h with ⟨h6, h⟩ | ⟨h6, h⟩
            · have h := some_of h
              subst h
              have t_ := tT h1 <| tT (rfl : true = true) <| tT h2 <| tF h3 <| tT h4 <| tF h5 <| tT h6 <| tT (rfl : true = true) <| tN
              exact ⟨t_.ev, text_Phone_L0_st s s2 (digits, (k + (Utf8.decode s2 k).2)), .k0 t_.pf (by kernel_rfl), .same (by kernel_rfl)⟩
            · rcases cond_of h with ⟨h7, h⟩ | ⟨h7, h⟩
              · have h := some_of h
                subst h
                have t_ := tT h1 <| tT (rfl : true = true) <| tT h2 <| tF h3 <| tT h4 <| tF h5 <| tF h6 <| tT h7 <| tN
                exact ⟨t_.ev, text_Phone_L0_st s s2 (digits, (k + (Utf8.decode s2 k).2)), .k0 t_.pf (by kernel_rfl), .same (by kernel_rfl)⟩
              · have h := some_of h
                subst h
                have t_ := tT h1 <| tT (rfl : true = true) <| tT h2 <| tF h3 <| tT h4 <| tF h5 <| tF h6 <| tF h7 <| tN
                exact ⟨t_.ev, (text_Phone_L0_ex s s2 (.inl ())).2, .k0 t_.pf (by kernel_rfl), .same (by kernel_rfl)⟩
        · rcases cond_of h with ⟨h5, h⟩ | ⟨h5, h⟩
          · have h := some_of h
            subst h
            have t_ := tT h1 <| tT (rfl : true = true) <| tT h2 <| tF h3 <| tF h4 <| tF (rfl : false = false) <| tT h5 <| tT (rfl : true = true) <| tN
            exact ⟨t_.ev, text_Phone_L0_st s s2 (digits, (k + (Utf8.decode s2 k).2)), .k0 t_.pf (by kernel_rfl), .same (by kernel_rfl)⟩
          · rcases cond_of h with ⟨h6, h⟩ | ⟨h6, h⟩
            · have h := some_of h
              subst h
              have t_ := tT h1 <| tT (rfl : true = true) <| tT h2 <| tF h3 <| tF h4 <| tF (rfl : false = false) <| tF h5 <| tT h6 <| tN
              exact ⟨t_.ev, text_Phone_L0_st s s2 (digits, (k + (Utf8.decode s2 k).2)), .k0 t_.pf (by kernel_rfl), .same (by kernel_rfl)⟩
            · have h := some_of h
              subst h
              have t_ := tT h1 <| tT (rfl : true = true) <| tT h2 <| tF h3 <| tF h4 <| tF (rfl : false = false) <| tF h5 <| tF h6 <| tN
              exact ⟨t_.ev, (text_Phone_L0_ex s s2 (.inl ())).2, .k0 t_.pf (by kernel_rfl), .same (by kernel_rfl)⟩
    · rcases cond_of h with ⟨h3, h⟩ | ⟨h3, h⟩
      · rcases cond_of h with ⟨h4, h⟩ | ⟨h4, h⟩
        · have h := some_of h
          subst h
          have t_ := tT h1 <| tT (rfl : true = true) <| tF h2 <| tF (rfl : false = false) <| tT h3 <| tT h4 <| tT (rfl : true = true) <| tN
          exact ⟨t_.ev, text_Phone_L0_st s s2 (digits, (k + (Utf8.decode s2 k).2)), .k0 t_.pf (by kernel_rfl), .same (by kernel_rfl)⟩
        · rcases cond_of h with ⟨h5, h⟩ | ⟨h5, h⟩
          · have h := some_of h
            subst h
            have t_ := tT h1 <| tT (rfl : true = true) <| tF h2 <| tF (rfl : false = false) <| tT h3 <| tF h4 <| tT h5 <| tT (rfl : true = true) <| tN
            exact ⟨t_.ev, text_Phone_L0_st s s2 (digits, (k + (Utf8.decode s2 k).2)), .k0 t_.pf (by kernel_rfl), .same (by kernel_rfl)⟩
          · rcases cond_of h with ⟨h6, h⟩ | ⟨h6, h⟩
            · have h := some_of h
              subst h
              have t_ := tT h1 <| tT (rfl : true = true) <| tF h2 <| tF (rfl : false = false) <| tT h3 <| tF h4 <| tF h5 <| tT h6 <| tN
              exact ⟨t_.ev, text_Phone_L0_st s s2 (digits, (k + (Utf8.decode s2 k).2)), .k0 t_.pf (by kernel_rfl), .same (by kernel_rfl)⟩
            · have h := some_of h
              subst h
              have t_ := tT h1 <| tT (rfl : true = true) <| tF h2 <| tF (rfl : false = false) <| tT h3 <| tF h4 <| tF h5 <| tF h6 <| tN
              exact ⟨t_.ev, (text_Phone_L0_ex s s2 (.inl ())).2, .k0 t_.pf (by kernel_rfl), .same (by kernel_rfl)⟩
      · rcases cond_of h with ⟨h4, h⟩ | ⟨h4, h⟩
        · have h := some_of h
          subst h
          have t_ := tT h1 <| tT (rfl : true = true) <| tF h2 <| tF (rfl : false = false) <| tF h3 <| tF (rfl : false = false) <| tT h4 <| tT (rfl : true = true) <| tN
          exact ⟨t_.ev, text_Phone_L0_st s s2 (digits, (k + (Utf8.decode s2 k).2)), .k0 t_.pf (by kernel_rfl), .same (by kernel_rfl)⟩
        · rcases cond_of h with ⟨h5, h⟩ | ⟨h5, h⟩
          · have h := some_of h
            subst h
            have t_ := tT h1 <| tT (rfl : true = true) <| tF h2 <| tF (rfl : false = false) <| tF h3 <| tF (rfl : false = false) <| tF h4 <| tT h5 <| tN
            exact ⟨t_.ev, text_Phone_L0_st s s2 (digits, (k + (Utf8.decode s2 k).2)), .k0 t_.pf (by kernel_rfl), .same (by kernel_rfl)⟩
          · have h := some_of h
            subst h
            have t_ := tT h1 <| tT (rfl : true = true) <| tF h2 <| tF (rfl : false = false) <| tF h3 <| tF (rfl : false = false) <| tF h4 <| tF h5 <| tN
            exact ⟨t_.ev, (text_Phone_L0_ex s s2 (.inl ())).2, .k0 t_.pf (by kernel_rfl), .same (by kernel_rfl)⟩
  · have h := some_of h
    subst h
    have t_ := tF h1 <| tF (rfl : false = false) <| tN
    exact ⟨t_.ev, ⟨[(9, (.av (.one (.pv (.bool false))))), (0, (.av (.one (.pv (.str s))))), (3, (.av (.one (.pv (.bool digits))))), (7, (.av (.one (.ref 0 0)))), (8, (.tup [(.one (.pv (.bool false)))])), (9, (.av (.one (.pv (.bool false)))))], [(0, [(.sit s2 k)])], []⟩, .k0 t_.pf (by kernel_rfl), ⟨⟨⟨_, rfl, .eq rfl⟩, ⟨_, rfl, .eq rfl⟩, trivial⟩, ⟨⟨rfl, ⟨.eq rfl, trivial⟩⟩, trivial⟩, trivial⟩⟩
theorem text_Phone_L0_runs (s : ByteArray) (s2 : ByteArray) (s_ : Bool × Nat) (r_ : (Unit) ⊕ (Bool × Nat)) (h : runL (text_Phone_L0_step s s2) s_ = some r_) : LRuns Tryd.prog (lEnv Tryd.prog cfg 29 0).nt 0 (.loop (loopAt Tryd.prog 29 0)) (text_Phone_L0_st s s2 s_) (text_Phone_L0_ex s s2 r_).1 (text_Phone_L0_ex s s2 r_).2 :=
  loop_run h (text_Phone_L0_ok s s2) (by intro r_; rcases r_ with _ | ⟨r1, r2⟩ <;> simp [text_Phone_L0_ex])
/-! ### text_Phone -/
noncomputable def text_Phone (s : ByteArray) : Option (Bool) :=
  (runL (text_Phone_L0_step s s) (false, 0)).bind fun z_ => match z_ with
  | .inl _ =>
    some false
  | .inr (b, k) =>
    bif b then
      some (decide (((s.size : Int) : Int) ≤ 20))
    else
      some false
theorem text_Phone_runs (s : ByteArray) (r_ : Bool) (h : text_Phone s = some r_) : Runs Tryd.prog 29 [(.one (.pv (.str s)))] [] [] (text_Phone_out s r_) := by
  unfold text_Phone at h
  obtain ⟨z_, h1, h⟩ := bind_of h
  rcases z_ with _ | ⟨b, k⟩
  · have h := some_of h
    subst h
    have t_ := tL (text_Phone_L0_runs s s _ _ h1) <| tN
    exact runs_of (C := cfg) (objs := []) (sc := t_.ev) (.k0 t_.pf (by kernel_rfl))
  · rcases cond_of h with ⟨h2, h⟩ | ⟨h2, h⟩
    · have h := some_of h
      subst h
      have t_ := tL (text_Phone_L0_runs s s _ _ h1) <| tT h2 <| tN
      exact runs_of (C := cfg) (objs := []) (sc := t_.ev) (.k0 t_.pf (by kernel_rfl))
    · have h := some_of h
      subst h
      have t_ := tL (text_Phone_L0_runs s s _ _ h1) <| tF h2 <| tN
      exact runs_of (C := cfg) (objs := []) (sc := t_.ev) (.k0 t_.pf (by kernel_rfl))
/-! ### text_Mail_out -/
def text_Mail_out (s : ByteArray) : Bool → Res
  | r1 => ([(.one (.pv (.bool r1)))], [], [])
/-! ### text_Mail_L0 -/
def text_Mail_L0_st (s : ByteArray) (n : Int) : Int → St
  | n2 => ⟨[(0, (.av (.one (.pv (.str s))))), (8, (.av (.one (.pv (.int .i64 n))))), (9, (.av (.one (.pv (.int .i64 n2)))))], [], []⟩
def text_Mail_L0_ex (s : ByteArray) (n : Int) : (Unit) ⊕ (Unit) → Ex × St
  | .inl _ => (.ret, ⟨[(2, (.av (.one (.pv (.bool false)))))], [], []⟩)
  | .inr _ => ((.exit 0), ⟨[(0, (.av (.one (.pv (.str s)))))], [], []⟩)
noncomputable def text_Mail_L0_step (s : ByteArray) (n : Int) : Int → Option ((Int) ⊕ ((Unit) ⊕ (Unit)))
  | n2 =>
  bif (decide ((n2 : Int) < n)) then
    bif decide ((0 : Int) ≤ n2) && decide ((n2 : Int) < (s.size : Int)) then
    bif (decide ((((s.data.getD (n2).toNat 0).toNat : Int) : Int) ≤ 32)) then
      some (.inr (.inl ()))
    else
      bif (decide ((126 : Int) < ((s.data.getD (n2).toNat 0).toNat : Int))) then
        some (.inr (.inl ()))
      else
        some (.inl (iadd .i64 n2 1))
    else none
  else
    some (.inr (.inr ()))
theorem text_Mail_L0_ok (s : ByteArray) (n : Int) (n2 : Int) (z_ : (Int) ⊕ ((Unit) ⊕ (Unit))) (h : text_Mail_L0_step s n n2 = some z_) : RoundOk Tryd.prog cfg 30 0 (loopAt Tryd.prog 30 0) (text_Mail_L0_st s n) (text_Mail_L0_ex s n) n2 z_ := by
  rcases cond_of h with ⟨h1, h⟩ | ⟨h1, h⟩
  · obtain ⟨h2, h⟩ := need_of h
    rcases cond_of h with ⟨h3, h⟩ | ⟨h3, h⟩
    · have h := some_of h
      subst h
      have t_ := tT h1 <| tO h2 <| tT h3 <| tT (rfl : true = true) <| tN
      exact ⟨t_.ev, (text_Mail_L0_ex s n (.inl ())).2, .k0 t_.pf (by kernel_rfl), .same (by kernel_rfl)⟩
    · rcases cond_of h with ⟨h4, h⟩ | ⟨h4, h⟩
      · have h := some_of h
        subst h
        have t_ := tT h1 <| tO h2 <| tF h3 <| tO h2 <| tT h4 <| tN
        exact ⟨t_.ev, (text_Mail_L0_ex s n (.inl ())).2, .k0 t_.pf (by kernel_rfl), .same (by kernel_rfl)⟩
      · have h := some_of h
        subst h
        have t_ := tT h1 <| tO h2 <| tF h3 <| tO h2 <| tF h4 <| tN
        exact ⟨t_.ev, text_Mail_L0_st s n (iadd .i64 n2 1), .k0 t_.pf (by kernel_rfl), .same (by kernel_rfl)⟩
  · have h := some_of h
    subst h
    have t_ := tF h1 <| tN
    exact ⟨t_.ev, ⟨[(10, (.av (.one (.pv (.bool false))))), (0, (.av (.one (.pv (.str s))))), (8, (.av (.one (.pv (.int .i64 n))))), (9, (.av (.one (.pv (.int .i64 n2))))), (10, (.av (.one (.pv (.bool (decide ((n2 : Int) < n)))))))], [], []⟩, .k0 t_.pf (by kernel_rfl), ⟨⟨⟨_, rfl, .eq rfl⟩, trivial⟩, trivial, trivial⟩⟩
theorem text_Mail_L0_runs (s : ByteArray) (n : Int) (s_ : Int) (r_ : (Unit) ⊕ (Unit)) (h : runL (text_Mail_L0_step s n) s_ = some r_) : LRuns Tryd.prog (lEnv Tryd.prog cfg 30 0).nt 0 (.loop (loopAt Tryd.prog 30 0)) (text_Mail_L0_st s n s_) (text_Mail_L0_ex s n r_).1 (text_Mail_L0_ex s n r_).2 :=
  loop_run h (text_Mail_L0_ok s n) (by intro r_; rcases r_ with _ | _ <;> simp [text_Mail_L0_ex])
/-! ### strings_Cut_out -/
def strings_Cut_out (s : ByteArray) (sep : ByteArray) : ByteArray × ByteArray × Bool → Res
  | (r1, r2, r3) => ([(.one (.pv (.str r1))), (.one (.pv (.str r2))), (.one (.pv (.bool r3)))], [], [])
/-! ### stringslite_Cut_out -/
def stringslite_Cut_out (s : ByteArray) (sep : ByteArray) : ByteArray × ByteArray × Bool → Res
  | (r1, r2, r3) => ([(.one (.pv (.str r1))), (.one (.pv (.str r2))), (.one (.pv (.bool r3)))], [], [])
/-! ### stringslite_Cut -/
noncomputable def stringslite_Cut (s : ByteArray) (sep : ByteArray) : Option (ByteArray × ByteArray × Bool) :=
  (stringslite_Index s sep).bind fun n =>
  bif (decide ((0 : Int) ≤ n)) then
    bif decide ((0 : Int) ≤ 0) && decide ((0 : Int) ≤ n) && decide ((n : Int) ≤ (s.size : Int)) then
    bif decide ((0 : Int) ≤ (iadd .i64 n (sep.size : Int))) && decide (((iadd .i64 n (sep.size : Int)) : Int) ≤ (s.size : Int)) && decide (((s.size : Int) : Int) ≤ (s.size : Int)) then
    some ((s.extract 0 (n).toNat), (s.extract ((iadd .i64 n (sep.size : Int))).toNat ((s.size : Int)).toNat), true)
    else none
    else none
  else
    some (s, (⟨#[]⟩ : ByteArray), false)
theorem stringslite_Cut_runs (s : ByteArray) (sep : ByteArray) (r_ : ByteArray × ByteArray × Bool) (h : stringslite_Cut s sep = some r_) : Runs Tryd.prog 60 [(.one (.pv (.str s))), (.one (.pv (.str sep)))] [] [] (stringslite_Cut_out s sep r_) := by
  unfold stringslite_Cut at h
  obtain ⟨n, h1, h⟩ := bind_of h
  rcases cond_of h with ⟨h2, h⟩ | ⟨h2, h⟩
  · obtain ⟨h3, h⟩ := need_of h
    obtain ⟨h4, h⟩ := need_of h
    have h := some_of h
    subst h
    have t_ := tR (stringslite_Index_runs s sep _ h1) <| tT h2 <| tO h3 <| tO h4 <| tN
    exact runs_of (C := cfg) (objs := []) (sc := t_.ev) (.k0 t_.pf (by kernel_rfl))
  · have h := some_of h
    subst h
    have t_ := tR (stringslite_Index_runs s sep _ h1) <| tF h2 <| tN
    exact runs_of (C := cfg) (objs := []) (sc := t_.ev) (.k0 t_.pf (by kernel_rfl))
/-! ### strings_Cut -/
noncomputable def strings_Cut (s : ByteArray) (sep : ByteArray) : Option (ByteArray × ByteArray × Bool) :=
  (stringslite_Cut s sep).bind fun (s2, s3, b) =>
  some (s2, s3, b)
theorem strings_Cut_runs (s : ByteArray) (sep : ByteArray) (r_ : ByteArray × ByteArray × Bool) (h : strings_Cut s sep = some r_) : Runs Tryd.prog 47 [(.one (.pv (.str s))), (.one (.pv (.str sep)))] [] [] (strings_Cut_out s sep r_) := by
  unfold strings_Cut at h
  obtain ⟨⟨s2, s3, b⟩, h1, h⟩ := bind_of h
  have h := some_of h
  subst h
  have t_ := tR (stringslite_Cut_runs s sep _ h1) <| tN
  exact runs_of (C := cfg) (objs := []) (sc := t_.ev) (.k0 t_.pf (by kernel_rfl))
/-! ### text_Mail -/
noncomputable def text_Mail (s : ByteArray) : Option (Bool) :=
  (runL (text_Mail_L0_step s (s.size : Int)) 0).bind fun z_ => match z_ with
  | .inl _ =>
    some false
  | .inr _ =>
    (strings_Cut s (⟨#[64]⟩ : ByteArray)).bind fun (s2, s3, b) =>
    bif b then
      bif (decide (s2 = (⟨#[]⟩ : ByteArray))) then
        some false
      else
        (strings_Contains s3 (⟨#[64]⟩ : ByteArray)).bind fun b2 =>
        bif b2 then
          some false
        else
          (strings_Trim s3 (⟨#[46]⟩ : ByteArray)).bind fun s4 =>
          (strings_Contains s4 (⟨#[46]⟩ : ByteArray)).bind fun b3 =>
          bif b3 then
            bif decide ((0 : Int) ≤ 0) && decide ((0 : Int) < (s3.size : Int)) then
            bif (decide ((((s3.data.getD 0 0).toNat : Int) : Int) = 46)) then
              some false
            else
              bif decide ((0 : Int) ≤ (isub .i64 (s3.size : Int) 1)) && decide (((isub .i64 (s3.size : Int) 1) : Int) < (s3.size : Int)) then
              some (!(decide ((((s3.data.getD ((isub .i64 (s3.size : Int) 1)).toNat 0).toNat : Int) : Int) = 46)))
              else none
            else none
          else
            some false
    else
      some false
theorem text_Mail_runs (s : ByteArray) (r_ : Bool) (h : text_Mail s = some r_) : Runs Tryd.prog 30 [(.one (.pv (.str s)))] [] [] (text_Mail_out s r_) := by
  unfold text_Mail at h
  obtain ⟨z_, h1, h⟩ := bind_of h
  rcases z_ with _ | _
  · have h := some_of h
    subst h
    have t_ := tL (text_Mail_L0_runs s (s.size : Int) _ _ h1) <| tN
    exact runs_of (C := cfg) (objs := []) (sc := t_.ev) (.k0 t_.pf (by kernel_rfl))
  · obtain ⟨⟨s2, s3, b⟩, h2, h⟩ := bind_of h
    rcases cond_of h with ⟨h3, h⟩ | ⟨h3, h⟩
    · rcases cond_of h with ⟨h4, h⟩ | ⟨h4, h⟩
      · have h := some_of h
        subst h
        have t_ := tL (text_Mail_L0_runs s (s.size : Int) _ _ h1) <| tR (strings_Cut_runs s (⟨#[64]⟩ : ByteArray) _ h2) <| tF (not_of2 h3) <| tT h4 <| tT (rfl : true = true) <| tN
        exact runs_of (C := cfg) (objs := []) (sc := t_.ev) (.k0 t_.pf (by kernel_rfl))
      · obtain ⟨b2, h5, h⟩ := bind_of h
        have q_5 := (strings_Contains_runs s3 (⟨#[64]⟩ : ByteArray) _ h5)
        rcases cond_of h with ⟨h6, h⟩ | ⟨h6, h⟩
        · have h := some_of h
          subst h
          have t_ := tL (text_Mail_L0_runs s (s.size : Int) _ _ h1) <| tR (strings_Cut_runs s (⟨#[64]⟩ : ByteArray) _ h2) <| tF (not_of2 h3) <| tF h4 <| tR q_5 <| tT h6 <| tN
          exact runs_of (C := cfg) (objs := []) (sc := t_.ev) (.k0 t_.pf (by kernel_rfl))
        · obtain ⟨s4, h7, h⟩ := bind_of h
          have q_7 := (strings_Trim_runs s3 (⟨#[46]⟩ : ByteArray) _ h7)
          obtain ⟨b3, h8, h⟩ := bind_of h
          have q_8 := (strings_Contains_runs s4 (⟨#[46]⟩ : ByteArray) _ h8)
          rcases cond_of h with ⟨h9, h⟩ | ⟨h9, h⟩
          · obtain ⟨h10, h⟩ := need_of h
            rcases cond_of h with ⟨h11, h⟩ | ⟨h11, h⟩
            · have h := some_of h
              subst h
              have t_ := tL (text_Mail_L0_runs s (s.size : Int) _ _ h1) <| tR (strings_Cut_runs s (⟨#[64]⟩ : ByteArray) _ h2) <| tF (not_of2 h3) <| tF h4 <| tR q_5 <| tF h6 <| tR q_7 <| tR q_8 <| tT h9 <| tO h10 <| tF (not_of2 h11) <| tN
              exact runs_of (C := cfg) (objs := []) (sc := t_.ev) (.k0 t_.pf (by kernel_rfl))
            · obtain ⟨h12, h⟩ := need_of h
              have h := some_of h
              subst h
              have t_ := tL (text_Mail_L0_runs s (s.size : Int) _ _ h1) <| tR (strings_Cut_runs s (⟨#[64]⟩ : ByteArray) _ h2) <| tF (not_of2 h3) <| tF h4 <| tR q_5 <| tF h6 <| tR q_7 <| tR q_8 <| tT h9 <| tO h10 <| tT (not_of h11) <| tO h12 <| tN
              exact runs_of (C := cfg) (objs := []) (sc := t_.ev) (.k0 t_.pf (by kernel_rfl))
          · have h := some_of h
            subst h
            have t_ := tL (text_Mail_L0_runs s (s.size : Int) _ _ h1) <| tR (strings_Cut_runs s (⟨#[64]⟩ : ByteArray) _ h2) <| tF (not_of2 h3) <| tF h4 <| tR q_5 <| tF h6 <| tR q_7 <| tR q_8 <| tF h9 <| tF (rfl : false = false) <| tN
            exact runs_of (C := cfg) (objs := []) (sc := t_.ev) (.k0 t_.pf (by kernel_rfl))
    · have h := some_of h
      subst h
      have t_ := tL (text_Mail_L0_runs s (s.size : Int) _ _ h1) <| tR (strings_Cut_runs s (⟨#[64]⟩ : ByteArray) _ h2) <| tT (not_of h3) <| tT (rfl : true = true) <| tT (rfl : true = true) <| tN
      exact runs_of (C := cfg) (objs := []) (sc := t_.ev) (.k0 t_.pf (by kernel_rfl))
/-! ### card_Field_Right -/
noncomputable def card_Field_Right (f : Int) (f2 : ByteArray) (f3 : ByteArray) : Option (Int) :=
  (card_KindName f).bind fun s =>
  bif (decide (s = (⟨#[]⟩ : ByteArray))) then
    some 1
  else
    (text_Check f2 12).bind fun n =>
    bif (decide ((n : Int) = 0)) then
      (text_Check f3 40).bind fun n2 =>
      bif (decide ((n2 : Int) = 0)) then
        bif (decide (f3 = (⟨#[]⟩ : ByteArray))) then
          some 7
        else
          (text_Fold f3).bind fun s2 =>
          bif decide (s2 = f3) then
            bif (decide ((f : Int) = 2)) then
              (text_Phone f3).bind fun b =>
              bif b then
                bif (decide ((f : Int) = 3)) then
                  (text_Mail f3).bind fun b2 =>
                  bif b2 then
                    some 0
                  else
                    some 7
                else
                  some 0
              else
                some 7
            else
              bif (decide ((f : Int) = 3)) then
                (text_Mail f3).bind fun b =>
                bif b then
                  some 0
                else
                  some 7
              else
                some 0
          else
            some 7
      else
        some n2
    else
      some n
theorem card_Field_Right_runs (f : Int) (f2 : ByteArray) (f3 : ByteArray) (r_ : Int) (h : card_Field_Right f f2 f3 = some r_) : Runs Tryd.prog 15 [(.agg [(.pv (.int .i64 f)), (.pv (.str f2)), (.pv (.str f3))])] [] [] (card_Field_Right_out f f2 f3 r_) := by
  unfold card_Field_Right at h
  obtain ⟨s, h1, h⟩ := bind_of h
  rcases cond_of h with ⟨h2, h⟩ | ⟨h2, h⟩
  · have h := some_of h
    subst h
    have t_ := tR (card_KindName_runs f _ h1) <| tT h2 <| tN
    exact runs_of (C := cfg) (objs := []) (sc := t_.ev) (.k0 t_.pf (by kernel_rfl))
  · obtain ⟨n, h3, h⟩ := bind_of h
    rcases cond_of h with ⟨h4, h⟩ | ⟨h4, h⟩
    · obtain ⟨n2, h5, h⟩ := bind_of h
      rcases cond_of h with ⟨h6, h⟩ | ⟨h6, h⟩
      · rcases cond_of h with ⟨h7, h⟩ | ⟨h7, h⟩
        · have h := some_of h
          subst h
          have t_ := tR (card_KindName_runs f _ h1) <| tF h2 <| tR (text_Check_runs f2 12 _ h3) <| tF (not_of2 h4) <| tR (text_Check_runs f3 40 _ h5) <| tF (not_of2 h6) <| tT h7 <| tT (rfl : true = true) <| tN
          exact runs_of (C := cfg) (objs := []) (sc := t_.ev) (.k0 t_.pf (by kernel_rfl))
        · obtain ⟨s2, h8, h⟩ := bind_of h
          rcases cond_of h with ⟨h9, h⟩ | ⟨h9, h⟩
          · rcases cond_of h with ⟨h10, h⟩ | ⟨h10, h⟩
            · obtain ⟨b, h11, h⟩ := bind_of h
              rcases cond_of h with ⟨h12, h⟩ | ⟨h12, h⟩
              · have p12_ := fun {sc_ : List Ev} {Q_ : Prop} (t_ : Tell sc_ Q_) => tR (card_KindName_runs f _ h1) <| tF h2 <| tR (text_Check_runs f2 12 _ h3) <| tF (not_of2 h4) <| tR (text_Check_runs f3 40 _ h5) <| tF (not_of2 h6) <| tF h7 <| tR (text_Fold_runs f3 _ h8) <| tR (text_Fold_runs f3 _ h8) <| tF (not_of2 h9) <| tT h10 <| tR (text_Phone_runs f3 _ h11) <| tF (not_of2 h12) <| t_
                rcases cond_of h with ⟨h13, h⟩ | ⟨h13, h⟩
                · obtain ⟨b2, h14, h⟩ := bind_of h
                  rcases cond_of h with ⟨h15, h⟩ | ⟨h15, h⟩
                  · have h := some_of h
                    subst h
                    have t_ := p12_ <| tT h13 <| tR (text_Mail_runs f3 _ h14) <| tF (not_of2 h15) <| tN
                    exact runs_of (C := cfg) (objs := []) (sc := t_.ev) (.k1 t_.pf (by kernel_rfl) (by kernel_rfl))
                  · have h := some_of h
                    subst h
                    have t_ := p12_ <| tT h13 <| tR (text_Mail_runs f3 _ h14) <| tT (not_of h15) <| tN
                    exact runs_of (C := cfg) (objs := []) (sc := t_.ev) (.k1 t_.pf (by kernel_rfl) (by kernel_rfl))
                · have h := some_of h
                  subst h
                  have t_ := p12_ <| tF h13 <| tF (rfl : false = false) <| tN
                  exact runs_of (C := cfg) (objs := []) (sc := t_.ev) (.k1 t_.pf (by kernel_rfl) (by kernel_rfl))
              · have h := some_of h
                subst h
                have t_ := tR (card_KindName_runs f _ h1) <| tF h2 <| tR (text_Check_runs f2 12 _ h3) <| tF (not_of2 h4) <| tR (text_Check_runs f3 40 _ h5) <| tF (not_of2 h6) <| tF h7 <| tR (text_Fold_runs f3 _ h8) <| tR (text_Fold_runs f3 _ h8) <| tF (not_of2 h9) <| tT h10 <| tR (text_Phone_runs f3 _ h11) <| tT (not_of h12) <| tT (rfl : true = true) <| tN
                exact runs_of (C := cfg) (objs := []) (sc := t_.ev) (.k1 t_.pf (by kernel_rfl) (by kernel_rfl))
            · rcases cond_of h with ⟨h11, h⟩ | ⟨h11, h⟩
              · obtain ⟨b, h12, h⟩ := bind_of h
                have p12_ := fun {sc_ : List Ev} {Q_ : Prop} (t_ : Tell sc_ Q_) => tR (card_KindName_runs f _ h1) <| tF h2 <| tR (text_Check_runs f2 12 _ h3) <| tF (not_of2 h4) <| tR (text_Check_runs f3 40 _ h5) <| tF (not_of2 h6) <| tF h7 <| tR (text_Fold_runs f3 _ h8) <| tR (text_Fold_runs f3 _ h8) <| tF (not_of2 h9) <| tF h10 <| tF (rfl : false = false) <| tT h11 <| tR (text_Mail_runs f3 _ h12) <| t_
                rcases cond_of h with ⟨h13, h⟩ | ⟨h13, h⟩
                · have h := some_of h
                  subst h
                  have t_ := p12_ <| tF (not_of2 h13) <| tN
                  exact runs_of (C := cfg) (objs := []) (sc := t_.ev) (.k1 t_.pf (by kernel_rfl) (by kernel_rfl))
                · have h := some_of h
                  subst h
                  have t_ := p12_ <| tT (not_of h13) <| tN
                  exact runs_of (C := cfg) (objs := []) (sc := t_.ev) (.k1 t_.pf (by kernel_rfl) (by kernel_rfl))
              · have h := some_of h
                subst h
                have t_ := tR (card_KindName_runs f _ h1) <| tF h2 <| tR (text_Check_runs f2 12 _ h3) <| tF (not_of2 h4) <| tR (text_Check_runs f3 40 _ h5) <| tF (not_of2 h6) <| tF h7 <| tR (text_Fold_runs f3 _ h8) <| tR (text_Fold_runs f3 _ h8) <| tF (not_of2 h9) <| tF h10 <| tF (rfl : false = false) <| tF h11 <| tF (rfl : false = false) <| tN
                exact runs_of (C := cfg) (objs := []) (sc := t_.ev) (.k1 t_.pf (by kernel_rfl) (by kernel_rfl))
          · have h := some_of h
            subst h
            have t_ := tR (card_KindName_runs f _ h1) <| tF h2 <| tR (text_Check_runs f2 12 _ h3) <| tF (not_of2 h4) <| tR (text_Check_runs f3 40 _ h5) <| tF (not_of2 h6) <| tF h7 <| tR (text_Fold_runs f3 _ h8) <| tR (text_Fold_runs f3 _ h8) <| tT (not_of h9) <| tT (rfl : true = true) <| tN
            exact runs_of (C := cfg) (objs := []) (sc := t_.ev) (.k1 t_.pf (by kernel_rfl) (by kernel_rfl))
      · have h := some_of h
        subst h
        have t_ := tR (card_KindName_runs f _ h1) <| tF h2 <| tR (text_Check_runs f2 12 _ h3) <| tF (not_of2 h4) <| tR (text_Check_runs f3 40 _ h5) <| tT (not_of h6) <| tN
        exact runs_of (C := cfg) (objs := []) (sc := t_.ev) (.k0 t_.pf (by kernel_rfl))
    · have h := some_of h
      subst h
      have t_ := tR (card_KindName_runs f _ h1) <| tF h2 <| tR (text_Check_runs f2 12 _ h3) <| tT (not_of h4) <| tN
      exact runs_of (C := cfg) (objs := []) (sc := t_.ev) (.k0 t_.pf (by kernel_rfl))
/-! ### card_Make_L0 -/
def card_Make_L0_st (l : List E_card_Field) (r : List E_card_Field) (n : Int) : Int → St
  | n2 => ⟨[(0, (.av (.one (.pv (.recs 3 (List.map E_card_Field.pv l) false))))), (2, (.av (.one (.ref 0 0)))), (8, (.av (.one (.pv (.recs 3 (List.map E_card_Field.pv r) false))))), (9, (.av (.one (.pv (.int .i64 n))))), (10, (.av (.one (.pv (.int .i64 n2)))))], [(0, [(.pv .nils)])], []⟩
def card_Make_L0_ex (l : List E_card_Field) (r : List E_card_Field) (n : Int) : (Int) ⊕ (Unit) → Ex × St
  | .inl r1 => (.ret, ⟨[(2, (.av (.one (.ref 0 0)))), (3, (.av (.one (.pv (.int .i64 r1)))))], [(0, [(.pv .nils)])], []⟩)
  | .inr _ => ((.exit 0), ⟨[(0, (.av (.one (.pv (.recs 3 (List.map E_card_Field.pv l) false))))), (2, (.av (.one (.ref 0 0))))], [(0, [(.pv .nils)])], []⟩)
noncomputable def card_Make_L0_step (l : List E_card_Field) (r : List E_card_Field) (n : Int) : Int → Option ((Int) ⊕ ((Int) ⊕ (Unit)))
  | n2 =>
  bif (decide ((n2 : Int) < n)) then
    bif decide ((0 : Int) ≤ n2) && decide ((n2 : Int) < (((List.map E_card_Field.pv r)).length : Int)) then
    (r[(n2).toNat]?).bind fun e_ => match e_ with
    | .mk n3 s s2 =>
    (card_Field_Right n3 s s2).bind fun n4 =>
    bif (decide ((n4 : Int) = 0)) then
      some (.inl (iadd .i64 n2 1))
    else
      some (.inr (.inl n4))
    else none
  else
    some (.inr (.inr ()))
theorem card_Make_L0_ok (l : List E_card_Field) (r : List E_card_Field) (n : Int) (n2 : Int) (z_ : (Int) ⊕ ((Int) ⊕ (Unit))) (h : card_Make_L0_step l r n n2 = some z_) : RoundOk Tryd.prog cfg 8 0 (loopAt Tryd.prog 8 0) (card_Make_L0_st l r n) (card_Make_L0_ex l r n) n2 z_ := by
  rcases cond_of h with ⟨h1, h⟩ | ⟨h1, h⟩
  · obtain ⟨h2, h⟩ := need_of h
    obtain ⟨⟨n3, s, s2⟩, h3, h⟩ := bind_of h
    obtain ⟨n4, h4, h⟩ := bind_of h
    rcases cond_of h with ⟨h5, h⟩ | ⟨h5, h⟩
    · have h := some_of h
      subst h
      have t_ := tT h1 <| tO h2 <| tE (.el [(.int .i64 n3), (.str s), (.str s2)]) <| tO (el_of (f := E_card_Field.pv) h3) <| tR (card_Field_Right_runs n3 s s2 _ h4) <| tF (not_of2 h5) <| tN
      exact ⟨t_.ev, card_Make_L0_st l r n (iadd .i64 n2 1), .k0 t_.pf (by kernel_rfl), .same (by kernel_rfl)⟩
    · have h := some_of h
      subst h
      have t_ := tT h1 <| tO h2 <| tE (.el [(.int .i64 n3), (.str s), (.str s2)]) <| tO (el_of (f := E_card_Field.pv) h3) <| tR (card_Field_Right_runs n3 s s2 _ h4) <| tT (not_of h5) <| tN
      exact ⟨t_.ev, (card_Make_L0_ex l r n (.inl n4)).2, .k0 t_.pf (by kernel_rfl), .same (by kernel_rfl)⟩
  · have h := some_of h
    subst h
    have t_ := tF h1 <| tN
    exact ⟨t_.ev, ⟨[(11, (.av (.one (.pv (.bool false))))), (0, (.av (.one (.pv (.recs 3 (List.map E_card_Field.pv l) false))))), (2, (.av (.one (.ref 0 0)))), (8, (.av (.one (.pv (.recs 3 (List.map E_card_Field.pv r) false))))), (9, (.av (.one (.pv (.int .i64 n))))), (10, (.av (.one (.pv (.int .i64 n2))))), (11, (.av (.one (.pv (.bool (decide ((n2 : Int) < n)))))))], [(0, [(.pv .nils)])], []⟩, .k0 t_.pf (by kernel_rfl), ⟨⟨⟨_, rfl, .eq rfl⟩, ⟨_, rfl, .eq rfl⟩, trivial⟩, ⟨⟨rfl, ⟨.eq rfl, trivial⟩⟩, trivial⟩, trivial⟩⟩
theorem card_Make_L0_runs (l : List E_card_Field) (r : List E_card_Field) (n : Int) (s_ : Int) (r_ : (Int) ⊕ (Unit)) (h : runL (card_Make_L0_step l r n) s_ = some r_) : LRuns Tryd.prog (lEnv Tryd.prog cfg 8 0).nt 0 (.loop (loopAt Tryd.prog 8 0)) (card_Make_L0_st l r n s_) (card_Make_L0_ex l r n r_).1 (card_Make_L0_ex l r n r_).2 :=
  loop_run h (card_Make_L0_ok l r n) (by intro r_; rcases r_ with r1 | _ <;> simp [card_Make_L0_ex])
/-! ### card_made_out -/
def card_made_out (l : List E_card_Field) : List E_card_Field → Res
  | r1 => ([(.agg [(.pv (.recs 3 (List.map E_card_Field.pv r1) false))])], [], [])
/-! ### slices_Compact_card_Field_out -/
def slices_Compact_card_Field_out (s : Nat) (s2 : Nat) (r : List E_card_Field) : Nat × Nat × List E_card_Field → Res
  | (r1, r2, r3) => ([(.one (.own 0 r1 r2 false))], [], [(.recs 3 (List.map E_card_Field.pv r3))])
/-! ### slices_Compact_card_Field_L1_2 -/
def slices_Compact_card_Field_L1_2_st (s : Nat) (s2 : Nat) (s22 : Nat) (s23 : Nat) : Int × Int × List E_card_Field → St
  | (k, k2, r) => ⟨[(0, (.av (.one (.own 0 s s2 false)))), (3, (.av (.one (.pv (.int .i64 k))))), (4, (.av (.one (.own 0 s22 s23 false)))), (5, (.av (.one (.pv (.int .i64 k2)))))], [], [(0, (.live (.recs 3 (List.map E_card_Field.pv r))))]⟩
def slices_Compact_card_Field_L1_2_ex (s : Nat) (s2 : Nat) (s22 : Nat) (s23 : Nat) : Int × List E_card_Field → Ex × St
  | (r1, r2) => ((.exit 2), ⟨[(0, (.av (.one (.own 0 s s2 false)))), (3, (.av (.one (.pv (.int .i64 r1)))))], [], [(0, (.live (.recs 3 (List.map E_card_Field.pv r2))))]⟩)
noncomputable def slices_Compact_card_Field_L1_2_step (s : Nat) (s2 : Nat) (s22 : Nat) (s23 : Nat) : Int × Int × List E_card_Field → Option ((Int × Int × List E_card_Field) ⊕ (Int × List E_card_Field))
  | (k, k2, r) =>
  bif (decide ((k2 : Int) < (s23 : Int))) then
    bif decide ((0 : Int) ≤ k2) && decide ((k2 : Int) < (s23 : Int)) then
    bif decide ((0 : Int) ≤ (isub .i64 k2 1)) && decide (((isub .i64 k2 1) : Int) < (s23 : Int)) then
    (r[(s22 + (k2).toNat)]?).bind fun e_ => match e_ with
    | .mk n s3 s4 =>
    (r[(s22 + ((isub .i64 k2 1)).toNat)]?).bind fun e_ => match e_ with
    | .mk n2 s5 s6 =>
    bif ((decide ((n : Int) = n2)) && ((decide ((s3 : ByteArray) = s5)) && ((decide ((s4 : ByteArray) = s6)) && true))) then
      some (.inl (k, (iadd .i64 k2 1), r))
    else
      bif decide ((0 : Int) ≤ k) && decide ((k : Int) < (s2 : Int)) then
      some (.inl ((iadd .i64 k 1), (iadd .i64 k2 1), (r.set (s + (k).toNat) (E_card_Field.mk n s3 s4))))
      else none
    else none
    else none
  else
    some (.inr (k, r))
theorem slices_Compact_card_Field_L1_2_ok (s : Nat) (s2 : Nat) (s22 : Nat) (s23 : Nat) (s_ : Int × Int × List E_card_Field) (z_ : (Int × Int × List E_card_Field) ⊕ (Int × List E_card_Field)) (h : slices_Compact_card_Field_L1_2_step s s2 s22 s23 s_ = some z_) : RoundOk Tryd.prog cfg 40 0 (loopAt Tryd.prog 40 1) (slices_Compact_card_Field_L1_2_st s s2 s22 s23) (slices_Compact_card_Field_L1_2_ex s s2 s22 s23) s_ z_ := by
  rcases s_ with ⟨k, k2, r⟩
  rcases cond_of h with ⟨h1, h⟩ | ⟨h1, h⟩
  · obtain ⟨h2, h⟩ := need_of h
    obtain ⟨h3, h⟩ := need_of h
    obtain ⟨⟨n, s3, s4⟩, h4, h⟩ := bind_of h
    obtain ⟨⟨n2, s5, s6⟩, h5, h⟩ := bind_of h
    have p5_ := fun {sc_ : List Ev} {Q_ : Prop} (t_ : Tell sc_ Q_) => tT h1 <| tO h2 <| tO h3 <| tE (.el [(.int .i64 n), (.str s3), (.str s4)]) <| tO (el_of (f := E_card_Field.pv) h4) <| tE (.el [(.int .i64 n2), (.str s5), (.str s6)]) <| tO (el_of (f := E_card_Field.pv) h5) <| tE (.el [(.int .i64 n), (.str s3), (.str s4)]) <| tO (el_of (f := E_card_Field.pv) h4) <| tE (.el [(.int .i64 n2), (.str s5), (.str s6)]) <| tO (el_of (f := E_card_Field.pv) h5) <| t_
    rcases cond_of h with ⟨h6, h⟩ | ⟨h6, h⟩
    · have h := some_of h
      subst h
      have t_ := p5_ <| tF (not_of2 h6) <| tN
      exact ⟨t_.ev, slices_Compact_card_Field_L1_2_st s s2 s22 s23 (k, (iadd .i64 k2 1), r), .k1 t_.pf (by kernel_rfl) (by kernel_rfl), .same (by kernel_rfl)⟩
    · obtain ⟨h7, h⟩ := need_of h
      have h := some_of h
      subst h
      have t_ := p5_ <| tT (not_of h6) <| tO h2 <| tE (.el [(.int .i64 n), (.str s3), (.str s4)]) <| tO (el_of (f := E_card_Field.pv) h4) <| tO h7 <| tN
      exact ⟨t_.ev, ⟨[(0, (.av (.one (.own 0 s s2 false)))), (3, (.av (.one (.pv (.int .i64 (iadd .i64 k 1)))))), (4, (.av (.one (.own 0 s22 s23 false)))), (5, (.av (.one (.pv (.int .i64 (iadd .i64 k2 1))))))], [], [(0, (.live (.recs 3 ((List.map E_card_Field.pv r).set (s + (k).toNat) (setL ((List.map E_card_Field.pv r).getD (s + (k).toNat) []) 0 [(.int .i64 n), (.str s3), (.str s4)])))))]⟩, .k1 t_.pf (by kernel_rfl) (by kernel_rfl), ⟨⟨⟨_, rfl, .eq rfl⟩, ⟨_, rfl, .eq rfl⟩, ⟨_, rfl, .eq rfl⟩, ⟨_, rfl, .eq rfl⟩, trivial⟩, trivial, ⟨⟨rfl, .recs (.eq (by first | rfl | (simp only [List.take_length]; done) | (simp only [List.take_length, List.length_append, List.drop_zero, List.map_append, List.map_take, List.map_drop, List.map_replicate, List.map_cons, List.map_nil, List.append_nil, List.nil_append, E_card_Field.pv, E_card_Field.upd]; done) | (simp; done)))⟩, trivial⟩⟩⟩
  · have h := some_of h
    subst h
    have t_ := tF h1 <| tN
    exact ⟨t_.ev, ⟨[(32, (.av (.one (.pv (.bool false))))), (0, (.av (.one (.own 0 s s2 false)))), (3, (.av (.one (.pv (.int .i64 k))))), (4, (.av (.one (.own 0 s22 s23 false)))), (5, (.av (.one (.pv (.int .i64 k2))))), (32, (.av (.one (.pv (.bool (decide ((k2 : Int) < (s23 : Int))))))))], [], [(0, (.live (.recs 3 (List.map E_card_Field.pv r))))]⟩, .k0 t_.pf (by kernel_rfl), ⟨⟨⟨_, rfl, .eq rfl⟩, ⟨_, rfl, .eq rfl⟩, trivial⟩, trivial, ⟨⟨rfl, .eq rfl⟩, trivial⟩⟩⟩
theorem slices_Compact_card_Field_L1_2_runs (s : Nat) (s2 : Nat) (s22 : Nat) (s23 : Nat) (s_ : Int × Int × List E_card_Field) (r_ : Int × List E_card_Field) (h : runL (slices_Compact_card_Field_L1_2_step s s2 s22 s23) s_ = some r_) : LRuns Tryd.prog (lEnv Tryd.prog cfg 40 0).nt 0 (.loop (loopAt Tryd.prog 40 1)) (slices_Compact_card_Field_L1_2_st s s2 s22 s23 s_) (slices_Compact_card_Field_L1_2_ex s s2 s22 s23 r_).1 (slices_Compact_card_Field_L1_2_ex s s2 s22 s23 r_).2 :=
  loop_run h (slices_Compact_card_Field_L1_2_ok s s2 s22 s23) (by intro r_; rcases r_ with ⟨r1, r2⟩ <;> simp [slices_Compact_card_Field_L1_2_ex])
/-! ### slices_Compact_card_Field_L0 -/
def slices_Compact_card_Field_L0_st (s : Nat) (s2 : Nat) (r : List E_card_Field) : Int → St
  | k => ⟨[(0, (.av (.one (.own 0 s s2 false)))), (3, (.av (.one (.pv (.int .i64 k)))))], [], [(0, (.live (.recs 3 (List.map E_card_Field.pv r))))]⟩
def slices_Compact_card_Field_L0_ex (s : Nat) (s2 : Nat) (r : List E_card_Field) : (Nat × Nat × List E_card_Field) ⊕ (Unit) → Ex × St
  | .inl (r1, r2, r3) => (.ret, ⟨[(2, (.av (.one (.own 0 r1 r2 false))))], [], [(0, (.live (.recs 3 (List.map E_card_Field.pv r3))))]⟩)
  | .inr _ => ((.exit 0), ⟨[(0, (.av (.one (.own 0 s s2 false))))], [], [(0, (.live (.recs 3 (List.map E_card_Field.pv r))))]⟩)
noncomputable def slices_Compact_card_Field_L0_step (s : Nat) (s2 : Nat) (r : List E_card_Field) : Int → Option ((Int) ⊕ ((Nat × Nat × List E_card_Field) ⊕ (Unit)))
  | k =>
  bif (decide ((k : Int) < (s2 : Int))) then
    bif decide ((0 : Int) ≤ k) && decide ((k : Int) < (s2 : Int)) then
    bif decide ((0 : Int) ≤ (isub .i64 k 1)) && decide (((isub .i64 k 1) : Int) < (s2 : Int)) then
    (r[(s + (k).toNat)]?).bind fun e_ => match e_ with
    | .mk n s3 s4 =>
    (r[(s + ((isub .i64 k 1)).toNat)]?).bind fun e_ => match e_ with
    | .mk n2 s5 s6 =>
    bif ((decide ((n : Int) = n2)) && ((decide ((s3 : ByteArray) = s5)) && ((decide ((s4 : ByteArray) = s6)) && true))) then
      bif decide ((0 : Int) ≤ k) && decide ((k : Int) ≤ (s2 : Int)) && decide (((s2 : Int) : Int) ≤ (s2 : Int)) && decide (((s2 : Int) : Int) = (s2 : Int)) then
      (runL (slices_Compact_card_Field_L1_2_step s s2 (s + (k).toNat) (((s2 : Int) - k).toNat)) (k, 1, r)).bind fun (n3, r2) =>
      bif decide ((0 : Int) ≤ n3) && decide ((n3 : Int) ≤ (s2 : Int)) && decide (((s2 : Int) : Int) ≤ (s2 : Int)) && decide (((s2 : Int) : Int) = (s2 : Int)) then
      bif decide ((0 : Int) ≤ 0) && decide ((0 : Int) ≤ n3) && decide ((n3 : Int) ≤ (s2 : Int)) && decide ((n3 : Int) = n3) then
      some (.inr (.inl ((s + 0), (n3 - 0).toNat, (List.take (s + (n3).toNat) r2 ++ (List.replicate ((s2 : Int) - n3).toNat (E_card_Field.mk 0 (⟨#[]⟩ : ByteArray) (⟨#[]⟩ : ByteArray)) ++ List.drop ((s + (n3).toNat) + ((s2 : Int) - n3).toNat) r2)))))
      else none
      else none
      else none
    else
      some (.inl (iadd .i64 k 1))
    else none
    else none
  else
    some (.inr (.inr ()))
theorem slices_Compact_card_Field_L0_ok (s : Nat) (s2 : Nat) (r : List E_card_Field) (k : Int) (z_ : (Int) ⊕ ((Nat × Nat × List E_card_Field) ⊕ (Unit))) (h : slices_Compact_card_Field_L0_step s s2 r k = some z_) : RoundOk Tryd.prog cfg 40 0 (loopAt Tryd.prog 40 0) (slices_Compact_card_Field_L0_st s s2 r) (slices_Compact_card_Field_L0_ex s s2 r) k z_ := by
  rcases cond_of h with ⟨h1, h⟩ | ⟨h1, h⟩
  · obtain ⟨h2, h⟩ := need_of h
    obtain ⟨h3, h⟩ := need_of h
    obtain ⟨⟨n, s3, s4⟩, h4, h⟩ := bind_of h
    obtain ⟨⟨n2, s5, s6⟩, h5, h⟩ := bind_of h
    have p5_ := fun {sc_ : List Ev} {Q_ : Prop} (t_ : Tell sc_ Q_) => tT h1 <| tO h2 <| tO h3 <| tE (.el [(.int .i64 n), (.str s3), (.str s4)]) <| tO (el_of (f := E_card_Field.pv) h4) <| tE (.el [(.int .i64 n2), (.str s5), (.str s6)]) <| tO (el_of (f := E_card_Field.pv) h5) <| tE (.el [(.int .i64 n), (.str s3), (.str s4)]) <| tO (el_of (f := E_card_Field.pv) h4) <| tE (.el [(.int .i64 n2), (.str s5), (.str s6)]) <| tO (el_of (f := E_card_Field.pv) h5) <| t_
    rcases cond_of h with ⟨h6, h⟩ | ⟨h6, h⟩
    · obtain ⟨h7, h⟩ := need_of h
      obtain ⟨⟨n3, r2⟩, h8, h⟩ := bind_of h
      obtain ⟨h9, h⟩ := need_of h
      obtain ⟨h10, h⟩ := need_of h
      have h := some_of h
      subst h
      have t_ := p5_ <| tT h6 <| tO h7 <| tL (slices_Compact_card_Field_L1_2_runs s s2 (s + (k).toNat) (((s2 : Int) - k).toNat) _ _ h8) <| tO h9 <| tO h10 <| tN
      exact ⟨t_.ev, ⟨[(2, (.av (.one (.own 0 (s + 0) (n3 - 0).toNat false))))], [], [(0, (.live (.recs 3 (List.take (s + (n3).toNat) (List.map E_card_Field.pv r2) ++ (List.replicate ((s2 : Int) - n3).toNat [(.int .i64 0), (.str (⟨#[]⟩ : ByteArray)), (.str (⟨#[]⟩ : ByteArray))] ++ List.drop ((s + (n3).toNat) + ((s2 : Int) - n3).toNat) (List.map E_card_Field.pv r2))))))]⟩, .k1 t_.pf (by kernel_rfl) (by kernel_rfl), ⟨⟨⟨_, rfl, .eq rfl⟩, trivial⟩, trivial, ⟨⟨rfl, .recs (.eq (by first | rfl | (simp only [List.take_length]; done) | (simp only [List.take_length, List.length_append, List.drop_zero, List.map_append, List.map_take, List.map_drop, List.map_replicate, List.map_cons, List.map_nil, List.append_nil, List.nil_append, E_card_Field.pv, E_card_Field.upd]; done) | (simp; done)))⟩, trivial⟩⟩⟩
    · have h := some_of h
      subst h
      have t_ := p5_ <| tF h6 <| tN
      exact ⟨t_.ev, slices_Compact_card_Field_L0_st s s2 r (iadd .i64 k 1), .k1 t_.pf (by kernel_rfl) (by kernel_rfl), .same (by kernel_rfl)⟩
  · have h := some_of h
    subst h
    have t_ := tF h1 <| tN
    exact ⟨t_.ev, ⟨[(13, (.av (.one (.pv (.bool false))))), (0, (.av (.one (.own 0 s s2 false)))), (3, (.av (.one (.pv (.int .i64 k))))), (13, (.av (.one (.pv (.bool (decide ((k : Int) < (s2 : Int))))))))], [], [(0, (.live (.recs 3 (List.map E_card_Field.pv r))))]⟩, .k0 t_.pf (by kernel_rfl), ⟨⟨⟨_, rfl, .eq rfl⟩, trivial⟩, trivial, ⟨⟨rfl, .eq rfl⟩, trivial⟩⟩⟩
theorem slices_Compact_card_Field_L0_runs (s : Nat) (s2 : Nat) (r : List E_card_Field) (s_ : Int) (r_ : (Nat × Nat × List E_card_Field) ⊕ (Unit)) (h : runL (slices_Compact_card_Field_L0_step s s2 r) s_ = some r_) : LRuns Tryd.prog (lEnv Tryd.prog cfg 40 0).nt 0 (.loop (loopAt Tryd.prog 40 0)) (slices_Compact_card_Field_L0_st s s2 r s_) (slices_Compact_card_Field_L0_ex s s2 r r_).1 (slices_Compact_card_Field_L0_ex s s2 r r_).2 :=
  loop_run h (slices_Compact_card_Field_L0_ok s s2 r) (by intro r_; rcases r_ with ⟨r1, r2, r3⟩ | _ <;> simp [slices_Compact_card_Field_L0_ex])
/-! ### slices_Compact_card_Field -/
noncomputable def slices_Compact_card_Field (s : Nat) (s2 : Nat) (r : List E_card_Field) : Option (Nat × Nat × List E_card_Field) :=
  bif (decide (((s2 : Int) : Int) < 2)) then
    some (s, s2, r)
  else
    (runL (slices_Compact_card_Field_L0_step s s2 r) 1).bind fun z_ => match z_ with
    | .inl (k, k2, r2) =>
      some (k, k2, r2)
    | .inr _ =>
      some (s, s2, r)
theorem slices_Compact_card_Field_runs (s : Nat) (s2 : Nat) (r : List E_card_Field) (r_ : Nat × Nat × List E_card_Field) (h : slices_Compact_card_Field s s2 r = some r_) : Runs Tryd.prog 40 [(.one (.own 0 s s2 false))] [] [(.recs 3 (List.map E_card_Field.pv r))] (slices_Compact_card_Field_out s s2 r r_) := by
  unfold slices_Compact_card_Field at h
  rcases cond_of h with ⟨h1, h⟩ | ⟨h1, h⟩
  · have h := some_of h
    subst h
    have t_ := tT h1 <| tN
    exact runs_of (C := cfg) (objs := []) (sc := t_.ev) (.k0 t_.pf (by kernel_rfl))
  · obtain ⟨z_, h2, h⟩ := bind_of h
    rcases z_ with ⟨k, k2, r2⟩ | _
    · have h := some_of h
      subst h
      have t_ := tF h1 <| tL (slices_Compact_card_Field_L0_runs s s2 r _ _ h2) <| tN
      exact runs_of (C := cfg) (objs := []) (sc := t_.ev) (.k0 t_.pf (by kernel_rfl))
    · have h := some_of h
      subst h
      have t_ := tF h1 <| tL (slices_Compact_card_Field_L0_runs s s2 r _ _ h2) <| tN
      exact runs_of (C := cfg) (objs := []) (sc := t_.ev) (.k0 t_.pf (by kernel_rfl))
/-! ### card_made -/
noncomputable def card_made (l : List E_card_Field) : Option (List E_card_Field) :=
  (slices_Clone_card_Field l).bind fun _ =>
  (slices_SortFunc l).bind fun r =>
  (slices_Compact_card_Field 0 (((List.map E_card_Field.pv l)).length) r).bind fun (k, k2, r2) =>
  some (List.take k2 (List.drop k r2))
theorem card_made_runs (l : List E_card_Field) (r_ : List E_card_Field) (h : card_made l = some r_) : Runs Tryd.prog 24 [(.one (.pv (.recs 3 (List.map E_card_Field.pv l) false)))] [] [] (card_made_out l r_) := by
  unfold card_made at h
  obtain ⟨_, h1, h⟩ := bind_of h
  obtain ⟨r, h2, h⟩ := bind_of h
  obtain ⟨⟨k, k2, r2⟩, h3, h⟩ := bind_of h
  have h := some_of h
  subst h
  have t_ := tR (slices_Clone_card_Field_runs l _ h1) <| tE (.el []) <| tE (.res (slices_SortFunc_out l r)) <| tO (slices_SortFunc_runs l _ h2) <| tR (slices_Compact_card_Field_runs 0 (((List.map E_card_Field.pv l)).length) r _ h3) <| tN
  have e_ : Runs Tryd.prog 24 [(.one (.pv (.recs 3 (List.map E_card_Field.pv l) false)))] [] [] ([(.agg [(.own 0 k k2 false)])], [], [(.recs 3 (List.map E_card_Field.pv r2))]) := runs_of (C := cfg) (objs := []) (sc := t_.ev) (.k0 t_.pf (by kernel_rfl))
  have e_ := e_.shut (res' := ([(.agg [(.pv (.recs 3 (List.take k2 (List.drop k (List.map E_card_Field.pv r2))) false))])], [], [])) [0] (by kernel_rfl)
  exact e_.out ⟨⟨.pv (.recsT (.eq (by first | rfl | (simp only [List.take_length]; done) | (simp only [List.take_length, List.length_append, List.drop_zero, List.map_append, List.map_take, List.map_drop, List.map_replicate, List.map_cons, List.map_nil, List.append_nil, List.nil_append, E_card_Field.pv, E_card_Field.upd]; done) | (simp; done)))), trivial⟩, trivial⟩ trivial trivial rfl
/-! ### card_Card_Len_out -/
def card_Card_Len_out (c : List E_card_Field) : Int → Res
  | r1 => ([(.one (.pv (.int .i64 r1)))], [], [])
/-! ### card_Card_Len -/
noncomputable def card_Card_Len (c : List E_card_Field) : Option (Int) :=
  some (((List.map E_card_Field.pv c)).length : Int)
theorem card_Card_Len_runs (c : List E_card_Field) (r_ : Int) (h : card_Card_Len c = some r_) : Runs Tryd.prog 13 [(.agg [(.pv (.recs 3 (List.map E_card_Field.pv c) false))])] [] [] (card_Card_Len_out c r_) := by
  unfold card_Card_Len at h
  have h := some_of h
  subst h
  have t_ := tN
  exact runs_of (C := cfg) (objs := []) (sc := t_.ev) (.k0 t_.pf (by kernel_rfl))
/-! ### card_Make -/
noncomputable def card_Make (l : List E_card_Field) : Option (List E_card_Field × Int) :=
  (runL (card_Make_L0_step l l (((List.map E_card_Field.pv l)).length : Int)) 0).bind fun z_ => match z_ with
  | .inl n =>
    some ([], n)
  | .inr _ =>
    (card_made l).bind fun r =>
    (card_Card_Len r).bind fun n =>
    bif (decide ((8 : Int) < n)) then
      some ([], 8)
    else
      some (r, 0)
theorem card_Make_runs (l : List E_card_Field) (r_ : List E_card_Field × Int) (h : card_Make l = some r_) : Runs Tryd.prog 8 [(.one (.pv (.recs 3 (List.map E_card_Field.pv l) false)))] [] [] (card_Make_out l r_) := by
  unfold card_Make at h
  obtain ⟨z_, h1, h⟩ := bind_of h
  rcases z_ with n | _
  · have h := some_of h
    subst h
    have t_ := tL (card_Make_L0_runs l l (((List.map E_card_Field.pv l)).length : Int) _ _ h1) <| tN
    have e_ : Runs Tryd.prog 8 [(.one (.pv (.recs 3 (List.map E_card_Field.pv l) false)))] [] [] ([(.agg [(.pv .nils)]), (.one (.pv (.int .i64 n)))], [], []) := runs_of (C := cfg) (objs := []) (sc := t_.ev) (.k0 t_.pf (by kernel_rfl))
    exact e_.out ⟨⟨.pv (.nilsR), trivial⟩, .eq rfl, trivial⟩ trivial trivial rfl
  · have q_1 := (card_Make_L0_runs l l (((List.map E_card_Field.pv l)).length : Int) _ _ h1)
    obtain ⟨r, h2, h⟩ := bind_of h
    obtain ⟨n, h3, h⟩ := bind_of h
    rcases cond_of h with ⟨h4, h⟩ | ⟨h4, h⟩
    · have h := some_of h
      subst h
      have t_ := tL q_1 <| tR (card_made_runs l _ h2) <| tR (card_Card_Len_runs r _ h3) <| tT h4 <| tN
      have e_ : Runs Tryd.prog 8 [(.one (.pv (.recs 3 (List.map E_card_Field.pv l) false)))] [] [] ([(.agg [(.pv .nils)]), (.one (.pv (.int .i64 8)))], [], []) := runs_of (C := cfg) (objs := []) (sc := t_.ev) (.k0 t_.pf (by kernel_rfl))
      exact e_.out ⟨⟨.pv (.nilsR), trivial⟩, .eq rfl, trivial⟩ trivial trivial rfl
    · have h := some_of h
      subst h
      have t_ := tL q_1 <| tR (card_made_runs l _ h2) <| tR (card_Card_Len_runs r _ h3) <| tF h4 <| tN
      exact runs_of (C := cfg) (objs := []) (sc := t_.ev) (.k0 t_.pf (by kernel_rfl))
/-! ### card_Card_Title_out -/
def card_Card_Title_out (c : List E_card_Field) : ByteArray → Res
  | r1 => ([(.one (.pv (.str r1)))], [], [])
/-! ### card_Card_Of_out -/
def card_Card_Of_out (c : List E_card_Field) (kind : Int) : List E_card_Field → Res
  | r1 => ([(.one (.pv (.recs 3 (List.map E_card_Field.pv r1) false)))], [], [])
/-! ### card_Card_Fields_out -/
def card_Card_Fields_out (c : List E_card_Field) : Unit → Res
  | _ => ([(.one (.own 0 0 ((List.map E_card_Field.pv c)).length false))], [], [(.recs 3 (List.map E_card_Field.pv c))])
/-! ### card_Card_Fields -/
noncomputable def card_Card_Fields (c : List E_card_Field) : Option (Unit) :=
  (slices_Clone_card_Field c).bind fun _ =>
  some ()
theorem card_Card_Fields_runs (c : List E_card_Field) (r_ : Unit) (h : card_Card_Fields c = some r_) : Runs Tryd.prog 12 [(.agg [(.pv (.recs 3 (List.map E_card_Field.pv c) false))])] [] [] (card_Card_Fields_out c r_) := by
  unfold card_Card_Fields at h
  obtain ⟨_, h1, h⟩ := bind_of h
  have h := some_of h
  subst h
  have t_ := tR (slices_Clone_card_Field_runs c _ h1) <| tN
  exact runs_of (C := cfg) (objs := []) (sc := t_.ev) (.k0 t_.pf (by kernel_rfl))
/-! ### slices_DeleteFunc_card_Field_out -/
def slices_DeleteFunc_card_Field_out (n : Int) (r : List E_card_Field) : (Unit) ⊕ (Nat × List E_card_Field) → Res
  | .inl _ => ([(.one (.own 0 0 ((List.map E_card_Field.pv r)).length false))], [[(.pv (.int .i64 n))]], [(.recs 3 (List.map E_card_Field.pv r))])
  | .inr (r1, r2) => ([(.one (.own 0 0 r1 false))], [[(.pv (.int .i64 n))]], [(.recs 3 (List.map E_card_Field.pv r2))])
/-! ### slices_IndexFunc_card_Field_out -/
def slices_IndexFunc_card_Field_out (s : List E_card_Field) (n : Int) : Int → Res
  | r1 => ([(.one (.pv (.int .i64 r1)))], [[(.pv (.int .i64 n))]], [])
/-! ### card_Card_Of_1_out -/
def card_Card_Of_1_out (f : Int) (f2 : ByteArray) (f3 : ByteArray) (n : Int) : Bool → Res
  | r1 => ([(.one (.pv (.bool r1)))], [[(.pv (.int .i64 n))]], [])
/-! ### card_Card_Of_1 -/
noncomputable def card_Card_Of_1 (f : Int) (f2 : ByteArray) (f3 : ByteArray) (n : Int) : Option (Bool) :=
  some (!(decide ((f : Int) = n)))
theorem card_Card_Of_1_runs (f : Int) (f2 : ByteArray) (f3 : ByteArray) (n : Int) (r_ : Bool) (h : card_Card_Of_1 f f2 f3 n = some r_) : Runs Tryd.prog 36 [(.agg [(.pv (.int .i64 f)), (.pv (.str f2)), (.pv (.str f3))]), (.one (.ref 0 0))] [[(.pv (.int .i64 n))]] [] (card_Card_Of_1_out f f2 f3 n r_) := by
  unfold card_Card_Of_1 at h
  have h := some_of h
  subst h
  have t_ := tN
  exact runs_of (C := cfg) (objs := [[(.pv (.int .i64 n))]]) (sc := t_.ev) (.k0 t_.pf (by kernel_rfl))
/-! ### slices_IndexFunc_card_Field_L0 -/
def slices_IndexFunc_card_Field_L0_st (s : List E_card_Field) (n : Int) (n2 : Int) : Int → St
  | n3 => ⟨[(0, (.av (.one (.bor (.recs 3 (List.map E_card_Field.pv s) false))))), (1, (.av (.one (.fn 36 [(.ref 0 0)])))), (7, (.av (.one (.pv (.int .i64 n))))), (8, (.av (.one (.pv (.int .i64 n3)))))], [(0, [(.pv (.int .i64 n2))])], []⟩
def slices_IndexFunc_card_Field_L0_ex (s : List E_card_Field) (n : Int) (n2 : Int) : (Int) ⊕ (Unit) → Ex × St
  | .inl r1 => (.ret, ⟨[(4, (.av (.one (.pv (.int .i64 r1)))))], [(0, [(.pv (.int .i64 n2))])], []⟩)
  | .inr _ => ((.exit 0), ⟨[], [(0, [(.pv (.int .i64 n2))])], []⟩)
noncomputable def slices_IndexFunc_card_Field_L0_step (s : List E_card_Field) (n : Int) (n2 : Int) : Int → Option ((Int) ⊕ ((Int) ⊕ (Unit)))
  | n3 =>
  bif (decide ((n3 : Int) < n)) then
    bif decide ((0 : Int) ≤ n3) && decide ((n3 : Int) < (((List.map E_card_Field.pv s)).length : Int)) then
    (s[(n3).toNat]?).bind fun e_ => match e_ with
    | .mk n4 s2 s3 =>
    (card_Card_Of_1 n4 s2 s3 n2).bind fun b =>
    bif b then
      some (.inr (.inl n3))
    else
      some (.inl (iadd .i64 n3 1))
    else none
  else
    some (.inr (.inr ()))
theorem slices_IndexFunc_card_Field_L0_ok (s : List E_card_Field) (n : Int) (n2 : Int) (n3 : Int) (z_ : (Int) ⊕ ((Int) ⊕ (Unit))) (h : slices_IndexFunc_card_Field_L0_step s n n2 n3 = some z_) : RoundOk Tryd.prog cfg 51 1 (loopAt Tryd.prog 51 0) (slices_IndexFunc_card_Field_L0_st s n n2) (slices_IndexFunc_card_Field_L0_ex s n n2) n3 z_ := by
  rcases cond_of h with ⟨h1, h⟩ | ⟨h1, h⟩
  · obtain ⟨h2, h⟩ := need_of h
    obtain ⟨⟨n4, s2, s3⟩, h3, h⟩ := bind_of h
    obtain ⟨b, h4, h⟩ := bind_of h
    rcases cond_of h with ⟨h5, h⟩ | ⟨h5, h⟩
    · have h := some_of h
      subst h
      have t_ := tT h1 <| tO h2 <| tE (.el [(.int .i64 n4), (.str s2), (.str s3)]) <| tO (el_of (f := E_card_Field.pv) h3) <| tR (card_Card_Of_1_runs n4 s2 s3 n2 _ h4) <| tT h5 <| tN
      exact ⟨t_.ev, (slices_IndexFunc_card_Field_L0_ex s n n2 (.inl n3)).2, .k0 t_.pf (by kernel_rfl), .same (by kernel_rfl)⟩
    · have h := some_of h
      subst h
      have t_ := tT h1 <| tO h2 <| tE (.el [(.int .i64 n4), (.str s2), (.str s3)]) <| tO (el_of (f := E_card_Field.pv) h3) <| tR (card_Card_Of_1_runs n4 s2 s3 n2 _ h4) <| tF h5 <| tN
      exact ⟨t_.ev, slices_IndexFunc_card_Field_L0_st s n n2 (iadd .i64 n3 1), .k0 t_.pf (by kernel_rfl), .same (by kernel_rfl)⟩
  · have h := some_of h
    subst h
    have t_ := tF h1 <| tN
    exact ⟨t_.ev, ⟨[(9, (.av (.one (.pv (.bool false))))), (0, (.av (.one (.bor (.recs 3 (List.map E_card_Field.pv s) false))))), (1, (.av (.one (.fn 36 [(.ref 0 0)])))), (7, (.av (.one (.pv (.int .i64 n))))), (8, (.av (.one (.pv (.int .i64 n3))))), (9, (.av (.one (.pv (.bool (decide ((n3 : Int) < n)))))))], [(0, [(.pv (.int .i64 n2))])], []⟩, .k0 t_.pf (by kernel_rfl), ⟨trivial, ⟨⟨rfl, ⟨.eq rfl, trivial⟩⟩, trivial⟩, trivial⟩⟩
theorem slices_IndexFunc_card_Field_L0_runs (s : List E_card_Field) (n : Int) (n2 : Int) (s_ : Int) (r_ : (Int) ⊕ (Unit)) (h : runL (slices_IndexFunc_card_Field_L0_step s n n2) s_ = some r_) : LRuns Tryd.prog (lEnv Tryd.prog cfg 51 1).nt 1 (.loop (loopAt Tryd.prog 51 0)) (slices_IndexFunc_card_Field_L0_st s n n2 s_) (slices_IndexFunc_card_Field_L0_ex s n n2 r_).1 (slices_IndexFunc_card_Field_L0_ex s n n2 r_).2 :=
  loop_run h (slices_IndexFunc_card_Field_L0_ok s n n2) (by intro r_; rcases r_ with r1 | _ <;> simp [slices_IndexFunc_card_Field_L0_ex])
/-! ### slices_IndexFunc_card_Field -/
noncomputable def slices_IndexFunc_card_Field (s : List E_card_Field) (n : Int) : Option (Int) :=
  (runL (slices_IndexFunc_card_Field_L0_step s (((List.map E_card_Field.pv s)).length : Int) n) 0).bind fun z_ => match z_ with
  | .inl n2 =>
    some n2
  | .inr _ =>
    some (-1)
theorem slices_IndexFunc_card_Field_runs (s : List E_card_Field) (n : Int) (r_ : Int) (h : slices_IndexFunc_card_Field s n = some r_) : Runs Tryd.prog 51 [(.one (.bor (.recs 3 (List.map E_card_Field.pv s) false))), (.one (.fn 36 [(.ref 0 0)]))] [[(.pv (.int .i64 n))]] [] (slices_IndexFunc_card_Field_out s n r_) := by
  unfold slices_IndexFunc_card_Field at h
  obtain ⟨z_, h1, h⟩ := bind_of h
  rcases z_ with n2 | _
  · have h := some_of h
    subst h
    have t_ := tL (slices_IndexFunc_card_Field_L0_runs s (((List.map E_card_Field.pv s)).length : Int) n _ _ h1) <| tN
    exact runs_of (C := cfg) (objs := [[(.pv (.int .i64 n))]]) (sc := t_.ev) (.k0 t_.pf (by kernel_rfl))
  · have h := some_of h
    subst h
    have t_ := tL (slices_IndexFunc_card_Field_L0_runs s (((List.map E_card_Field.pv s)).length : Int) n _ _ h1) <| tN
    exact runs_of (C := cfg) (objs := [[(.pv (.int .i64 n))]]) (sc := t_.ev) (.k0 t_.pf (by kernel_rfl))
/-! ### slices_DeleteFunc_card_Field_L0 -/
def slices_DeleteFunc_card_Field_L0_st (n : Int) : Int × Int × List E_card_Field → St
  | (i, j, r) => ⟨[(0, (.av (.one (.own 0 0 ((List.map E_card_Field.pv r)).length false)))), (1, (.av (.one (.fn 36 [(.ref 0 0)])))), (5, (.av (.one (.pv (.int .i64 i))))), (6, (.av (.one (.pv (.int .i64 j)))))], [(0, [(.pv (.int .i64 n))])], [(0, (.live (.recs 3 (List.map E_card_Field.pv r))))]⟩
def slices_DeleteFunc_card_Field_L0_ex (n : Int) : Int × List E_card_Field → Ex × St
  | (r1, r2) => ((.exit 0), ⟨[(0, (.av (.one (.own 0 0 ((List.map E_card_Field.pv r2)).length false)))), (5, (.av (.one (.pv (.int .i64 r1)))))], [(0, [(.pv (.int .i64 n))])], [(0, (.live (.recs 3 (List.map E_card_Field.pv r2))))]⟩)
noncomputable def slices_DeleteFunc_card_Field_L0_step (n : Int) : Int × Int × List E_card_Field → Option ((Int × Int × List E_card_Field) ⊕ (Int × List E_card_Field))
  | (i, j, r) =>
  bif (decide ((j : Int) < (((List.map E_card_Field.pv r)).length : Int))) then
    bif decide ((0 : Int) ≤ j) && decide ((j : Int) < (((List.map E_card_Field.pv r)).length : Int)) then
    (r[(0 + (j).toNat)]?).bind fun e_ => match e_ with
    | .mk n2 s s2 =>
    (card_Card_Of_1 n2 s s2 n).bind fun b =>
    bif b then
      some (.inl (i, (iadd .i64 j 1), r))
    else
      bif decide ((0 : Int) ≤ i) && decide ((i : Int) < (((List.map E_card_Field.pv r)).length : Int)) then
      some (.inl ((iadd .i64 i 1), (iadd .i64 j 1), (r.set (0 + (i).toNat) (E_card_Field.mk n2 s s2))))
      else none
    else none
  else
    some (.inr (i, r))
theorem slices_DeleteFunc_card_Field_L0_ok (n : Int) (s_ : Int × Int × List E_card_Field) (z_ : (Int × Int × List E_card_Field) ⊕ (Int × List E_card_Field)) (h : slices_DeleteFunc_card_Field_L0_step n s_ = some z_) : RoundOk Tryd.prog cfg 35 1 (loopAt Tryd.prog 35 0) (slices_DeleteFunc_card_Field_L0_st n) (slices_DeleteFunc_card_Field_L0_ex n) s_ z_ := by
  rcases s_ with ⟨i, j, r⟩
  rcases cond_of h with ⟨h1, h⟩ | ⟨h1, h⟩
  · obtain ⟨h2, h⟩ := need_of h
    obtain ⟨⟨n2, s, s2⟩, h3, h⟩ := bind_of h
    obtain ⟨b, h4, h⟩ := bind_of h
    rcases cond_of h with ⟨h5, h⟩ | ⟨h5, h⟩
    · have h := some_of h
      subst h
      have t_ := tT h1 <| tO h2 <| tE (.el [(.int .i64 n2), (.str s), (.str s2)]) <| tO (el_of (f := E_card_Field.pv) h3) <| tR (card_Card_Of_1_runs n2 s s2 n _ h4) <| tF (not_of2 h5) <| tN
      exact ⟨t_.ev, slices_DeleteFunc_card_Field_L0_st n (i, (iadd .i64 j 1), r), .k0 t_.pf (by kernel_rfl), .same (by kernel_rfl)⟩
    · obtain ⟨h6, h⟩ := need_of h
      have h := some_of h
      subst h
      have t_ := tT h1 <| tO h2 <| tE (.el [(.int .i64 n2), (.str s), (.str s2)]) <| tO (el_of (f := E_card_Field.pv) h3) <| tR (card_Card_Of_1_runs n2 s s2 n _ h4) <| tT (not_of h5) <| tO h6 <| tN
      exact ⟨t_.ev, ⟨[(0, (.av (.one (.own 0 0 ((List.map E_card_Field.pv r)).length false)))), (1, (.av (.one (.fn 36 [(.ref 0 0)])))), (5, (.av (.one (.pv (.int .i64 (iadd .i64 i 1)))))), (6, (.av (.one (.pv (.int .i64 (iadd .i64 j 1))))))], [(0, [(.pv (.int .i64 n))])], [(0, (.live (.recs 3 ((List.map E_card_Field.pv r).set (0 + (i).toNat) (setL ((List.map E_card_Field.pv r).getD (0 + (i).toNat) []) 0 [(.int .i64 n2), (.str s), (.str s2)])))))]⟩, .k0 t_.pf (by kernel_rfl), ⟨⟨⟨_, rfl, .own (by first | rfl | (simp only [List.take_length]; done) | (simp only [List.take_length, List.length_append, List.drop_zero, List.map_append, List.map_take, List.map_drop, List.map_replicate, List.map_cons, List.map_nil, List.append_nil, List.nil_append, E_card_Field.pv, E_card_Field.upd]; done) | (simp; done))⟩, ⟨_, rfl, .eq rfl⟩, ⟨_, rfl, .eq rfl⟩, ⟨_, rfl, .eq rfl⟩, trivial⟩, ⟨⟨rfl, ⟨.eq rfl, trivial⟩⟩, trivial⟩, ⟨⟨rfl, .recs (.eq (by first | rfl | (simp only [List.take_length]; done) | (simp only [List.take_length, List.length_append, List.drop_zero, List.map_append, List.map_take, List.map_drop, List.map_replicate, List.map_cons, List.map_nil, List.append_nil, List.nil_append, E_card_Field.pv, E_card_Field.upd]; done) | (simp; done)))⟩, trivial⟩⟩⟩
  · have h := some_of h
    subst h
    have t_ := tF h1 <| tN
    exact ⟨t_.ev, ⟨[(19, (.av (.one (.pv (.bool false))))), (0, (.av (.one (.own 0 0 ((List.map E_card_Field.pv r)).length false)))), (1, (.av (.one (.fn 36 [(.ref 0 0)])))), (5, (.av (.one (.pv (.int .i64 i))))), (6, (.av (.one (.pv (.int .i64 j))))), (19, (.av (.one (.pv (.bool (decide ((j : Int) < (((List.map E_card_Field.pv r)).length : Int))))))))], [(0, [(.pv (.int .i64 n))])], [(0, (.live (.recs 3 (List.map E_card_Field.pv r))))]⟩, .k0 t_.pf (by kernel_rfl), ⟨⟨⟨_, rfl, .eq rfl⟩, ⟨_, rfl, .eq rfl⟩, trivial⟩, ⟨⟨rfl, ⟨.eq rfl, trivial⟩⟩, trivial⟩, ⟨⟨rfl, .eq rfl⟩, trivial⟩⟩⟩
theorem slices_DeleteFunc_card_Field_L0_runs (n : Int) (s_ : Int × Int × List E_card_Field) (r_ : Int × List E_card_Field) (h : runL (slices_DeleteFunc_card_Field_L0_step n) s_ = some r_) : LRuns Tryd.prog (lEnv Tryd.prog cfg 35 1).nt 1 (.loop (loopAt Tryd.prog 35 0)) (slices_DeleteFunc_card_Field_L0_st n s_) (slices_DeleteFunc_card_Field_L0_ex n r_).1 (slices_DeleteFunc_card_Field_L0_ex n r_).2 :=
  loop_run h (slices_DeleteFunc_card_Field_L0_ok n) (by intro r_; rcases r_ with ⟨r1, r2⟩ <;> simp [slices_DeleteFunc_card_Field_L0_ex])
/-! ### slices_DeleteFunc_card_Field -/
noncomputable def slices_DeleteFunc_card_Field (n : Int) (r : List E_card_Field) : Option ((Unit) ⊕ (Nat × List E_card_Field)) :=
  (slices_IndexFunc_card_Field (List.take ((List.map E_card_Field.pv r)).length r) n).bind fun n2 =>
  bif (decide ((n2 : Int) = (-1))) then
    some (.inl ())
  else
    (runL (slices_DeleteFunc_card_Field_L0_step n) (n2, (iadd .i64 n2 1), r)).bind fun (n3, r2) =>
    bif decide ((0 : Int) ≤ n3) && decide ((n3 : Int) ≤ (((List.map E_card_Field.pv r2)).length : Int)) && decide (((((List.map E_card_Field.pv r2)).length : Int) : Int) ≤ (((List.map E_card_Field.pv r2)).length : Int)) && decide (((((List.map E_card_Field.pv r2)).length : Int) : Int) = (((List.map E_card_Field.pv r2)).length : Int)) then
    bif decide ((0 : Int) ≤ 0) && decide ((0 : Int) ≤ n3) && decide ((n3 : Int) ≤ (((List.map E_card_Field.pv r2)).length : Int)) && decide ((n3 : Int) = n3) then
    some (.inr ((n3 - 0).toNat, (List.take (0 + (n3).toNat) r2 ++ (List.replicate ((((List.map E_card_Field.pv r2)).length : Int) - n3).toNat (E_card_Field.mk 0 (⟨#[]⟩ : ByteArray) (⟨#[]⟩ : ByteArray)) ++ List.drop ((0 + (n3).toNat) + ((((List.map E_card_Field.pv r2)).length : Int) - n3).toNat) r2))))
    else none
    else none
theorem slices_DeleteFunc_card_Field_runs (n : Int) (r : List E_card_Field) (r_ : (Unit) ⊕ (Nat × List E_card_Field)) (h : slices_DeleteFunc_card_Field n r = some r_) : Runs Tryd.prog 35 [(.one (.own 0 0 ((List.map E_card_Field.pv r)).length false)), (.one (.fn 36 [(.ref 0 0)]))] [[(.pv (.int .i64 n))]] [(.recs 3 (List.map E_card_Field.pv r))] (slices_DeleteFunc_card_Field_out n r r_) := by
  unfold slices_DeleteFunc_card_Field at h
  obtain ⟨n2, h1, h⟩ := bind_of h
  have q_1 := (Runs.coe (as' := [(.one (.bor (.recs 3 (List.take ((List.map E_card_Field.pv r)).length (List.map E_card_Field.pv r)) false))), (.one (.fn 36 [(.ref 0 0)]))]) (objs' := [[(.pv (.int .i64 n))]]) (rows' := []) (slices_IndexFunc_card_Field_runs (List.take ((List.map E_card_Field.pv r)).length r) n _ h1) ⟨.bor (.recsT (.eq (by first | rfl | (simp only [List.take_length]; done) | (simp only [List.take_length, List.length_append, List.drop_zero, List.map_append, List.map_take, List.map_drop, List.map_replicate, List.map_cons, List.map_nil, List.append_nil, List.nil_append, E_card_Field.pv, E_card_Field.upd]; done) | (simp; done)))), .eq rfl, trivial⟩ ⟨⟨.eq rfl, trivial⟩, trivial⟩ trivial)
  rcases cond_of h with ⟨h2, h⟩ | ⟨h2, h⟩
  · have h := some_of h
    subst h
    have t_ := tR q_1 <| tT h2 <| tN
    exact runs_of (C := cfg) (objs := [[(.pv (.int .i64 n))]]) (sc := t_.ev) (.k0 t_.pf (by kernel_rfl))
  · obtain ⟨⟨n3, r2⟩, h3, h⟩ := bind_of h
    obtain ⟨h4, h⟩ := need_of h
    obtain ⟨h5, h⟩ := need_of h
    have h := some_of h
    subst h
    have t_ := tR q_1 <| tF h2 <| tL (slices_DeleteFunc_card_Field_L0_runs n _ _ h3) <| tO h4 <| tO h5 <| tN
    have e_ : Runs Tryd.prog 35 [(.one (.own 0 0 ((List.map E_card_Field.pv r)).length false)), (.one (.fn 36 [(.ref 0 0)]))] [[(.pv (.int .i64 n))]] [(.recs 3 (List.map E_card_Field.pv r))] ([(.one (.own 0 0 (n3 - 0).toNat false))], [[(.pv (.int .i64 n))]], [(.recs 3 (List.take (0 + (n3).toNat) (List.map E_card_Field.pv r2) ++ (List.replicate ((((List.map E_card_Field.pv r2)).length : Int) - n3).toNat [(.int .i64 0), (.str (⟨#[]⟩ : ByteArray)), (.str (⟨#[]⟩ : ByteArray))] ++ List.drop ((0 + (n3).toNat) + ((((List.map E_card_Field.pv r2)).length : Int) - n3).toNat) (List.map E_card_Field.pv r2))))]) := runs_of (C := cfg) (objs := [[(.pv (.int .i64 n))]]) (sc := t_.ev) (.k0 t_.pf (by kernel_rfl))
    exact e_.out ⟨.eq rfl, trivial⟩ ⟨⟨.eq rfl, trivial⟩, trivial⟩ ⟨.recs (.eq (by first | rfl | (simp only [List.take_length]; done) | (simp only [List.take_length, List.length_append, List.drop_zero, List.map_append, List.map_take, List.map_drop, List.map_replicate, List.map_cons, List.map_nil, List.append_nil, List.nil_append, E_card_Field.pv, E_card_Field.upd]; done) | (simp; done))), trivial⟩ rfl
/-! ### card_Card_Of -/
noncomputable def card_Card_Of (c : List E_card_Field) (kind : Int) : Option (List E_card_Field) :=
  (card_Card_Fields c).bind fun _ =>
  (slices_DeleteFunc_card_Field kind c).bind fun z_ => match z_ with
  | .inl _ =>
    some (List.take ((List.map E_card_Field.pv c)).length c)
  | .inr (k, r) =>
    some (List.take k r)
theorem card_Card_Of_runs (c : List E_card_Field) (kind : Int) (r_ : List E_card_Field) (h : card_Card_Of c kind = some r_) : Runs Tryd.prog 18 [(.agg [(.pv (.recs 3 (List.map E_card_Field.pv c) false))]), (.one (.pv (.int .i64 kind)))] [] [] (card_Card_Of_out c kind r_) := by
  unfold card_Card_Of at h
  obtain ⟨_, h1, h⟩ := bind_of h
  obtain ⟨z_, h2, h⟩ := bind_of h
  rcases z_ with _ | ⟨k, r⟩
  · have h := some_of h
    subst h
    have t_ := tR (card_Card_Fields_runs c _ h1) <| tR (slices_DeleteFunc_card_Field_runs kind c _ h2) <| tN
    have e_ : Runs Tryd.prog 18 [(.agg [(.pv (.recs 3 (List.map E_card_Field.pv c) false))]), (.one (.pv (.int .i64 kind)))] [] [] ([(.one (.own 0 0 ((List.map E_card_Field.pv c)).length false))], [], [(.recs 3 (List.map E_card_Field.pv c))]) := runs_of (C := cfg) (objs := []) (sc := t_.ev) (.k0 t_.pf (by kernel_rfl))
    have e_ := e_.shut (res' := ([(.one (.pv (.recs 3 (List.take ((List.map E_card_Field.pv c)).length (List.map E_card_Field.pv c)) false)))], [], [])) [0] (by kernel_rfl)
    exact e_.out ⟨.pv (.recsT (.eq (by first | rfl | (simp only [List.take_length]; done) | (simp only [List.take_length, List.length_append, List.drop_zero, List.map_append, List.map_take, List.map_drop, List.map_replicate, List.map_cons, List.map_nil, List.append_nil, List.nil_append, E_card_Field.pv, E_card_Field.upd]; done) | (simp; done)))), trivial⟩ trivial trivial rfl
  · have h := some_of h
    subst h
    have t_ := tR (card_Card_Fields_runs c _ h1) <| tR (slices_DeleteFunc_card_Field_runs kind c _ h2) <| tN
    have e_ : Runs Tryd.prog 18 [(.agg [(.pv (.recs 3 (List.map E_card_Field.pv c) false))]), (.one (.pv (.int .i64 kind)))] [] [] ([(.one (.own 0 0 k false))], [], [(.recs 3 (List.map E_card_Field.pv r))]) := runs_of (C := cfg) (objs := []) (sc := t_.ev) (.k0 t_.pf (by kernel_rfl))
    have e_ := e_.shut (res' := ([(.one (.pv (.recs 3 (List.take k (List.map E_card_Field.pv r)) false)))], [], [])) [0] (by kernel_rfl)
    exact e_.out ⟨.pv (.recsT (.eq (by first | rfl | (simp only [List.take_length]; done) | (simp only [List.take_length, List.length_append, List.drop_zero, List.map_append, List.map_take, List.map_drop, List.map_replicate, List.map_cons, List.map_nil, List.append_nil, List.nil_append, E_card_Field.pv, E_card_Field.upd]; done) | (simp; done)))), trivial⟩ trivial trivial rfl
/-! ### card_Card_Title_L1_2 -/
def card_Card_Title_L1_2_st (n : Int) (r : List E_card_Field) (n2 : Int) (r2 : List E_L_card_Field) : Unit → St
  | _ => ⟨[(11, (.av (.one (.own 0 0 ((List.map E_L_card_Field.pv r2)).length true)))), (12, (.av (.one (.pv (.int .i64 2))))), (13, (.av (.one (.pv (.int .i64 n))))), (17, (.av (.one (.pv (.recs 3 (List.map E_card_Field.pv r) false))))), (18, (.av (.one (.pv (.int .i64 n2))))), (19, (.av (.one (.pv (.int .i64 0)))))], [], [(0, (.live (.recs 1 (List.map E_L_card_Field.pv r2))))]⟩
def card_Card_Title_L1_2_ex (n : Int) (r : List E_card_Field) (n2 : Int) (r2 : List E_L_card_Field) : (ByteArray) ⊕ (Unit) → Ex × St
  | .inl r1 => (.ret, ⟨[(2, (.av (.one (.pv (.str r1)))))], [], []⟩)
  | .inr _ => ((.exit 2), ⟨[(11, (.av (.one (.own 0 0 ((List.map E_L_card_Field.pv r2)).length true)))), (12, (.av (.one (.pv (.int .i64 2))))), (13, (.av (.one (.pv (.int .i64 n)))))], [], [(0, (.live (.recs 1 (List.map E_L_card_Field.pv r2))))]⟩)
noncomputable def card_Card_Title_L1_2_step (n : Int) (r : List E_card_Field) (n2 : Int) (r2 : List E_L_card_Field) : Unit → Option ((Unit) ⊕ ((ByteArray) ⊕ (Unit)))
  | _ =>
  bif (decide ((0 : Int) < n2)) then
    bif decide ((0 : Int) ≤ 0) && decide ((0 : Int) < (((List.map E_card_Field.pv r)).length : Int)) then
    (r[0]?).bind fun e_ => match e_ with
    | .mk n3 s s2 =>
    some (.inr (.inl s2))
    else none
  else
    some (.inr (.inr ()))
theorem card_Card_Title_L1_2_ok (n : Int) (r : List E_card_Field) (n2 : Int) (r2 : List E_L_card_Field) (s_ : Unit) (z_ : (Unit) ⊕ ((ByteArray) ⊕ (Unit))) (h : card_Card_Title_L1_2_step n r n2 r2 s_ = some z_) : RoundOk Tryd.prog cfg 19 0 (loopAt Tryd.prog 19 1) (card_Card_Title_L1_2_st n r n2 r2) (card_Card_Title_L1_2_ex n r n2 r2) s_ z_ := by
  rcases s_ with _
  rcases cond_of h with ⟨h1, h⟩ | ⟨h1, h⟩
  · obtain ⟨h2, h⟩ := need_of h
    obtain ⟨⟨n3, s, s2⟩, h3, h⟩ := bind_of h
    have h := some_of h
    subst h
    have t_ := tT h1 <| tO h2 <| tE (.el [(.int .i64 n3), (.str s), (.str s2)]) <| tO (el_of (f := E_card_Field.pv) h3) <| tN
    exact ⟨t_.ev, (card_Card_Title_L1_2_ex n r n2 r2 (.inl s2)).2, .k0 t_.pf (by kernel_rfl), .same (by kernel_rfl)⟩
  · have h := some_of h
    subst h
    have t_ := tF h1 <| tN
    exact ⟨t_.ev, ⟨[(20, (.av (.one (.pv (.bool false))))), (11, (.av (.one (.own 0 0 ((List.map E_L_card_Field.pv r2)).length true)))), (12, (.av (.one (.pv (.int .i64 2))))), (13, (.av (.one (.pv (.int .i64 n))))), (17, (.av (.one (.pv (.recs 3 (List.map E_card_Field.pv r) false))))), (19, (.av (.one (.pv (.int .i64 0))))), (20, (.av (.one (.pv (.bool (decide ((0 : Int) < n2)))))))], [], [(0, (.live (.recs 1 (List.map E_L_card_Field.pv r2))))]⟩, .k0 t_.pf (by kernel_rfl), ⟨⟨⟨_, rfl, .eq rfl⟩, ⟨_, rfl, .eq rfl⟩, ⟨_, rfl, .eq rfl⟩, trivial⟩, trivial, ⟨⟨rfl, .eq rfl⟩, trivial⟩⟩⟩
theorem card_Card_Title_L1_2_runs (n : Int) (r : List E_card_Field) (n2 : Int) (r2 : List E_L_card_Field) (s_ : Unit) (r_ : (ByteArray) ⊕ (Unit)) (h : runL (card_Card_Title_L1_2_step n r n2 r2) s_ = some r_) : LRuns Tryd.prog (lEnv Tryd.prog cfg 19 0).nt 0 (.loop (loopAt Tryd.prog 19 1)) (card_Card_Title_L1_2_st n r n2 r2 s_) (card_Card_Title_L1_2_ex n r n2 r2 r_).1 (card_Card_Title_L1_2_ex n r n2 r2 r_).2 :=
  loop_run h (card_Card_Title_L1_2_ok n r n2 r2) (by intro r_; rcases r_ with r1 | _ <;> simp [card_Card_Title_L1_2_ex])
/-! ### card_Card_Title_L0 -/
def card_Card_Title_L0_st (r : List E_L_card_Field) : Int → St
  | n => ⟨[(11, (.av (.one (.own 0 0 ((List.map E_L_card_Field.pv r)).length true)))), (12, (.av (.one (.pv (.int .i64 2))))), (13, (.av (.one (.pv (.int .i64 n)))))], [], [(0, (.live (.recs 1 (List.map E_L_card_Field.pv r))))]⟩
def card_Card_Title_L0_ex (r : List E_L_card_Field) : (ByteArray) ⊕ (Unit) → Ex × St
  | .inl r1 => (.ret, ⟨[(2, (.av (.one (.pv (.str r1)))))], [], []⟩)
  | .inr _ => ((.exit 0), ⟨[], [], [(0, (.live (.recs 1 (List.map E_L_card_Field.pv r))))]⟩)
noncomputable def card_Card_Title_L0_step (r : List E_L_card_Field) : Int → Option ((Int) ⊕ ((ByteArray) ⊕ (Unit)))
  | n =>
  bif (decide ((n : Int) < 2)) then
    bif decide ((0 : Int) ≤ n) && decide ((n : Int) < (((List.map E_L_card_Field.pv r)).length : Int)) then
    (r[(0 + (n).toNat)]?).bind fun e_ => match e_ with
    | .mk r2 =>
    (runL (card_Card_Title_L1_2_step n r2 (((List.map E_card_Field.pv r2)).length : Int) r) ()).bind fun z_ => match z_ with
    | .inl s =>
      some (.inr (.inl s))
    | .inr _ =>
      some (.inl (iadd .i64 n 1))
    else none
  else
    some (.inr (.inr ()))
theorem card_Card_Title_L0_ok (r : List E_L_card_Field) (n : Int) (z_ : (Int) ⊕ ((ByteArray) ⊕ (Unit))) (h : card_Card_Title_L0_step r n = some z_) : RoundOk Tryd.prog cfg 19 0 (loopAt Tryd.prog 19 0) (card_Card_Title_L0_st r) (card_Card_Title_L0_ex r) n z_ := by
  rcases cond_of h with ⟨h1, h⟩ | ⟨h1, h⟩
  · obtain ⟨h2, h⟩ := need_of h
    obtain ⟨⟨r2⟩, h3, h⟩ := bind_of h
    obtain ⟨z_, h4, h⟩ := bind_of h
    rcases z_ with s | _
    · have h := some_of h
      subst h
      have t_ := tT h1 <| tO h2 <| tE (.el [(.recs 3 (List.map E_card_Field.pv r2) false)]) <| tO (el_of (f := E_L_card_Field.pv) h3) <| tL (card_Card_Title_L1_2_runs n r2 (((List.map E_card_Field.pv r2)).length : Int) r _ _ h4) <| tN
      exact ⟨t_.ev, (card_Card_Title_L0_ex r (.inl s)).2, .k0 t_.pf (by kernel_rfl), .same (by kernel_rfl)⟩
    · have h := some_of h
      subst h
      have t_ := tT h1 <| tO h2 <| tE (.el [(.recs 3 (List.map E_card_Field.pv r2) false)]) <| tO (el_of (f := E_L_card_Field.pv) h3) <| tL (card_Card_Title_L1_2_runs n r2 (((List.map E_card_Field.pv r2)).length : Int) r _ _ h4) <| tN
      exact ⟨t_.ev, card_Card_Title_L0_st r (iadd .i64 n 1), .k0 t_.pf (by kernel_rfl), .same (by kernel_rfl)⟩
  · have h := some_of h
    subst h
    have t_ := tF h1 <| tN
    exact ⟨t_.ev, ⟨[(14, (.av (.one (.pv (.bool false))))), (11, (.av (.one (.own 0 0 ((List.map E_L_card_Field.pv r)).length true)))), (12, (.av (.one (.pv (.int .i64 2))))), (13, (.av (.one (.pv (.int .i64 n))))), (14, (.av (.one (.pv (.bool (decide ((n : Int) < 2)))))))], [], [(0, (.live (.recs 1 (List.map E_L_card_Field.pv r))))]⟩, .k0 t_.pf (by kernel_rfl), ⟨trivial, trivial, ⟨⟨rfl, .eq rfl⟩, trivial⟩⟩⟩
theorem card_Card_Title_L0_runs (r : List E_L_card_Field) (s_ : Int) (r_ : (ByteArray) ⊕ (Unit)) (h : runL (card_Card_Title_L0_step r) s_ = some r_) : LRuns Tryd.prog (lEnv Tryd.prog cfg 19 0).nt 0 (.loop (loopAt Tryd.prog 19 0)) (card_Card_Title_L0_st r s_) (card_Card_Title_L0_ex r r_).1 (card_Card_Title_L0_ex r r_).2 :=
  loop_run h (card_Card_Title_L0_ok r) (by intro r_; rcases r_ with r1 | _ <;> simp [card_Card_Title_L0_ex])
/-! ### card_Card_Title -/
noncomputable def card_Card_Title (c : List E_card_Field) : Option (ByteArray) :=
  (card_Card_Of c 1).bind fun r =>
  (runL (card_Card_Title_L0_step [(E_L_card_Field.mk r), (E_L_card_Field.mk c)]) 0).bind fun z_ => match z_ with
  | .inl s =>
    some s
  | .inr _ =>
    some (⟨#[]⟩ : ByteArray)
theorem card_Card_Title_runs (c : List E_card_Field) (r_ : ByteArray) (h : card_Card_Title c = some r_) : Runs Tryd.prog 19 [(.agg [(.pv (.recs 3 (List.map E_card_Field.pv c) false))])] [] [] (card_Card_Title_out c r_) := by
  unfold card_Card_Title at h
  obtain ⟨r, h1, h⟩ := bind_of h
  obtain ⟨z_, h2, h⟩ := bind_of h
  rcases z_ with s | _
  · have h := some_of h
    subst h
    have t_ := tR (card_Card_Of_runs c 1 _ h1) <| tR (card_Card_Of_runs c 1 _ h1) <| tL (LRuns.coe (s0 := ⟨[(11, (.av (.one (.own 0 0 2 true)))), (12, (.av (.one (.pv (.int .i64 2))))), (13, (.av (.one (.pv (.int .i64 0)))))], [], [(0, (.live (.recs 1 [[(.recs 3 (List.map E_card_Field.pv r) false)], [(.recs 3 (List.map E_card_Field.pv c) false)]])))]⟩) (card_Card_Title_L0_runs [(E_L_card_Field.mk r), (E_L_card_Field.mk c)] _ _ h2) ⟨⟨⟨_, rfl, .own (by first | rfl | (simp only [List.take_length]; done) | (simp only [List.take_length, List.length_append, List.drop_zero, List.map_append, List.map_take, List.map_drop, List.map_replicate, List.map_cons, List.map_nil, List.append_nil, List.nil_append, E_card_Field.pv, E_L_card_Field.pv, E_card_Field.upd, E_L_card_Field.upd]; done) | (simp; done))⟩, ⟨_, rfl, .eq rfl⟩, ⟨_, rfl, .eq rfl⟩, trivial⟩, trivial, ⟨⟨rfl, .recs (.cons (.cons (.eq rfl) (.nil)) (.cons (.cons (.eq rfl) (.nil)) (.nil)))⟩, trivial⟩⟩) <| tN
    exact runs_of (C := cfg) (objs := []) (sc := t_.ev) (.k1 t_.pf (by kernel_rfl) (by kernel_rfl))
  · have h := some_of h
    subst h
    have t_ := tR (card_Card_Of_runs c 1 _ h1) <| tR (card_Card_Of_runs c 1 _ h1) <| tL (LRuns.coe (s0 := ⟨[(11, (.av (.one (.own 0 0 2 true)))), (12, (.av (.one (.pv (.int .i64 2))))), (13, (.av (.one (.pv (.int .i64 0)))))], [], [(0, (.live (.recs 1 [[(.recs 3 (List.map E_card_Field.pv r) false)], [(.recs 3 (List.map E_card_Field.pv c) false)]])))]⟩) (card_Card_Title_L0_runs [(E_L_card_Field.mk r), (E_L_card_Field.mk c)] _ _ h2) ⟨⟨⟨_, rfl, .own (by first | rfl | (simp only [List.take_length]; done) | (simp only [List.take_length, List.length_append, List.drop_zero, List.map_append, List.map_take, List.map_drop, List.map_replicate, List.map_cons, List.map_nil, List.append_nil, List.nil_append, E_card_Field.pv, E_L_card_Field.pv, E_card_Field.upd, E_L_card_Field.upd]; done) | (simp; done))⟩, ⟨_, rfl, .eq rfl⟩, ⟨_, rfl, .eq rfl⟩, trivial⟩, trivial, ⟨⟨rfl, .recs (.cons (.cons (.eq rfl) (.nil)) (.cons (.cons (.eq rfl) (.nil)) (.nil)))⟩, trivial⟩⟩) <| tN
    exact runs_of (C := cfg) (objs := []) (sc := t_.ev) (.k1 t_.pf (by kernel_rfl) (by kernel_rfl))
/-! ### kinfolklaw09_awake -/
noncomputable def kinfolklaw09_awake : Option (Bool) :=
  (card_Make [(E_card_Field.mk 2 (⟨#[]⟩ : ByteArray) (⟨#[49, 50]⟩ : ByteArray)), (E_card_Field.mk 1 (⟨#[]⟩ : ByteArray) (⟨#[65, 110, 110]⟩ : ByteArray))]).bind fun (r, n) =>
  bif (decide ((n : Int) = 0)) then
    (card_Card_Title r).bind fun s =>
    bif (decide (s = (⟨#[65, 110, 110]⟩ : ByteArray))) then
      (card_Card_Len r).bind fun n2 =>
      some (decide ((n2 : Int) = 2))
    else
      some false
  else
    some false
theorem kinfolklaw09_awake_runs (r_ : Bool) (h : kinfolklaw09_awake = some r_) : Runs Tryd.prog 6 [] [] [] (kinfolklaw09_awake_out r_) := by
  unfold kinfolklaw09_awake at h
  obtain ⟨⟨r, n⟩, h1, h⟩ := bind_of h
  have q_1 := (Runs.coe (as' := [(.one (.pv (.recs 3 [[(.int .i64 2), (.str (⟨#[]⟩ : ByteArray)), (.str (⟨#[49, 50]⟩ : ByteArray))], [(.int .i64 1), (.str (⟨#[]⟩ : ByteArray)), (.str (⟨#[65, 110, 110]⟩ : ByteArray))]] true)))]) (objs' := []) (rows' := []) (card_Make_runs [(E_card_Field.mk 2 (⟨#[]⟩ : ByteArray) (⟨#[49, 50]⟩ : ByteArray)), (E_card_Field.mk 1 (⟨#[]⟩ : ByteArray) (⟨#[65, 110, 110]⟩ : ByteArray))] _ h1) ⟨.pv (.recs (.cons (.cons (.eq rfl) (.cons (.eq rfl) (.cons (.eq rfl) (.nil)))) (.cons (.cons (.eq rfl) (.cons (.eq rfl) (.cons (.eq rfl) (.nil)))) (.nil)))), trivial⟩ trivial trivial)
  rcases cond_of h with ⟨h2, h⟩ | ⟨h2, h⟩
  · obtain ⟨s, h3, h⟩ := bind_of h
    rcases cond_of h with ⟨h4, h⟩ | ⟨h4, h⟩
    · obtain ⟨n2, h5, h⟩ := bind_of h
      have h := some_of h
      subst h
      have t_ := tR q_1 <| tT h2 <| tR (card_Card_Title_runs r _ h3) <| tT h4 <| tR (card_Card_Len_runs r _ h5) <| tN
      exact runs_of (C := cfg) (objs := []) (sc := t_.ev) (.k0 t_.pf (by kernel_rfl))
    · have h := some_of h
      subst h
      have t_ := tR q_1 <| tT h2 <| tR (card_Card_Title_runs r _ h3) <| tF h4 <| tN
      exact runs_of (C := cfg) (objs := []) (sc := t_.ev) (.k0 t_.pf (by kernel_rfl))
  · have h := some_of h
    subst h
    have t_ := tR q_1 <| tF h2 <| tF (rfl : false = false) <| tN
    exact runs_of (C := cfg) (objs := []) (sc := t_.ev) (.k0 t_.pf (by kernel_rfl))
/-! ### kinfolklaw09_few_out -/
def kinfolklaw09_few_out (l : List E_card_Field) : List E_card_Field → Res
  | r1 => ([(.one (.own 0 0 ((List.map E_card_Field.pv r1)).length false))], [], [(.recs 3 (List.map E_card_Field.pv r1))])
/-! ### kinfolklaw09_few_L0_2 -/
def kinfolklaw09_few_L0_2_st (r : List E_card_Field) (n : Int) : Int × List E_card_Field → St
  | (n2, r2) => ⟨[(3, (.av (.one (.own 0 0 ((List.map E_card_Field.pv r2)).length false)))), (6, (.av (.one (.pv (.recs 3 (List.map E_card_Field.pv r) false))))), (7, (.av (.one (.pv (.int .i64 n))))), (8, (.av (.one (.pv (.int .i64 n2)))))], [], [(0, (.live (.recs 3 (List.map E_card_Field.pv r2))))]⟩
def kinfolklaw09_few_L0_2_ex (r : List E_card_Field) (n : Int) : List E_card_Field → Ex × St
  | r1 => ((.exit 0), ⟨[(3, (.av (.one (.own 0 0 ((List.map E_card_Field.pv r1)).length false))))], [], [(0, (.live (.recs 3 (List.map E_card_Field.pv r1))))]⟩)
noncomputable def kinfolklaw09_few_L0_2_step (r : List E_card_Field) (n : Int) : Int × List E_card_Field → Option ((Int × List E_card_Field) ⊕ (List E_card_Field))
  | (n2, r2) =>
  bif (decide ((n2 : Int) < n)) then
    bif decide ((0 : Int) ≤ n2) && decide ((n2 : Int) < (((List.map E_card_Field.pv r)).length : Int)) then
    (r[(n2).toNat]?).bind fun e_ => match e_ with
    | .mk n3 s s2 =>
    bif (decide ((n2 : Int) < 14)) then
      bif decide ((0 : Int) ≤ 0) && decide ((0 : Int) ≤ (if (60 : Int) < (s.size : Int) then 60 else (s.size : Int))) && decide (((if (60 : Int) < (s.size : Int) then 60 else (s.size : Int)) : Int) ≤ (s.size : Int)) then
      bif decide ((0 : Int) ≤ 0) && decide ((0 : Int) ≤ (if (60 : Int) < (s2.size : Int) then 60 else (s2.size : Int))) && decide (((if (60 : Int) < (s2.size : Int) then 60 else (s2.size : Int)) : Int) ≤ (s2.size : Int)) then
      bif fits (((List.map E_card_Field.pv r2) ++ ([[(.int .i64 n3), (.str (s.extract 0 ((if (60 : Int) < (s.size : Int) then 60 else (s.size : Int))).toNat)), (.str (s2.extract 0 ((if (60 : Int) < (s2.size : Int) then 60 else (s2.size : Int))).toNat))]] : List (List PV)))).length then
      some (.inl ((iadd .i64 n2 1), (r2 ++ [(E_card_Field.mk n3 (s.extract 0 ((if (60 : Int) < (s.size : Int) then 60 else (s.size : Int))).toNat) (s2.extract 0 ((if (60 : Int) < (s2.size : Int) then 60 else (s2.size : Int))).toNat))])))
      else none
      else none
      else none
    else
      some (.inl ((iadd .i64 n2 1), r2))
    else none
  else
    some (.inr r2)
theorem kinfolklaw09_few_L0_2_ok (r : List E_card_Field) (n : Int) (s_ : Int × List E_card_Field) (z_ : (Int × List E_card_Field) ⊕ (List E_card_Field)) (h : kinfolklaw09_few_L0_2_step r n s_ = some z_) : RoundOk Tryd.prog cfg 7 0 (loopAt Tryd.prog 7 0) (kinfolklaw09_few_L0_2_st r n) (kinfolklaw09_few_L0_2_ex r n) s_ z_ := by
  rcases s_ with ⟨n2, r2⟩
  rcases cond_of h with ⟨h1, h⟩ | ⟨h1, h⟩
  · obtain ⟨h2, h⟩ := need_of h
    obtain ⟨⟨n3, s, s2⟩, h3, h⟩ := bind_of h
    rcases cond_of h with ⟨h4, h⟩ | ⟨h4, h⟩
    · obtain ⟨h5, h⟩ := need_of h
      obtain ⟨h6, h⟩ := need_of h
      obtain ⟨h7, h⟩ := need_of h
      have h := some_of h
      subst h
      have t_ := tT h1 <| tO h2 <| tE (.el [(.int .i64 n3), (.str s), (.str s2)]) <| tO (el_of (f := E_card_Field.pv) h3) <| tT h4 <| tO h5 <| tO h6 <| tO h6 <| tO h5 <| tO h5 <| tO h6 <| tO h5 <| tO h6 <| tO (show (Nat.beq ((List.map E_card_Field.pv r2)).length ((List.map E_card_Field.pv r2)).length) = true from Nat.beq_refl _) <| tO h7 <| tN
      exact ⟨t_.ev, ⟨[(3, (.av (.one (.own 0 0 (((List.map E_card_Field.pv r2) ++ ([[(.int .i64 n3), (.str (s.extract 0 ((if (60 : Int) < (s.size : Int) then 60 else (s.size : Int))).toNat)), (.str (s2.extract 0 ((if (60 : Int) < (s2.size : Int) then 60 else (s2.size : Int))).toNat))]] : List (List PV)))).length false)))), (6, (.av (.one (.pv (.recs 3 (List.map E_card_Field.pv r) false))))), (7, (.av (.one (.pv (.int .i64 n))))), (8, (.av (.one (.pv (.int .i64 (iadd .i64 n2 1))))))], [], [(0, (.live (.recs 3 ((List.map E_card_Field.pv r2) ++ ([[(.int .i64 n3), (.str (s.extract 0 ((if (60 : Int) < (s.size : Int) then 60 else (s.size : Int))).toNat)), (.str (s2.extract 0 ((if (60 : Int) < (s2.size : Int) then 60 else (s2.size : Int))).toNat))]] : List (List PV))))))]⟩, .k1 t_.pf (by kernel_rfl) (by kernel_rfl), ⟨⟨⟨_, rfl, .own (by first | rfl | (simp only [List.take_length]; done) | (simp only [List.take_length, List.length_append, List.drop_zero, List.map_append, List.map_take, List.map_drop, List.map_replicate, List.map_cons, List.map_nil, List.append_nil, List.nil_append, E_card_Field.pv, E_L_card_Field.pv, E_card_Field.upd, E_L_card_Field.upd]; done) | (simp; done))⟩, ⟨_, rfl, .eq rfl⟩, ⟨_, rfl, .eq rfl⟩, ⟨_, rfl, .eq rfl⟩, trivial⟩, trivial, ⟨⟨rfl, .recs (.app (.eq rfl) (.cons (.cons (.eq rfl) (.cons (.eq rfl) (.cons (.eq rfl) (.nil)))) (.nil)))⟩, trivial⟩⟩⟩
    · have h := some_of h
      subst h
      have t_ := tT h1 <| tO h2 <| tE (.el [(.int .i64 n3), (.str s), (.str s2)]) <| tO (el_of (f := E_card_Field.pv) h3) <| tF h4 <| tN
      exact ⟨t_.ev, kinfolklaw09_few_L0_2_st r n ((iadd .i64 n2 1), r2), .k0 t_.pf (by kernel_rfl), .same (by kernel_rfl)⟩
  · have h := some_of h
    subst h
    have t_ := tF h1 <| tN
    exact ⟨t_.ev, ⟨[(9, (.av (.one (.pv (.bool false))))), (3, (.av (.one (.own 0 0 ((List.map E_card_Field.pv r2)).length false)))), (6, (.av (.one (.pv (.recs 3 (List.map E_card_Field.pv r) false))))), (7, (.av (.one (.pv (.int .i64 n))))), (8, (.av (.one (.pv (.int .i64 n2))))), (9, (.av (.one (.pv (.bool (decide ((n2 : Int) < n)))))))], [], [(0, (.live (.recs 3 (List.map E_card_Field.pv r2))))]⟩, .k0 t_.pf (by kernel_rfl), ⟨⟨⟨_, rfl, .eq rfl⟩, trivial⟩, trivial, ⟨⟨rfl, .eq rfl⟩, trivial⟩⟩⟩
theorem kinfolklaw09_few_L0_2_runs (r : List E_card_Field) (n : Int) (s_ : Int × List E_card_Field) (r_ : List E_card_Field) (h : runL (kinfolklaw09_few_L0_2_step r n) s_ = some r_) : LRuns Tryd.prog (lEnv Tryd.prog cfg 7 0).nt 0 (.loop (loopAt Tryd.prog 7 0)) (kinfolklaw09_few_L0_2_st r n s_) (kinfolklaw09_few_L0_2_ex r n r_).1 (kinfolklaw09_few_L0_2_ex r n r_).2 :=
  loop_run h (kinfolklaw09_few_L0_2_ok r n) (by intro r_; rcases r_ with r1 <;> simp [kinfolklaw09_few_L0_2_ex])
/-! ### kinfolklaw09_few -/
noncomputable def kinfolklaw09_few (l : List E_card_Field) : Option (List E_card_Field) :=
  (runL (kinfolklaw09_few_L0_2_step l (((List.map E_card_Field.pv l)).length : Int)) (0, [])).bind fun r =>
  some r
theorem kinfolklaw09_few_runs (l : List E_card_Field) (r_ : List E_card_Field) (h : kinfolklaw09_few l = some r_) : Runs Tryd.prog 7 [(.one (.pv (.recs 3 (List.map E_card_Field.pv l) false)))] [] [] (kinfolklaw09_few_out l r_) := by
  unfold kinfolklaw09_few at h
  obtain ⟨r, h1, h⟩ := bind_of h
  have h := some_of h
  subst h
  have t_ := tL (LRuns.coe (s0 := ⟨[(3, (.av (.one (.own 0 0 0 false)))), (6, (.av (.one (.pv (.recs 3 (List.map E_card_Field.pv l) false))))), (7, (.av (.one (.pv (.int .i64 (((List.map E_card_Field.pv l)).length : Int)))))), (8, (.av (.one (.pv (.int .i64 0)))))], [], [(0, (.live (.recs 3 [])))]⟩) (kinfolklaw09_few_L0_2_runs l (((List.map E_card_Field.pv l)).length : Int) _ _ h1) ⟨⟨⟨_, rfl, .own (by first | rfl | (simp only [List.take_length]; done) | (simp only [List.take_length, List.length_append, List.drop_zero, List.map_append, List.map_take, List.map_drop, List.map_replicate, List.map_cons, List.map_nil, List.append_nil, List.nil_append, E_card_Field.pv, E_L_card_Field.pv, E_card_Field.upd, E_L_card_Field.upd]; done) | (simp; done))⟩, ⟨_, rfl, .eq rfl⟩, ⟨_, rfl, .eq rfl⟩, ⟨_, rfl, .eq rfl⟩, trivial⟩, trivial, ⟨⟨rfl, .recs (.nil)⟩, trivial⟩⟩) <| tN
  exact runs_of (C := cfg) (objs := []) (sc := t_.ev) (.k0 t_.pf (by kernel_rfl))
/-! ### kinfolklaw09_own_out -/
def kinfolklaw09_own_out (l : List E_card_Field) : List E_kinfolkref09_Field → Res
  | r1 => ([(.one (.own 0 0 ((List.map E_kinfolkref09_Field.pv r1)).length false))], [], [(.recs 3 (List.map E_kinfolkref09_Field.pv r1))])
/-! ### kinfolklaw09_own_L0_2 -/
def kinfolklaw09_own_L0_2_st (r : List E_card_Field) (n : Int) : Int × List E_kinfolkref09_Field → St
  | (n2, r2) => ⟨[(3, (.av (.one (.own 0 0 ((List.map E_kinfolkref09_Field.pv r2)).length false)))), (6, (.av (.one (.pv (.recs 3 (List.map E_card_Field.pv r) false))))), (7, (.av (.one (.pv (.int .i64 n))))), (8, (.av (.one (.pv (.int .i64 n2)))))], [], [(0, (.live (.recs 3 (List.map E_kinfolkref09_Field.pv r2))))]⟩
def kinfolklaw09_own_L0_2_ex (r : List E_card_Field) (n : Int) : List E_kinfolkref09_Field → Ex × St
  | r1 => ((.exit 0), ⟨[(3, (.av (.one (.own 0 0 ((List.map E_kinfolkref09_Field.pv r1)).length false))))], [], [(0, (.live (.recs 3 (List.map E_kinfolkref09_Field.pv r1))))]⟩)
noncomputable def kinfolklaw09_own_L0_2_step (r : List E_card_Field) (n : Int) : Int × List E_kinfolkref09_Field → Option ((Int × List E_kinfolkref09_Field) ⊕ (List E_kinfolkref09_Field))
  | (n2, r2) =>
  bif (decide ((n2 : Int) < n)) then
    bif decide ((0 : Int) ≤ n2) && decide ((n2 : Int) < (((List.map E_card_Field.pv r)).length : Int)) then
    (r[(n2).toNat]?).bind fun e_ => match e_ with
    | .mk n3 s s2 =>
    bif fits (((List.map E_kinfolkref09_Field.pv r2) ++ ([[(.int .i64 n3), (.str s), (.str s2)]] : List (List PV)))).length then
    some (.inl ((iadd .i64 n2 1), (r2 ++ [(E_kinfolkref09_Field.mk n3 s s2)])))
    else none
    else none
  else
    some (.inr r2)
theorem kinfolklaw09_own_L0_2_ok (r : List E_card_Field) (n : Int) (s_ : Int × List E_kinfolkref09_Field) (z_ : (Int × List E_kinfolkref09_Field) ⊕ (List E_kinfolkref09_Field)) (h : kinfolklaw09_own_L0_2_step r n s_ = some z_) : RoundOk Tryd.prog cfg 10 0 (loopAt Tryd.prog 10 0) (kinfolklaw09_own_L0_2_st r n) (kinfolklaw09_own_L0_2_ex r n) s_ z_ := by
  rcases s_ with ⟨n2, r2⟩
  rcases cond_of h with ⟨h1, h⟩ | ⟨h1, h⟩
  · obtain ⟨h2, h⟩ := need_of h
    obtain ⟨⟨n3, s, s2⟩, h3, h⟩ := bind_of h
    obtain ⟨h4, h⟩ := need_of h
    have h := some_of h
    subst h
    have t_ := tT h1 <| tO h2 <| tE (.el [(.int .i64 n3), (.str s), (.str s2)]) <| tO (el_of (f := E_card_Field.pv) h3) <| tO (show (Nat.beq ((List.map E_kinfolkref09_Field.pv r2)).length ((List.map E_kinfolkref09_Field.pv r2)).length) = true from Nat.beq_refl _) <| tO h4 <| tN
    exact ⟨t_.ev, ⟨[(3, (.av (.one (.own 0 0 (((List.map E_kinfolkref09_Field.pv r2) ++ ([[(.int .i64 n3), (.str s), (.str s2)]] : List (List PV)))).length false)))), (6, (.av (.one (.pv (.recs 3 (List.map E_card_Field.pv r) false))))), (7, (.av (.one (.pv (.int .i64 n))))), (8, (.av (.one (.pv (.int .i64 (iadd .i64 n2 1))))))], [], [(0, (.live (.recs 3 ((List.map E_kinfolkref09_Field.pv r2) ++ ([[(.int .i64 n3), (.str s), (.str s2)]] : List (List PV))))))]⟩, .k0 t_.pf (by kernel_rfl), ⟨⟨⟨_, rfl, .own (by first | rfl | (simp only [List.take_length]; done) | (simp only [List.take_length, List.length_append, List.drop_zero, List.map_append, List.map_take, List.map_drop, List.map_replicate, List.map_cons, List.map_nil, List.append_nil, List.nil_append, E_card_Field.pv, E_L_card_Field.pv, E_kinfolkref09_Field.pv, E_card_Field.upd, E_L_card_Field.upd, E_kinfolkref09_Field.upd]; done) | (simp; done))⟩, ⟨_, rfl, .eq rfl⟩, ⟨_, rfl, .eq rfl⟩, ⟨_, rfl, .eq rfl⟩, trivial⟩, trivial, ⟨⟨rfl, .recs (.app (.eq rfl) (.cons (.cons (.eq rfl) (.cons (.eq rfl) (.cons (.eq rfl) (.nil)))) (.nil)))⟩, trivial⟩⟩⟩
  · have h := some_of h
    subst h
    have t_ := tF h1 <| tN
    exact ⟨t_.ev, ⟨[(9, (.av (.one (.pv (.bool false))))), (3, (.av (.one (.own 0 0 ((List.map E_kinfolkref09_Field.pv r2)).length false)))), (6, (.av (.one (.pv (.recs 3 (List.map E_card_Field.pv r) false))))), (7, (.av (.one (.pv (.int .i64 n))))), (8, (.av (.one (.pv (.int .i64 n2))))), (9, (.av (.one (.pv (.bool (decide ((n2 : Int) < n)))))))], [], [(0, (.live (.recs 3 (List.map E_kinfolkref09_Field.pv r2))))]⟩, .k0 t_.pf (by kernel_rfl), ⟨⟨⟨_, rfl, .eq rfl⟩, trivial⟩, trivial, ⟨⟨rfl, .eq rfl⟩, trivial⟩⟩⟩
theorem kinfolklaw09_own_L0_2_runs (r : List E_card_Field) (n : Int) (s_ : Int × List E_kinfolkref09_Field) (r_ : List E_kinfolkref09_Field) (h : runL (kinfolklaw09_own_L0_2_step r n) s_ = some r_) : LRuns Tryd.prog (lEnv Tryd.prog cfg 10 0).nt 0 (.loop (loopAt Tryd.prog 10 0)) (kinfolklaw09_own_L0_2_st r n s_) (kinfolklaw09_own_L0_2_ex r n r_).1 (kinfolklaw09_own_L0_2_ex r n r_).2 :=
  loop_run h (kinfolklaw09_own_L0_2_ok r n) (by intro r_; rcases r_ with r1 <;> simp [kinfolklaw09_own_L0_2_ex])
/-! ### kinfolklaw09_own -/
noncomputable def kinfolklaw09_own (l : List E_card_Field) : Option (List E_kinfolkref09_Field) :=
  (runL (kinfolklaw09_own_L0_2_step l (((List.map E_card_Field.pv l)).length : Int)) (0, [])).bind fun r =>
  some r
theorem kinfolklaw09_own_runs (l : List E_card_Field) (r_ : List E_kinfolkref09_Field) (h : kinfolklaw09_own l = some r_) : Runs Tryd.prog 10 [(.one (.pv (.recs 3 (List.map E_card_Field.pv l) false)))] [] [] (kinfolklaw09_own_out l r_) := by
  unfold kinfolklaw09_own at h
  obtain ⟨r, h1, h⟩ := bind_of h
  have h := some_of h
  subst h
  have t_ := tL (LRuns.coe (s0 := ⟨[(3, (.av (.one (.own 0 0 0 false)))), (6, (.av (.one (.pv (.recs 3 (List.map E_card_Field.pv l) false))))), (7, (.av (.one (.pv (.int .i64 (((List.map E_card_Field.pv l)).length : Int)))))), (8, (.av (.one (.pv (.int .i64 0)))))], [], [(0, (.live (.recs 3 [])))]⟩) (kinfolklaw09_own_L0_2_runs l (((List.map E_card_Field.pv l)).length : Int) _ _ h1) ⟨⟨⟨_, rfl, .own (by first | rfl | (simp only [List.take_length]; done) | (simp only [List.take_length, List.length_append, List.drop_zero, List.map_append, List.map_take, List.map_drop, List.map_replicate, List.map_cons, List.map_nil, List.append_nil, List.nil_append, E_card_Field.pv, E_L_card_Field.pv, E_kinfolkref09_Field.pv, E_card_Field.upd, E_L_card_Field.upd, E_kinfolkref09_Field.upd]; done) | (simp; done))⟩, ⟨_, rfl, .eq rfl⟩, ⟨_, rfl, .eq rfl⟩, ⟨_, rfl, .eq rfl⟩, trivial⟩, trivial, ⟨⟨rfl, .recs (.nil)⟩, trivial⟩⟩) <| tN
  exact runs_of (C := cfg) (objs := []) (sc := t_.ev) (.k0 t_.pf (by kernel_rfl))
/-! ### kinfolkref09_Make_out -/
def kinfolkref09_Make_out (l : List E_kinfolkref09_Field) : List E_kinfolkref09_Field × Int → Res
  | (r1, r2) => ([(.one (.pv (.recs 3 (List.map E_kinfolkref09_Field.pv r1) false))), (.one (.pv (.int .i64 r2)))], [], [])
/-! ### kinfolkref09_Right_out -/
def kinfolkref09_Right_out (f : Int) (f2 : ByteArray) (f3 : ByteArray) : Int → Res
  | r1 => ([(.one (.pv (.int .i64 r1)))], [], [])
/-! ### kinfolkref08_Check_out -/
def kinfolkref08_Check_out (s : ByteArray) (most : Int) : Int → Res
  | r1 => ([(.one (.pv (.int .i64 r1)))], [], [])
/-! ### kinfolkref08_sign_2_out -/
def kinfolkref08_sign_2_out (s : ByteArray) (at_ : Int) : Int × Int × Bool → Res
  | (r1, r2, r3) => ([(.one (.pv (.int .i64 r1))), (.one (.pv (.int .i64 r2))), (.one (.pv (.bool r3)))], [], [])
/-! ### kinfolkref08_sign_C29 -/
def kinfolkref08_sign_C29_ex (s : ByteArray) (at_ : Int) (b : Int) (b2 : Bool) : (Int × Int × Int) ⊕ (Unit) → Ex × St
  | .inl (r1, r2, r3) => (.normal, ⟨[(0, (.av (.one (.pv (.str s))))), (1, (.av (.one (.pv (.int .i64 at_))))), (8, (.av (.one (.pv (.int .i64 r1))))), (9, (.av (.one (.pv (.int .i64 r2))))), (10, (.av (.one (.pv (.int .i64 r3)))))], [], []⟩)
  | .inr _ => (.ret, ⟨[(4, (.av (.one (.pv (.int .i64 0))))), (5, (.av (.one (.pv (.int .i64 1))))), (6, (.av (.one (.pv (.bool false)))))], [], []⟩)
noncomputable def kinfolkref08_sign_C29 (s : ByteArray) (at_ : Int) (b : Int) (b2 : Bool) : Option ((Int × Int × Int) ⊕ (Unit)) :=
  bif b2 then
    some (.inl (3, 2048, (isub .i64 b 224)))
  else
    bif (decide ((240 : Int) ≤ b)) then
      bif (decide ((b : Int) < 248)) then
        some (.inl (4, 65536, (isub .i64 b 240)))
      else
        some (.inr ())
    else
      some (.inr ())
theorem kinfolkref08_sign_C29_runs (s : ByteArray) (at_ : Int) (b : Int) (b2 : Bool) (r_ : (Int × Int × Int) ⊕ (Unit)) (h : kinfolkref08_sign_C29 s at_ b b2 = some r_) : LRuns Tryd.prog (lEnv Tryd.prog cfg 50 0).nt 0 (.cond (.tmp 29) (condAt Tryd.prog 50 29).1 (condAt Tryd.prog 50 29).2) ⟨[(0, (.av (.one (.pv (.str s))))), (1, (.av (.one (.pv (.int .i64 at_))))), (7, (.av (.one (.pv (.int .i64 b))))), (29, (.av (.one (.pv (.bool b2)))))], [], []⟩ (kinfolkref08_sign_C29_ex s at_ b b2 r_).1 (kinfolkref08_sign_C29_ex s at_ b b2 r_).2 := by
  unfold kinfolkref08_sign_C29 at h
  rcases cond_of h with ⟨h1, h⟩ | ⟨h1, h⟩
  · have h := some_of h
    subst h
    have t_ := tT h1 <| tN
    exact piece_ok (C := cfg) (sc := t_.ev) (.k0 t_.pf (by kernel_rfl))
  · rcases cond_of h with ⟨h2, h⟩ | ⟨h2, h⟩
    · rcases cond_of h with ⟨h3, h⟩ | ⟨h3, h⟩
      · have h := some_of h
        subst h
        have t_ := tF h1 <| tT h2 <| tT h3 <| tN
        exact piece_ok (C := cfg) (sc := t_.ev) (.k0 t_.pf (by kernel_rfl))
      · have h := some_of h
        subst h
        have t_ := tF h1 <| tT h2 <| tF h3 <| tN
        exact piece_ok (C := cfg) (sc := t_.ev) (.k0 t_.pf (by kernel_rfl))
    · have h := some_of h
      subst h
      have t_ := tF h1 <| tF h2 <| tF (rfl : false = false) <| tN
      exact piece_ok (C := cfg) (sc := t_.ev) (.k0 t_.pf (by kernel_rfl))
/-! ### kinfolkref08_sign_C20 -/
def kinfolkref08_sign_C20_ex (s : ByteArray) (at_ : Int) (b : Int) (b2 : Bool) : (Int × Int × Int) ⊕ (Unit) → Ex × St
  | .inl (r1, r2, r3) => (.normal, ⟨[(0, (.av (.one (.pv (.str s))))), (1, (.av (.one (.pv (.int .i64 at_))))), (8, (.av (.one (.pv (.int .i64 r1))))), (9, (.av (.one (.pv (.int .i64 r2))))), (10, (.av (.one (.pv (.int .i64 r3)))))], [], []⟩)
  | .inr _ => (.ret, ⟨[(4, (.av (.one (.pv (.int .i64 0))))), (5, (.av (.one (.pv (.int .i64 1))))), (6, (.av (.one (.pv (.bool false)))))], [], []⟩)
noncomputable def kinfolkref08_sign_C20 (s : ByteArray) (at_ : Int) (b : Int) (b2 : Bool) : Option ((Int × Int × Int) ⊕ (Unit)) :=
  bif b2 then
    some (.inl (2, 128, (isub .i64 b 192)))
  else
    bif (decide ((224 : Int) ≤ b)) then
      (kinfolkref08_sign_C29 s at_ b (decide ((b : Int) < 240))).bind fun z_ => match z_ with
      | .inl (n, n2, n3) =>
        some (.inl (n, n2, n3))
      | .inr _ =>
        some (.inr ())
    else
      bif (decide ((240 : Int) ≤ b)) then
        bif (decide ((b : Int) < 248)) then
          some (.inl (4, 65536, (isub .i64 b 240)))
        else
          some (.inr ())
      else
        some (.inr ())
theorem kinfolkref08_sign_C20_runs (s : ByteArray) (at_ : Int) (b : Int) (b2 : Bool) (r_ : (Int × Int × Int) ⊕ (Unit)) (h : kinfolkref08_sign_C20 s at_ b b2 = some r_) : LRuns Tryd.prog (lEnv Tryd.prog cfg 50 0).nt 0 (.cond (.tmp 20) (condAt Tryd.prog 50 20).1 (condAt Tryd.prog 50 20).2) ⟨[(0, (.av (.one (.pv (.str s))))), (1, (.av (.one (.pv (.int .i64 at_))))), (7, (.av (.one (.pv (.int .i64 b))))), (20, (.av (.one (.pv (.bool b2)))))], [], []⟩ (kinfolkref08_sign_C20_ex s at_ b b2 r_).1 (kinfolkref08_sign_C20_ex s at_ b b2 r_).2 := by
  unfold kinfolkref08_sign_C20 at h
  rcases cond_of h with ⟨h1, h⟩ | ⟨h1, h⟩
  · have h := some_of h
    subst h
    have t_ := tT h1 <| tN
    exact piece_ok (C := cfg) (sc := t_.ev) (.k0 t_.pf (by kernel_rfl))
  · rcases cond_of h with ⟨h2, h⟩ | ⟨h2, h⟩
    · obtain ⟨z_, h3, h⟩ := bind_of h
      rcases z_ with ⟨n, n2, n3⟩ | _
      · have h := some_of h
        subst h
        have t_ := tF h1 <| tT h2 <| tL (kinfolkref08_sign_C29_runs s at_ b (decide ((b : Int) < 240)) _ h3) <| tN
        exact piece_ok (C := cfg) (sc := t_.ev) (.k0 t_.pf (by kernel_rfl))
      · have h := some_of h
        subst h
        have t_ := tF h1 <| tT h2 <| tL (kinfolkref08_sign_C29_runs s at_ b (decide ((b : Int) < 240)) _ h3) <| tN
        exact piece_ok (C := cfg) (sc := t_.ev) (.k0 t_.pf (by kernel_rfl))
    · rcases cond_of h with ⟨h3, h⟩ | ⟨h3, h⟩
      · rcases cond_of h with ⟨h4, h⟩ | ⟨h4, h⟩
        · have h := some_of h
          subst h
          have t_ := tF h1 <| tF h2 <| tF (rfl : false = false) <| tT h3 <| tT h4 <| tN
          exact piece_ok (C := cfg) (sc := t_.ev) (.k0 t_.pf (by kernel_rfl))
        · have h := some_of h
          subst h
          have t_ := tF h1 <| tF h2 <| tF (rfl : false = false) <| tT h3 <| tF h4 <| tN
          exact piece_ok (C := cfg) (sc := t_.ev) (.k0 t_.pf (by kernel_rfl))
      · have h := some_of h
        subst h
        have t_ := tF h1 <| tF h2 <| tF (rfl : false = false) <| tF h3 <| tF (rfl : false = false) <| tN
        exact piece_ok (C := cfg) (sc := t_.ev) (.k0 t_.pf (by kernel_rfl))

end Go.Proofs.YteiikkpajcggfaaDoor
