/- What functions compute, and that they do. -/
import Derived.Test.YteiikkpajcggfaaGreatDoorA3
set_option linter.unusedVariables false
set_option linter.unusedSimpArgs false
set_option maxRecDepth 100000
namespace Go.Proofs.YteiikkpajcggfaaGreatDoor
open Go.Ev

/-! ### slices_Index_int -/
noncomputable def slices_Index_int (s : List Int) (v : Int) : Option (Int) :=
  (runL (slices_Index_int_L0_step s v ((s).length : Int)) 0).bind fun z_ => match z_ with
  | .inl n =>
    some n
  | .inr _ =>
    some (-1)
theorem slices_Index_int_runs (s : List Int) (v : Int) (r_ : Int) (h : slices_Index_int s v = some r_) : Runs Tryz.prog 94 [(.one (.pv (.ints .i64 s false))), (.one (.pv (.int .i64 v)))] [] [] (slices_Index_int_out s v r_) := by
  unfold slices_Index_int at h
  obtain ⟨z_, h1, h⟩ := bind_of h
  rcases z_ with n | _
  · have h := some_of h
    subst h
    have t_ := tL (slices_Index_int_L0_runs s v ((s).length : Int) _ _ h1) <| tN
    exact runs_of (C := cfg) (objs := []) (sc := t_.ev) (.k0 t_.pf (by kernel_rfl))
  · have h := some_of h
    subst h
    have t_ := tL (slices_Index_int_L0_runs s v ((s).length : Int) _ _ h1) <| tN
    exact runs_of (C := cfg) (objs := []) (sc := t_.ev) (.k0 t_.pf (by kernel_rfl))
/-! ### slices_Contains_int -/
noncomputable def slices_Contains_int (s : List Int) (v : Int) : Option (Bool) :=
  (slices_Index_int s v).bind fun n =>
  some (decide ((0 : Int) ≤ n))
theorem slices_Contains_int_runs (s : List Int) (v : Int) (r_ : Bool) (h : slices_Contains_int s v = some r_) : Runs Tryz.prog 55 [(.one (.pv (.ints .i64 s false))), (.one (.pv (.int .i64 v)))] [] [] (slices_Contains_int_out s v r_) := by
  unfold slices_Contains_int at h
  obtain ⟨n, h1, h⟩ := bind_of h
  have h := some_of h
  subst h
  have t_ := tR (slices_Index_int_runs s v _ h1) <| tN
  exact runs_of (C := cfg) (objs := []) (sc := t_.ev) (.k0 t_.pf (by kernel_rfl))
/-! ### slices_Contains_card_Field_out -/
def slices_Contains_card_Field_out (s : List E_card_Field) (v : Int) (v2 : ByteArray) (v3 : ByteArray) : Bool → Res
  | r1 => ([(.one (.pv (.bool r1)))], [], [])
/-! ### slices_Index_card_Field_out -/
def slices_Index_card_Field_out (s : List E_card_Field) (v : Int) (v2 : ByteArray) (v3 : ByteArray) : Int → Res
  | r1 => ([(.one (.pv (.int .i64 r1)))], [], [])
/-! ### slices_Index_card_Field_L0 -/
def slices_Index_card_Field_L0_st (s : List E_card_Field) (n : Int) (n2 : Int) (s2 : ByteArray) (s3 : ByteArray) : Int → St
  | n3 => ⟨[(0, (.av (.one (.pv (.recs 3 (List.map E_card_Field.pv s) false))))), (3, (.av (.one (.ref 0 0)))), (7, (.av (.one (.pv (.int .i64 n))))), (8, (.av (.one (.pv (.int .i64 n3)))))], [(0, [(.pv (.int .i64 n2)), (.pv (.str s2)), (.pv (.str s3))])], []⟩
def slices_Index_card_Field_L0_ex (s : List E_card_Field) (n : Int) (n2 : Int) (s2 : ByteArray) (s3 : ByteArray) : (Int) ⊕ (Unit) → Ex × St
  | .inl r1 => (.ret, ⟨[(4, (.av (.one (.pv (.int .i64 r1)))))], [], []⟩)
  | .inr _ => ((.exit 0), ⟨[], [(0, [(.pv (.int .i64 n2)), (.pv (.str s2)), (.pv (.str s3))])], []⟩)
noncomputable def slices_Index_card_Field_L0_step (s : List E_card_Field) (n : Int) (n2 : Int) (s2 : ByteArray) (s3 : ByteArray) : Int → Option ((Int) ⊕ ((Int) ⊕ (Unit)))
  | n3 =>
  bif (decide ((n3 : Int) < n)) then
    bif decide ((0 : Int) ≤ n3) && decide ((n3 : Int) < (((List.map E_card_Field.pv s)).length : Int)) then
    (s[(n3).toNat]?).bind fun e_ => match e_ with
    | .mk n4 s4 s5 =>
    bif ((decide ((n2 : Int) = n4)) && ((decide ((s2 : ByteArray) = s4)) && ((decide ((s3 : ByteArray) = s5)) && true))) then
      some (.inr (.inl n3))
    else
      some (.inl (iadd .i64 n3 1))
    else none
  else
    some (.inr (.inr ()))
theorem slices_Index_card_Field_L0_ok (s : List E_card_Field) (n : Int) (n2 : Int) (s2 : ByteArray) (s3 : ByteArray) (n3 : Int) (z_ : (Int) ⊕ ((Int) ⊕ (Unit))) (h : slices_Index_card_Field_L0_step s n n2 s2 s3 n3 = some z_) : RoundOk Tryz.prog cfg 67 0 (loopAt Tryz.prog 67 0) (slices_Index_card_Field_L0_st s n n2 s2 s3) (slices_Index_card_Field_L0_ex s n n2 s2 s3) n3 z_ := by
  rcases cond_of h with ⟨h1, h⟩ | ⟨h1, h⟩
  · obtain ⟨h2, h⟩ := need_of h
    obtain ⟨⟨n4, s4, s5⟩, h3, h⟩ := bind_of h
    rcases cond_of h with ⟨h4, h⟩ | ⟨h4, h⟩
    · have h := some_of h
      subst h
      have t_ := tT h1 <| tO h2 <| tE (.el [(.int .i64 n4), (.str s4), (.str s5)]) <| tO (el_of (f := E_card_Field.pv) h3) <| tT h4 <| tN
      exact ⟨t_.ev, (slices_Index_card_Field_L0_ex s n n2 s2 s3 (.inl n3)).2, .k0 t_.pf (by kernel_rfl), .same (by kernel_rfl)⟩
    · have h := some_of h
      subst h
      have t_ := tT h1 <| tO h2 <| tE (.el [(.int .i64 n4), (.str s4), (.str s5)]) <| tO (el_of (f := E_card_Field.pv) h3) <| tF h4 <| tN
      exact ⟨t_.ev, slices_Index_card_Field_L0_st s n n2 s2 s3 (iadd .i64 n3 1), .k0 t_.pf (by kernel_rfl), .same (by kernel_rfl)⟩
  · have h := some_of h
    subst h
    have t_ := tF h1 <| tN
    exact ⟨t_.ev, ⟨[(9, (.av (.one (.pv (.bool false))))), (0, (.av (.one (.pv (.recs 3 (List.map E_card_Field.pv s) false))))), (3, (.av (.one (.ref 0 0)))), (7, (.av (.one (.pv (.int .i64 n))))), (8, (.av (.one (.pv (.int .i64 n3))))), (9, (.av (.one (.pv (.bool (decide ((n3 : Int) < n)))))))], [(0, [(.pv (.int .i64 n2)), (.pv (.str s2)), (.pv (.str s3))])], []⟩, .k0 t_.pf (by kernel_rfl), ⟨trivial, ⟨⟨rfl, ⟨.eq rfl, .eq rfl, .eq rfl, trivial⟩⟩, trivial⟩, trivial⟩⟩
theorem slices_Index_card_Field_L0_runs (s : List E_card_Field) (n : Int) (n2 : Int) (s2 : ByteArray) (s3 : ByteArray) (s_ : Int) (r_ : (Int) ⊕ (Unit)) (h : runL (slices_Index_card_Field_L0_step s n n2 s2 s3) s_ = some r_) : LRuns Tryz.prog (lEnv Tryz.prog cfg 67 0).nt 0 (.loop (loopAt Tryz.prog 67 0)) (slices_Index_card_Field_L0_st s n n2 s2 s3 s_) (slices_Index_card_Field_L0_ex s n n2 s2 s3 r_).1 (slices_Index_card_Field_L0_ex s n n2 s2 s3 r_).2 :=
  loop_run h (slices_Index_card_Field_L0_ok s n n2 s2 s3) (by intro r_; rcases r_ with r1 | _ <;> simp [slices_Index_card_Field_L0_ex])
/-! ### slices_Index_card_Field -/
noncomputable def slices_Index_card_Field (s : List E_card_Field) (v : Int) (v2 : ByteArray) (v3 : ByteArray) : Option (Int) :=
  (runL (slices_Index_card_Field_L0_step s (((List.map E_card_Field.pv s)).length : Int) v v2 v3) 0).bind fun z_ => match z_ with
  | .inl n =>
    some n
  | .inr _ =>
    some (-1)
theorem slices_Index_card_Field_runs (s : List E_card_Field) (v : Int) (v2 : ByteArray) (v3 : ByteArray) (r_ : Int) (h : slices_Index_card_Field s v v2 v3 = some r_) : Runs Tryz.prog 67 [(.one (.pv (.recs 3 (List.map E_card_Field.pv s) false))), (.agg [(.pv (.int .i64 v)), (.pv (.str v2)), (.pv (.str v3))])] [] [] (slices_Index_card_Field_out s v v2 v3 r_) := by
  unfold slices_Index_card_Field at h
  obtain ⟨z_, h1, h⟩ := bind_of h
  rcases z_ with n | _
  · have h := some_of h
    subst h
    have t_ := tL (slices_Index_card_Field_L0_runs s (((List.map E_card_Field.pv s)).length : Int) v v2 v3 _ _ h1) <| tN
    exact runs_of (C := cfg) (objs := []) (sc := t_.ev) (.k0 t_.pf (by kernel_rfl))
  · have h := some_of h
    subst h
    have t_ := tL (slices_Index_card_Field_L0_runs s (((List.map E_card_Field.pv s)).length : Int) v v2 v3 _ _ h1) <| tN
    exact runs_of (C := cfg) (objs := []) (sc := t_.ev) (.k0 t_.pf (by kernel_rfl))
/-! ### slices_Contains_card_Field -/
noncomputable def slices_Contains_card_Field (s : List E_card_Field) (v : Int) (v2 : ByteArray) (v3 : ByteArray) : Option (Bool) :=
  (slices_Index_card_Field s v v2 v3).bind fun n =>
  some (decide ((0 : Int) ≤ n))
theorem slices_Contains_card_Field_runs (s : List E_card_Field) (v : Int) (v2 : ByteArray) (v3 : ByteArray) (r_ : Bool) (h : slices_Contains_card_Field s v v2 v3 = some r_) : Runs Tryz.prog 22 [(.one (.pv (.recs 3 (List.map E_card_Field.pv s) false))), (.agg [(.pv (.int .i64 v)), (.pv (.str v2)), (.pv (.str v3))])] [] [] (slices_Contains_card_Field_out s v v2 v3 r_) := by
  unfold slices_Contains_card_Field at h
  obtain ⟨n, h1, h⟩ := bind_of h
  have h := some_of h
  subst h
  have t_ := tR (slices_Index_card_Field_runs s v v2 v3 _ h1) <| tN
  exact runs_of (C := cfg) (objs := []) (sc := t_.ev) (.k0 t_.pf (by kernel_rfl))
/-! ### card_Card_Patch_1 -/
noncomputable def card_Card_Patch_1 (f : Int) (f2 : ByteArray) (f3 : ByteArray) (r : List E_card_Field) (r2 : List E_card_Field) (l : List Int) : Option (Bool) :=
  (slices_Contains_int l f).bind fun b =>
  bif b then
    some true
  else
    (slices_Contains_card_Field r2 f f2 f3).bind fun b2 =>
    some b2
theorem card_Card_Patch_1_runs (f : Int) (f2 : ByteArray) (f3 : ByteArray) (r : List E_card_Field) (r2 : List E_card_Field) (l : List Int) (r_ : Bool) (h : card_Card_Patch_1 f f2 f3 r r2 l = some r_) : Runs Tryz.prog 54 [(.agg [(.pv (.int .i64 f)), (.pv (.str f2)), (.pv (.str f3))]), (.one (.ref 0 0))] [[(.pv (.recs 3 (List.map E_card_Field.pv r) false)), (.pv (.recs 3 (List.map E_card_Field.pv r2) false)), (.pv (.ints .i64 l false))]] [] (card_Card_Patch_1_out f f2 f3 r r2 l r_) := by
  unfold card_Card_Patch_1 at h
  obtain ⟨b, h1, h⟩ := bind_of h
  rcases cond_of h with ⟨h2, h⟩ | ⟨h2, h⟩
  · have h := some_of h
    subst h
    have t_ := tR (slices_Contains_int_runs l f _ h1) <| tT h2 <| tN
    exact runs_of (C := cfg) (objs := [[(.pv (.recs 3 (List.map E_card_Field.pv r) false)), (.pv (.recs 3 (List.map E_card_Field.pv r2) false)), (.pv (.ints .i64 l false))]]) (sc := t_.ev) (.k0 t_.pf (by kernel_rfl))
  · obtain ⟨b2, h3, h⟩ := bind_of h
    have h := some_of h
    subst h
    have t_ := tR (slices_Contains_int_runs l f _ h1) <| tF h2 <| tR (slices_Contains_card_Field_runs r2 f f2 f3 _ h3) <| tN
    exact runs_of (C := cfg) (objs := [[(.pv (.recs 3 (List.map E_card_Field.pv r) false)), (.pv (.recs 3 (List.map E_card_Field.pv r2) false)), (.pv (.ints .i64 l false))]]) (sc := t_.ev) (.k0 t_.pf (by kernel_rfl))
/-! ### slices_IndexFunc_card_Field_L0_2 -/
def slices_IndexFunc_card_Field_L0_2_st (s : List E_card_Field) (n : Int) (r : List E_card_Field) (r2 : List E_card_Field) (l : List Int) : Int → St
  | n2 => ⟨[(0, (.av (.one (.bor (.recs 3 (List.map E_card_Field.pv s) false))))), (1, (.av (.one (.fn 54 [(.ref 0 0)])))), (7, (.av (.one (.pv (.int .i64 n))))), (8, (.av (.one (.pv (.int .i64 n2)))))], [(0, [(.pv (.recs 3 (List.map E_card_Field.pv r) false)), (.pv (.recs 3 (List.map E_card_Field.pv r2) false)), (.pv (.ints .i64 l false))])], []⟩
def slices_IndexFunc_card_Field_L0_2_ex (s : List E_card_Field) (n : Int) (r : List E_card_Field) (r2 : List E_card_Field) (l : List Int) : (Int) ⊕ (Unit) → Ex × St
  | .inl r1 => (.ret, ⟨[(4, (.av (.one (.pv (.int .i64 r1)))))], [(0, [(.pv (.recs 3 (List.map E_card_Field.pv r) false)), (.pv (.recs 3 (List.map E_card_Field.pv r2) false)), (.pv (.ints .i64 l false))])], []⟩)
  | .inr _ => ((.exit 0), ⟨[], [(0, [(.pv (.recs 3 (List.map E_card_Field.pv r) false)), (.pv (.recs 3 (List.map E_card_Field.pv r2) false)), (.pv (.ints .i64 l false))])], []⟩)
noncomputable def slices_IndexFunc_card_Field_L0_2_step (s : List E_card_Field) (n : Int) (r : List E_card_Field) (r2 : List E_card_Field) (l : List Int) : Int → Option ((Int) ⊕ ((Int) ⊕ (Unit)))
  | n2 =>
  bif (decide ((n2 : Int) < n)) then
    bif decide ((0 : Int) ≤ n2) && decide ((n2 : Int) < (((List.map E_card_Field.pv s)).length : Int)) then
    (s[(n2).toNat]?).bind fun e_ => match e_ with
    | .mk n3 s2 s3 =>
    (card_Card_Patch_1 n3 s2 s3 r r2 l).bind fun b =>
    bif b then
      some (.inr (.inl n2))
    else
      some (.inl (iadd .i64 n2 1))
    else none
  else
    some (.inr (.inr ()))
theorem slices_IndexFunc_card_Field_L0_2_ok (s : List E_card_Field) (n : Int) (r : List E_card_Field) (r2 : List E_card_Field) (l : List Int) (n2 : Int) (z_ : (Int) ⊕ ((Int) ⊕ (Unit))) (h : slices_IndexFunc_card_Field_L0_2_step s n r r2 l n2 = some z_) : RoundOk Tryz.prog cfg 98 1 (loopAt Tryz.prog 98 0) (slices_IndexFunc_card_Field_L0_2_st s n r r2 l) (slices_IndexFunc_card_Field_L0_2_ex s n r r2 l) n2 z_ := by
  rcases cond_of h with ⟨h1, h⟩ | ⟨h1, h⟩
  · obtain ⟨h2, h⟩ := need_of h
    obtain ⟨⟨n3, s2, s3⟩, h3, h⟩ := bind_of h
    obtain ⟨b, h4, h⟩ := bind_of h
    rcases cond_of h with ⟨h5, h⟩ | ⟨h5, h⟩
    · have h := some_of h
      subst h
      have t_ := tT h1 <| tO h2 <| tE (.el [(.int .i64 n3), (.str s2), (.str s3)]) <| tO (el_of (f := E_card_Field.pv) h3) <| tR (card_Card_Patch_1_runs n3 s2 s3 r r2 l _ h4) <| tT h5 <| tN
      exact ⟨t_.ev, (slices_IndexFunc_card_Field_L0_2_ex s n r r2 l (.inl n2)).2, .k0 t_.pf (by kernel_rfl), .same (by kernel_rfl)⟩
    · have h := some_of h
      subst h
      have t_ := tT h1 <| tO h2 <| tE (.el [(.int .i64 n3), (.str s2), (.str s3)]) <| tO (el_of (f := E_card_Field.pv) h3) <| tR (card_Card_Patch_1_runs n3 s2 s3 r r2 l _ h4) <| tF h5 <| tN
      exact ⟨t_.ev, slices_IndexFunc_card_Field_L0_2_st s n r r2 l (iadd .i64 n2 1), .k0 t_.pf (by kernel_rfl), .same (by kernel_rfl)⟩
  · have h := some_of h
    subst h
    have t_ := tF h1 <| tN
    exact ⟨t_.ev, ⟨[(9, (.av (.one (.pv (.bool false))))), (0, (.av (.one (.bor (.recs 3 (List.map E_card_Field.pv s) false))))), (1, (.av (.one (.fn 54 [(.ref 0 0)])))), (7, (.av (.one (.pv (.int .i64 n))))), (8, (.av (.one (.pv (.int .i64 n2))))), (9, (.av (.one (.pv (.bool (decide ((n2 : Int) < n)))))))], [(0, [(.pv (.recs 3 (List.map E_card_Field.pv r) false)), (.pv (.recs 3 (List.map E_card_Field.pv r2) false)), (.pv (.ints .i64 l false))])], []⟩, .k0 t_.pf (by kernel_rfl), ⟨trivial, ⟨⟨rfl, ⟨.eq rfl, .eq rfl, .eq rfl, trivial⟩⟩, trivial⟩, trivial⟩⟩
theorem slices_IndexFunc_card_Field_L0_2_runs (s : List E_card_Field) (n : Int) (r : List E_card_Field) (r2 : List E_card_Field) (l : List Int) (s_ : Int) (r_ : (Int) ⊕ (Unit)) (h : runL (slices_IndexFunc_card_Field_L0_2_step s n r r2 l) s_ = some r_) : LRuns Tryz.prog (lEnv Tryz.prog cfg 98 1).nt 1 (.loop (loopAt Tryz.prog 98 0)) (slices_IndexFunc_card_Field_L0_2_st s n r r2 l s_) (slices_IndexFunc_card_Field_L0_2_ex s n r r2 l r_).1 (slices_IndexFunc_card_Field_L0_2_ex s n r r2 l r_).2 :=
  loop_run h (slices_IndexFunc_card_Field_L0_2_ok s n r r2 l) (by intro r_; rcases r_ with r1 | _ <;> simp [slices_IndexFunc_card_Field_L0_2_ex])
/-! ### slices_IndexFunc_card_Field_2 -/
noncomputable def slices_IndexFunc_card_Field_2 (s : List E_card_Field) (r : List E_card_Field) (r2 : List E_card_Field) (l : List Int) : Option (Int) :=
  (runL (slices_IndexFunc_card_Field_L0_2_step s (((List.map E_card_Field.pv s)).length : Int) r r2 l) 0).bind fun z_ => match z_ with
  | .inl n =>
    some n
  | .inr _ =>
    some (-1)
theorem slices_IndexFunc_card_Field_2_runs (s : List E_card_Field) (r : List E_card_Field) (r2 : List E_card_Field) (l : List Int) (r_ : Int) (h : slices_IndexFunc_card_Field_2 s r r2 l = some r_) : Runs Tryz.prog 98 [(.one (.bor (.recs 3 (List.map E_card_Field.pv s) false))), (.one (.fn 54 [(.ref 0 0)]))] [[(.pv (.recs 3 (List.map E_card_Field.pv r) false)), (.pv (.recs 3 (List.map E_card_Field.pv r2) false)), (.pv (.ints .i64 l false))]] [] (slices_IndexFunc_card_Field_2_out s r r2 l r_) := by
  unfold slices_IndexFunc_card_Field_2 at h
  obtain ⟨z_, h1, h⟩ := bind_of h
  rcases z_ with n | _
  · have h := some_of h
    subst h
    have t_ := tL (slices_IndexFunc_card_Field_L0_2_runs s (((List.map E_card_Field.pv s)).length : Int) r r2 l _ _ h1) <| tN
    exact runs_of (C := cfg) (objs := [[(.pv (.recs 3 (List.map E_card_Field.pv r) false)), (.pv (.recs 3 (List.map E_card_Field.pv r2) false)), (.pv (.ints .i64 l false))]]) (sc := t_.ev) (.k0 t_.pf (by kernel_rfl))
  · have h := some_of h
    subst h
    have t_ := tL (slices_IndexFunc_card_Field_L0_2_runs s (((List.map E_card_Field.pv s)).length : Int) r r2 l _ _ h1) <| tN
    exact runs_of (C := cfg) (objs := [[(.pv (.recs 3 (List.map E_card_Field.pv r) false)), (.pv (.recs 3 (List.map E_card_Field.pv r2) false)), (.pv (.ints .i64 l false))]]) (sc := t_.ev) (.k0 t_.pf (by kernel_rfl))
/-! ### slices_DeleteFunc_card_Field_L0_2 -/
def slices_DeleteFunc_card_Field_L0_2_st (r : List E_card_Field) (r2 : List E_card_Field) (l : List Int) : Int × Int × List E_card_Field → St
  | (i, j, r3) => ⟨[(0, (.av (.one (.own 0 0 ((List.map E_card_Field.pv r3)).length false)))), (1, (.av (.one (.fn 54 [(.ref 0 0)])))), (5, (.av (.one (.pv (.int .i64 i))))), (6, (.av (.one (.pv (.int .i64 j)))))], [(0, [(.pv (.recs 3 (List.map E_card_Field.pv r) false)), (.pv (.recs 3 (List.map E_card_Field.pv r2) false)), (.pv (.ints .i64 l false))])], [(0, (.live (.recs 3 (List.map E_card_Field.pv r3))))]⟩
def slices_DeleteFunc_card_Field_L0_2_ex (r : List E_card_Field) (r2 : List E_card_Field) (l : List Int) : Int × List E_card_Field → Ex × St
  | (r1, r3) => ((.exit 0), ⟨[(0, (.av (.one (.own 0 0 ((List.map E_card_Field.pv r3)).length false)))), (5, (.av (.one (.pv (.int .i64 r1)))))], [(0, [(.pv (.recs 3 (List.map E_card_Field.pv r) false)), (.pv (.recs 3 (List.map E_card_Field.pv r2) false)), (.pv (.ints .i64 l false))])], [(0, (.live (.recs 3 (List.map E_card_Field.pv r3))))]⟩)
noncomputable def slices_DeleteFunc_card_Field_L0_2_step (r : List E_card_Field) (r2 : List E_card_Field) (l : List Int) : Int × Int × List E_card_Field → Option ((Int × Int × List E_card_Field) ⊕ (Int × List E_card_Field))
  | (i, j, r3) =>
  bif (decide ((j : Int) < (((List.map E_card_Field.pv r3)).length : Int))) then
    bif decide ((0 : Int) ≤ j) && decide ((j : Int) < (((List.map E_card_Field.pv r3)).length : Int)) then
    (r3[(0 + (j).toNat)]?).bind fun e_ => match e_ with
    | .mk n s s2 =>
    (card_Card_Patch_1 n s s2 r r2 l).bind fun b =>
    bif b then
      some (.inl (i, (iadd .i64 j 1), r3))
    else
      bif decide ((0 : Int) ≤ i) && decide ((i : Int) < (((List.map E_card_Field.pv r3)).length : Int)) then
      some (.inl ((iadd .i64 i 1), (iadd .i64 j 1), (r3.set (0 + (i).toNat) (E_card_Field.mk n s s2))))
      else none
    else none
  else
    some (.inr (i, r3))
theorem slices_DeleteFunc_card_Field_L0_2_ok (r : List E_card_Field) (r2 : List E_card_Field) (l : List Int) (s_ : Int × Int × List E_card_Field) (z_ : (Int × Int × List E_card_Field) ⊕ (Int × List E_card_Field)) (h : slices_DeleteFunc_card_Field_L0_2_step r r2 l s_ = some z_) : RoundOk Tryz.prog cfg 57 1 (loopAt Tryz.prog 57 0) (slices_DeleteFunc_card_Field_L0_2_st r r2 l) (slices_DeleteFunc_card_Field_L0_2_ex r r2 l) s_ z_ := by
  rcases s_ with ⟨i, j, r3⟩
  rcases cond_of h with ⟨h1, h⟩ | ⟨h1, h⟩
  · obtain ⟨h2, h⟩ := need_of h
    obtain ⟨⟨n, s, s2⟩, h3, h⟩ := bind_of h
    obtain ⟨b, h4, h⟩ := bind_of h
    rcases cond_of h with ⟨h5, h⟩ | ⟨h5, h⟩
    · have h := some_of h
      subst h
      have t_ := tT h1 <| tO h2 <| tE (.el [(.int .i64 n), (.str s), (.str s2)]) <| tO (el_of (f := E_card_Field.pv) h3) <| tR (card_Card_Patch_1_runs n s s2 r r2 l _ h4) <| tF (not_of2 h5) <| tN
      exact ⟨t_.ev, slices_DeleteFunc_card_Field_L0_2_st r r2 l (i, (iadd .i64 j 1), r3), .k0 t_.pf (by kernel_rfl), .same (by kernel_rfl)⟩
    · obtain ⟨h6, h⟩ := need_of h
      have h := some_of h
      subst h
      have t_ := tT h1 <| tO h2 <| tE (.el [(.int .i64 n), (.str s), (.str s2)]) <| tO (el_of (f := E_card_Field.pv) h3) <| tR (card_Card_Patch_1_runs n s s2 r r2 l _ h4) <| tT (not_of h5) <| tO h6 <| tN
      exact ⟨t_.ev, ⟨[(0, (.av (.one (.own 0 0 ((List.map E_card_Field.pv r3)).length false)))), (1, (.av (.one (.fn 54 [(.ref 0 0)])))), (5, (.av (.one (.pv (.int .i64 (iadd .i64 i 1)))))), (6, (.av (.one (.pv (.int .i64 (iadd .i64 j 1))))))], [(0, [(.pv (.recs 3 (List.map E_card_Field.pv r) false)), (.pv (.recs 3 (List.map E_card_Field.pv r2) false)), (.pv (.ints .i64 l false))])], [(0, (.live (.recs 3 ((List.map E_card_Field.pv r3).set (0 + (i).toNat) (setL ((List.map E_card_Field.pv r3).getD (0 + (i).toNat) []) 0 [(.int .i64 n), (.str s), (.str s2)])))))]⟩, .k0 t_.pf (by kernel_rfl), ⟨⟨⟨_, rfl, .own (by first | rfl | (simp only [List.take_length]; done) | (simp only [List.take_length, List.length_append, List.drop_zero, List.map_append, List.map_take, List.map_drop, List.map_replicate, List.map_cons, List.map_nil, List.append_nil, List.nil_append, E_card_Field.pv, E_L_card_Field.pv, E_kinfolkref09_Field.pv, E_card_Field.upd, E_L_card_Field.upd, E_kinfolkref09_Field.upd]; done) | (simp; done))⟩, ⟨_, rfl, .eq rfl⟩, ⟨_, rfl, .eq rfl⟩, ⟨_, rfl, .eq rfl⟩, trivial⟩, ⟨⟨rfl, ⟨.eq rfl, .eq rfl, .eq rfl, trivial⟩⟩, trivial⟩, ⟨⟨rfl, .recs (.eq (by first | rfl | (simp only [List.take_length]; done) | (simp only [List.take_length, List.length_append, List.drop_zero, List.map_append, List.map_take, List.map_drop, List.map_replicate, List.map_cons, List.map_nil, List.append_nil, List.nil_append, E_card_Field.pv, E_L_card_Field.pv, E_kinfolkref09_Field.pv, E_card_Field.upd, E_L_card_Field.upd, E_kinfolkref09_Field.upd]; done) | (simp; done)))⟩, trivial⟩⟩⟩
  · have h := some_of h
    subst h
    have t_ := tF h1 <| tN
    exact ⟨t_.ev, ⟨[(19, (.av (.one (.pv (.bool false))))), (0, (.av (.one (.own 0 0 ((List.map E_card_Field.pv r3)).length false)))), (1, (.av (.one (.fn 54 [(.ref 0 0)])))), (5, (.av (.one (.pv (.int .i64 i))))), (6, (.av (.one (.pv (.int .i64 j))))), (19, (.av (.one (.pv (.bool (decide ((j : Int) < (((List.map E_card_Field.pv r3)).length : Int))))))))], [(0, [(.pv (.recs 3 (List.map E_card_Field.pv r) false)), (.pv (.recs 3 (List.map E_card_Field.pv r2) false)), (.pv (.ints .i64 l false))])], [(0, (.live (.recs 3 (List.map E_card_Field.pv r3))))]⟩, .k0 t_.pf (by kernel_rfl), ⟨⟨⟨_, rfl, .eq rfl⟩, ⟨_, rfl, .eq rfl⟩, trivial⟩, ⟨⟨rfl, ⟨.eq rfl, .eq rfl, .eq rfl, trivial⟩⟩, trivial⟩, ⟨⟨rfl, .eq rfl⟩, trivial⟩⟩⟩
theorem slices_DeleteFunc_card_Field_L0_2_runs (r : List E_card_Field) (r2 : List E_card_Field) (l : List Int) (s_ : Int × Int × List E_card_Field) (r_ : Int × List E_card_Field) (h : runL (slices_DeleteFunc_card_Field_L0_2_step r r2 l) s_ = some r_) : LRuns Tryz.prog (lEnv Tryz.prog cfg 57 1).nt 1 (.loop (loopAt Tryz.prog 57 0)) (slices_DeleteFunc_card_Field_L0_2_st r r2 l s_) (slices_DeleteFunc_card_Field_L0_2_ex r r2 l r_).1 (slices_DeleteFunc_card_Field_L0_2_ex r r2 l r_).2 :=
  loop_run h (slices_DeleteFunc_card_Field_L0_2_ok r r2 l) (by intro r_; rcases r_ with ⟨r1, r3⟩ <;> simp [slices_DeleteFunc_card_Field_L0_2_ex])
/-! ### slices_DeleteFunc_card_Field_2 -/
noncomputable def slices_DeleteFunc_card_Field_2 (r : List E_card_Field) (r2 : List E_card_Field) (l : List Int) (r3 : List E_card_Field) : Option ((Unit) ⊕ (Nat × List E_card_Field)) :=
  (slices_IndexFunc_card_Field_2 (List.take ((List.map E_card_Field.pv r3)).length r3) r r2 l).bind fun n =>
  bif (decide ((n : Int) = (-1))) then
    some (.inl ())
  else
    (runL (slices_DeleteFunc_card_Field_L0_2_step r r2 l) (n, (iadd .i64 n 1), r3)).bind fun (n2, r4) =>
    bif decide ((0 : Int) ≤ n2) && decide ((n2 : Int) ≤ (((List.map E_card_Field.pv r4)).length : Int)) && decide (((((List.map E_card_Field.pv r4)).length : Int) : Int) ≤ (((List.map E_card_Field.pv r4)).length : Int)) && decide (((((List.map E_card_Field.pv r4)).length : Int) : Int) = (((List.map E_card_Field.pv r4)).length : Int)) then
    bif decide ((0 : Int) ≤ 0) && decide ((0 : Int) ≤ n2) && decide ((n2 : Int) ≤ (((List.map E_card_Field.pv r4)).length : Int)) && decide ((n2 : Int) = n2) then
    some (.inr ((n2 - 0).toNat, (List.take (0 + (n2).toNat) r4 ++ (List.replicate ((((List.map E_card_Field.pv r4)).length : Int) - n2).toNat (E_card_Field.mk 0 (⟨#[]⟩ : ByteArray) (⟨#[]⟩ : ByteArray)) ++ List.drop ((0 + (n2).toNat) + ((((List.map E_card_Field.pv r4)).length : Int) - n2).toNat) r4))))
    else none
    else none
theorem slices_DeleteFunc_card_Field_2_runs (r : List E_card_Field) (r2 : List E_card_Field) (l : List Int) (r3 : List E_card_Field) (r_ : (Unit) ⊕ (Nat × List E_card_Field)) (h : slices_DeleteFunc_card_Field_2 r r2 l r3 = some r_) : Runs Tryz.prog 57 [(.one (.own 0 0 ((List.map E_card_Field.pv r3)).length false)), (.one (.fn 54 [(.ref 0 0)]))] [[(.pv (.recs 3 (List.map E_card_Field.pv r) false)), (.pv (.recs 3 (List.map E_card_Field.pv r2) false)), (.pv (.ints .i64 l false))]] [(.recs 3 (List.map E_card_Field.pv r3))] (slices_DeleteFunc_card_Field_2_out r r2 l r3 r_) := by
  unfold slices_DeleteFunc_card_Field_2 at h
  obtain ⟨n, h1, h⟩ := bind_of h
  have q_1 := (Runs.coe (as' := [(.one (.bor (.recs 3 (List.take ((List.map E_card_Field.pv r3)).length (List.map E_card_Field.pv r3)) false))), (.one (.fn 54 [(.ref 0 0)]))]) (objs' := [[(.pv (.recs 3 (List.map E_card_Field.pv r) false)), (.pv (.recs 3 (List.map E_card_Field.pv r2) false)), (.pv (.ints .i64 l false))]]) (rows' := []) (slices_IndexFunc_card_Field_2_runs (List.take ((List.map E_card_Field.pv r3)).length r3) r r2 l _ h1) ⟨.bor (.recsT (.eq (by first | rfl | (simp only [List.take_length]; done) | (simp only [List.take_length, List.length_append, List.drop_zero, List.map_append, List.map_take, List.map_drop, List.map_replicate, List.map_cons, List.map_nil, List.append_nil, List.nil_append, E_card_Field.pv, E_L_card_Field.pv, E_kinfolkref09_Field.pv, E_card_Field.upd, E_L_card_Field.upd, E_kinfolkref09_Field.upd]; done) | (simp; done)))), .eq rfl, trivial⟩ ⟨⟨.eq rfl, .eq rfl, .eq rfl, trivial⟩, trivial⟩ trivial)
  rcases cond_of h with ⟨h2, h⟩ | ⟨h2, h⟩
  · have h := some_of h
    subst h
    have t_ := tR q_1 <| tT h2 <| tN
    exact runs_of (C := cfg) (objs := [[(.pv (.recs 3 (List.map E_card_Field.pv r) false)), (.pv (.recs 3 (List.map E_card_Field.pv r2) false)), (.pv (.ints .i64 l false))]]) (sc := t_.ev) (.k0 t_.pf (by kernel_rfl))
  · obtain ⟨⟨n2, r4⟩, h3, h⟩ := bind_of h
    obtain ⟨h4, h⟩ := need_of h
    obtain ⟨h5, h⟩ := need_of h
    have h := some_of h
    subst h
    have t_ := tR q_1 <| tF h2 <| tL (slices_DeleteFunc_card_Field_L0_2_runs r r2 l _ _ h3) <| tO h4 <| tO h5 <| tN
    have e_ : Runs Tryz.prog 57 [(.one (.own 0 0 ((List.map E_card_Field.pv r3)).length false)), (.one (.fn 54 [(.ref 0 0)]))] [[(.pv (.recs 3 (List.map E_card_Field.pv r) false)), (.pv (.recs 3 (List.map E_card_Field.pv r2) false)), (.pv (.ints .i64 l false))]] [(.recs 3 (List.map E_card_Field.pv r3))] ([(.one (.own 0 0 (n2 - 0).toNat false))], [[(.pv (.recs 3 (List.map E_card_Field.pv r) false)), (.pv (.recs 3 (List.map E_card_Field.pv r2) false)), (.pv (.ints .i64 l false))]], [(.recs 3 (List.take (0 + (n2).toNat) (List.map E_card_Field.pv r4) ++ (List.replicate ((((List.map E_card_Field.pv r4)).length : Int) - n2).toNat [(.int .i64 0), (.str (⟨#[]⟩ : ByteArray)), (.str (⟨#[]⟩ : ByteArray))] ++ List.drop ((0 + (n2).toNat) + ((((List.map E_card_Field.pv r4)).length : Int) - n2).toNat) (List.map E_card_Field.pv r4))))]) := runs_of (C := cfg) (objs := [[(.pv (.recs 3 (List.map E_card_Field.pv r) false)), (.pv (.recs 3 (List.map E_card_Field.pv r2) false)), (.pv (.ints .i64 l false))]]) (sc := t_.ev) (.k0 t_.pf (by kernel_rfl))
    exact e_.out ⟨.eq rfl, trivial⟩ ⟨⟨.eq rfl, .eq rfl, .eq rfl, trivial⟩, trivial⟩ ⟨.recs (.eq (by first | rfl | (simp only [List.take_length]; done) | (simp only [List.take_length, List.length_append, List.drop_zero, List.map_append, List.map_take, List.map_drop, List.map_replicate, List.map_cons, List.map_nil, List.append_nil, List.nil_append, E_card_Field.pv, E_L_card_Field.pv, E_kinfolkref09_Field.pv, E_card_Field.upd, E_L_card_Field.upd, E_kinfolkref09_Field.upd]; done) | (simp; done))), trivial⟩ rfl
/-! ### card_Card_Patch -/
noncomputable def card_Card_Patch (c : List E_card_Field) (p : List E_card_Field) (p2 : List E_card_Field) (p3 : List Int) : Option (List E_card_Field × Int) :=
  (card_Make p).bind fun (r, n) =>
  bif (decide ((n : Int) = 0)) then
    (card_Card_Fields c).bind fun _ =>
    (slices_DeleteFunc_card_Field_2 p p2 p3 c).bind fun z_ => match z_ with
    | .inl _ =>
      bif fits (((List.map E_card_Field.pv c) ++ (List.map E_card_Field.pv p))).length then
      (card_made (List.take (((List.map E_card_Field.pv c) ++ (List.map E_card_Field.pv p))).length (c ++ p))).bind fun r2 =>
      (card_Card_Len r2).bind fun n2 =>
      bif (decide ((8 : Int) < n2)) then
        some (c, 8)
      else
        some (r2, 0)
      else none
    | .inr (k, r2) =>
      bif Nat.ble k ((List.map E_card_Field.pv r2)).length then
      bif Nat.beq k ((List.take k (List.map E_card_Field.pv r2))).length then
      bif fits (((List.take k (List.map E_card_Field.pv r2)) ++ (List.map E_card_Field.pv p))).length then
      (card_made (List.take (((List.take k (List.map E_card_Field.pv r2)) ++ (List.map E_card_Field.pv p))).length ((List.take k r2) ++ p))).bind fun r3 =>
      (card_Card_Len r3).bind fun n2 =>
      bif (decide ((8 : Int) < n2)) then
        some (c, 8)
      else
        some (r3, 0)
      else none
      else none
      else none
  else
    bif (decide ((n : Int) = 8)) then
      (card_Card_Fields c).bind fun _ =>
      (slices_DeleteFunc_card_Field_2 p p2 p3 c).bind fun z_ => match z_ with
      | .inl _ =>
        bif fits (((List.map E_card_Field.pv c) ++ (List.map E_card_Field.pv p))).length then
        (card_made (List.take (((List.map E_card_Field.pv c) ++ (List.map E_card_Field.pv p))).length (c ++ p))).bind fun r2 =>
        (card_Card_Len r2).bind fun n2 =>
        bif (decide ((8 : Int) < n2)) then
          some (c, 8)
        else
          some (r2, 0)
        else none
      | .inr (k, r2) =>
        bif Nat.ble k ((List.map E_card_Field.pv r2)).length then
        bif Nat.beq k ((List.take k (List.map E_card_Field.pv r2))).length then
        bif fits (((List.take k (List.map E_card_Field.pv r2)) ++ (List.map E_card_Field.pv p))).length then
        (card_made (List.take (((List.take k (List.map E_card_Field.pv r2)) ++ (List.map E_card_Field.pv p))).length ((List.take k r2) ++ p))).bind fun r3 =>
        (card_Card_Len r3).bind fun n2 =>
        bif (decide ((8 : Int) < n2)) then
          some (c, 8)
        else
          some (r3, 0)
        else none
        else none
        else none
    else
      some (c, n)
theorem card_Card_Patch_runs (c : List E_card_Field) (p : List E_card_Field) (p2 : List E_card_Field) (p3 : List Int) (r_ : List E_card_Field × Int) (h : card_Card_Patch c p p2 p3 = some r_) : Runs Tryz.prog 15 [(.agg [(.pv (.recs 3 (List.map E_card_Field.pv c) false))]), (.agg [(.pv (.recs 3 (List.map E_card_Field.pv p) false)), (.pv (.recs 3 (List.map E_card_Field.pv p2) false)), (.pv (.ints .i64 p3 false))])] [] [] (card_Card_Patch_out c p p2 p3 r_) := by
  unfold card_Card_Patch at h
  obtain ⟨⟨r, n⟩, h1, h⟩ := bind_of h
  rcases cond_of h with ⟨h2, h⟩ | ⟨h2, h⟩
  · obtain ⟨_, h3, h⟩ := bind_of h
    obtain ⟨z_, h4, h⟩ := bind_of h
    rcases z_ with _ | ⟨k, r2⟩
    · have q_4 := (slices_DeleteFunc_card_Field_2_runs p p2 p3 c _ h4)
      obtain ⟨h5, h⟩ := need_of h
      obtain ⟨r2, h6, h⟩ := bind_of h
      have q_6 := (Runs.coe (as' := [(.one (.pv (.recs 3 (List.take (((List.map E_card_Field.pv c) ++ (List.map E_card_Field.pv p))).length ((List.map E_card_Field.pv c) ++ (List.map E_card_Field.pv p))) false)))]) (objs' := []) (rows' := []) (card_made_runs (List.take (((List.map E_card_Field.pv c) ++ (List.map E_card_Field.pv p))).length (c ++ p)) _ h6) ⟨.pv (.recsT (.eq (by first | rfl | (simp only [List.take_length]; done) | (simp only [List.take_length, List.length_append, List.drop_zero, List.map_append, List.map_take, List.map_drop, List.map_replicate, List.map_cons, List.map_nil, List.append_nil, List.nil_append, E_card_Field.pv, E_L_card_Field.pv, E_kinfolkref09_Field.pv, E_card_Field.upd, E_L_card_Field.upd, E_kinfolkref09_Field.upd]; done) | (simp; done)))), trivial⟩ trivial trivial)
      obtain ⟨n2, h7, h⟩ := bind_of h
      have p7_ := fun {sc_ : List Ev} {Q_ : Prop} (t_ : Tell sc_ Q_) => tR (card_Make_runs p _ h1) <| tF (not_of2 h2) <| tF (rfl : false = false) <| tR (card_Card_Fields_runs c _ h3) <| tR q_4 <| tR (card_Card_Fields_runs c _ h3) <| tR (card_Card_Fields_runs c _ h3) <| tR (card_Card_Fields_runs c _ h3) <| tR q_4 <| tR q_4 <| tO (show (Nat.beq ((List.map E_card_Field.pv c)).length ((List.map E_card_Field.pv c)).length) = true from Nat.beq_refl _) <| tO h5 <| tR q_4 <| tO (show (Nat.beq ((List.map E_card_Field.pv c)).length ((List.map E_card_Field.pv c)).length) = true from Nat.beq_refl _) <| tO h5 <| tR q_6 <| tR q_6 <| tR (card_Card_Len_runs r2 _ h7) <| t_
      rcases cond_of h with ⟨h8, h⟩ | ⟨h8, h⟩
      · have h := some_of h
        subst h
        have t_ := p7_ <| tT h8 <| tN
        exact runs_of (C := cfg) (objs := []) (sc := t_.ev) (.k1 t_.pf (by kernel_rfl) (by kernel_rfl))
      · have h := some_of h
        subst h
        have t_ := p7_ <| tF h8 <| tN
        exact runs_of (C := cfg) (objs := []) (sc := t_.ev) (.k1 t_.pf (by kernel_rfl) (by kernel_rfl))
    · have q_4 := (slices_DeleteFunc_card_Field_2_runs p p2 p3 c _ h4)
      obtain ⟨h5, h⟩ := need_of h
      obtain ⟨h6, h⟩ := need_of h
      obtain ⟨h7, h⟩ := need_of h
      obtain ⟨r3, h8, h⟩ := bind_of h
      have q_8 := (Runs.coe (as' := [(.one (.pv (.recs 3 (List.take (((List.take k (List.map E_card_Field.pv r2)) ++ (List.map E_card_Field.pv p))).length ((List.take k (List.map E_card_Field.pv r2)) ++ (List.map E_card_Field.pv p))) false)))]) (objs' := []) (rows' := []) (card_made_runs (List.take (((List.take k (List.map E_card_Field.pv r2)) ++ (List.map E_card_Field.pv p))).length ((List.take k r2) ++ p)) _ h8) ⟨.pv (.recsT (.eq (by first | rfl | (simp only [List.take_length]; done) | (simp only [List.take_length, List.length_append, List.drop_zero, List.map_append, List.map_take, List.map_drop, List.map_replicate, List.map_cons, List.map_nil, List.append_nil, List.nil_append, E_card_Field.pv, E_L_card_Field.pv, E_kinfolkref09_Field.pv, E_card_Field.upd, E_L_card_Field.upd, E_kinfolkref09_Field.upd]; done) | (simp; done)))), trivial⟩ trivial trivial)
      obtain ⟨n2, h9, h⟩ := bind_of h
      have p9_ := fun {sc_ : List Ev} {Q_ : Prop} (t_ : Tell sc_ Q_) => tR (card_Make_runs p _ h1) <| tF (not_of2 h2) <| tF (rfl : false = false) <| tR (card_Card_Fields_runs c _ h3) <| tR q_4 <| tR (card_Card_Fields_runs c _ h3) <| tR (card_Card_Fields_runs c _ h3) <| tR (card_Card_Fields_runs c _ h3) <| tR q_4 <| tR q_4 <| tE (.el []) <| tO h5 <| tO h6 <| tO h7 <| tR q_4 <| tE (.el []) <| tO h5 <| tO h6 <| tO h7 <| tR q_8 <| tR q_8 <| tR (card_Card_Len_runs r3 _ h9) <| t_
      rcases cond_of h with ⟨h10, h⟩ | ⟨h10, h⟩
      · have h := some_of h
        subst h
        have t_ := p9_ <| tT h10 <| tN
        exact runs_of (C := cfg) (objs := []) (sc := t_.ev) (.k1 t_.pf (by kernel_rfl) (by kernel_rfl))
      · have h := some_of h
        subst h
        have t_ := p9_ <| tF h10 <| tN
        exact runs_of (C := cfg) (objs := []) (sc := t_.ev) (.k1 t_.pf (by kernel_rfl) (by kernel_rfl))
  · rcases cond_of h with ⟨h3, h⟩ | ⟨h3, h⟩
    · obtain ⟨_, h4, h⟩ := bind_of h
      obtain ⟨z_, h5, h⟩ := bind_of h
      rcases z_ with _ | ⟨k, r2⟩
      · have q_5 := (slices_DeleteFunc_card_Field_2_runs p p2 p3 c _ h5)
        obtain ⟨h6, h⟩ := need_of h
        obtain ⟨r2, h7, h⟩ := bind_of h
        have q_7 := (Runs.coe (as' := [(.one (.pv (.recs 3 (List.take (((List.map E_card_Field.pv c) ++ (List.map E_card_Field.pv p))).length ((List.map E_card_Field.pv c) ++ (List.map E_card_Field.pv p))) false)))]) (objs' := []) (rows' := []) (card_made_runs (List.take (((List.map E_card_Field.pv c) ++ (List.map E_card_Field.pv p))).length (c ++ p)) _ h7) ⟨.pv (.recsT (.eq (by first | rfl | (simp only [List.take_length]; done) | (simp only [List.take_length, List.length_append, List.drop_zero, List.map_append, List.map_take, List.map_drop, List.map_replicate, List.map_cons, List.map_nil, List.append_nil, List.nil_append, E_card_Field.pv, E_L_card_Field.pv, E_kinfolkref09_Field.pv, E_card_Field.upd, E_L_card_Field.upd, E_kinfolkref09_Field.upd]; done) | (simp; done)))), trivial⟩ trivial trivial)
        obtain ⟨n2, h8, h⟩ := bind_of h
        have p8_ := fun {sc_ : List Ev} {Q_ : Prop} (t_ : Tell sc_ Q_) => tR (card_Make_runs p _ h1) <| tT (not_of h2) <| tF (not_of2 h3) <| tR (card_Card_Fields_runs c _ h4) <| tR q_5 <| tR (card_Card_Fields_runs c _ h4) <| tR (card_Card_Fields_runs c _ h4) <| tR (card_Card_Fields_runs c _ h4) <| tR q_5 <| tR q_5 <| tO (show (Nat.beq ((List.map E_card_Field.pv c)).length ((List.map E_card_Field.pv c)).length) = true from Nat.beq_refl _) <| tO h6 <| tR q_5 <| tO (show (Nat.beq ((List.map E_card_Field.pv c)).length ((List.map E_card_Field.pv c)).length) = true from Nat.beq_refl _) <| tO h6 <| tR q_7 <| tR q_7 <| tR (card_Card_Len_runs r2 _ h8) <| t_
        rcases cond_of h with ⟨h9, h⟩ | ⟨h9, h⟩
        · have h := some_of h
          subst h
          have t_ := p8_ <| tT h9 <| tN
          exact runs_of (C := cfg) (objs := []) (sc := t_.ev) (.k1 t_.pf (by kernel_rfl) (by kernel_rfl))
        · have h := some_of h
          subst h
          have t_ := p8_ <| tF h9 <| tN
          exact runs_of (C := cfg) (objs := []) (sc := t_.ev) (.k1 t_.pf (by kernel_rfl) (by kernel_rfl))
      · have q_5 := (slices_DeleteFunc_card_Field_2_runs p p2 p3 c _ h5)
        obtain ⟨h6, h⟩ := need_of h
        obtain ⟨h7, h⟩ := need_of h
        obtain ⟨h8, h⟩ := need_of h
        obtain ⟨r3, h9, h⟩ := bind_of h
        have q_9 := (Runs.coe (as' := [(.one (.pv (.recs 3 (List.take (((List.take k (List.map E_card_Field.pv r2)) ++ (List.map E_card_Field.pv p))).length ((List.take k (List.map E_card_Field.pv r2)) ++ (List.map E_card_Field.pv p))) false)))]) (objs' := []) (rows' := []) (card_made_runs (List.take (((List.take k (List.map E_card_Field.pv r2)) ++ (List.map E_card_Field.pv p))).length ((List.take k r2) ++ p)) _ h9) ⟨.pv (.recsT (.eq (by first | rfl | (simp only [List.take_length]; done) | (simp only [List.take_length, List.length_append, List.drop_zero, List.map_append, List.map_take, List.map_drop, List.map_replicate, List.map_cons, List.map_nil, List.append_nil, List.nil_append, E_card_Field.pv, E_L_card_Field.pv, E_kinfolkref09_Field.pv, E_card_Field.upd, E_L_card_Field.upd, E_kinfolkref09_Field.upd]; done) | (simp; done)))), trivial⟩ trivial trivial)
        obtain ⟨n2, h10, h⟩ := bind_of h
        have p10_ := fun {sc_ : List Ev} {Q_ : Prop} (t_ : Tell sc_ Q_) => tR (card_Make_runs p _ h1) <| tT (not_of h2) <| tF (not_of2 h3) <| tR (card_Card_Fields_runs c _ h4) <| tR q_5 <| tR (card_Card_Fields_runs c _ h4) <| tR (card_Card_Fields_runs c _ h4) <| tR (card_Card_Fields_runs c _ h4) <| tR q_5 <| tR q_5 <| tE (.el []) <| tO h6 <| tO h7 <| tO h8 <| tR q_5 <| tE (.el []) <| tO h6 <| tO h7 <| tO h8 <| tR q_9 <| tR q_9 <| tR (card_Card_Len_runs r3 _ h10) <| t_
        rcases cond_of h with ⟨h11, h⟩ | ⟨h11, h⟩
        · have h := some_of h
          subst h
          have t_ := p10_ <| tT h11 <| tN
          exact runs_of (C := cfg) (objs := []) (sc := t_.ev) (.k1 t_.pf (by kernel_rfl) (by kernel_rfl))
        · have h := some_of h
          subst h
          have t_ := p10_ <| tF h11 <| tN
          exact runs_of (C := cfg) (objs := []) (sc := t_.ev) (.k1 t_.pf (by kernel_rfl) (by kernel_rfl))
    · have h := some_of h
      subst h
      have t_ := tR (card_Make_runs p _ h1) <| tT (not_of h2) <| tT (not_of h3) <| tN
      exact runs_of (C := cfg) (objs := []) (sc := t_.ev) (.k0 t_.pf (by kernel_rfl))
/-! ### kinfolkref09_Patch_out -/
def kinfolkref09_Patch_out (l : List E_kinfolkref09_Field) (adds : List E_kinfolkref09_Field) (drops : List E_kinfolkref09_Field) (clear : List Int) : List E_kinfolkref09_Field × Int → Res
  | (r1, r2) => ([(.one (.pv (.recs 3 (List.map E_kinfolkref09_Field.pv r1) false))), (.one (.pv (.int .i64 r2)))], [], [])
/-! ### kinfolkref09_Patch_L0 -/
def kinfolkref09_Patch_L0_st (l : List E_kinfolkref09_Field) (adds : List E_kinfolkref09_Field) (drops : List E_kinfolkref09_Field) (clear : List Int) (r : List E_kinfolkref09_Field) (n : Int) : Int → St
  | n2 => ⟨[(0, (.av (.one (.pv (.recs 3 (List.map E_kinfolkref09_Field.pv l) false))))), (1, (.av (.one (.pv (.recs 3 (List.map E_kinfolkref09_Field.pv adds) false))))), (2, (.av (.one (.pv (.recs 3 (List.map E_kinfolkref09_Field.pv drops) false))))), (3, (.av (.one (.pv (.ints .i64 clear false))))), (21, (.av (.one (.pv (.recs 3 (List.map E_kinfolkref09_Field.pv r) false))))), (22, (.av (.one (.pv (.int .i64 n))))), (23, (.av (.one (.pv (.int .i64 n2)))))], [], []⟩
def kinfolkref09_Patch_L0_ex (l : List E_kinfolkref09_Field) (adds : List E_kinfolkref09_Field) (drops : List E_kinfolkref09_Field) (clear : List Int) (r : List E_kinfolkref09_Field) (n : Int) : (Int) ⊕ (Unit) → Ex × St
  | .inl r1 => (.ret, ⟨[(8, (.av (.one (.pv (.recs 3 (List.map E_kinfolkref09_Field.pv l) false))))), (9, (.av (.one (.pv (.int .i64 r1)))))], [], []⟩)
  | .inr _ => ((.exit 0), ⟨[(0, (.av (.one (.pv (.recs 3 (List.map E_kinfolkref09_Field.pv l) false))))), (1, (.av (.one (.pv (.recs 3 (List.map E_kinfolkref09_Field.pv adds) false))))), (2, (.av (.one (.pv (.recs 3 (List.map E_kinfolkref09_Field.pv drops) false))))), (3, (.av (.one (.pv (.ints .i64 clear false)))))], [], []⟩)
noncomputable def kinfolkref09_Patch_L0_step (N : Nat) (l : List E_kinfolkref09_Field) (adds : List E_kinfolkref09_Field) (drops : List E_kinfolkref09_Field) (clear : List Int) (r : List E_kinfolkref09_Field) (n : Int) : Int → Option ((Int) ⊕ ((Int) ⊕ (Unit)))
  | n2 =>
  bif (decide ((n2 : Int) < n)) then
    bif decide ((0 : Int) ≤ n2) && decide ((n2 : Int) < (((List.map E_kinfolkref09_Field.pv r)).length : Int)) then
    (r[(n2).toNat]?).bind fun e_ => match e_ with
    | .mk n3 s s2 =>
    (kinfolkref09_Right N n3 s s2).bind fun n4 =>
    bif (decide ((n4 : Int) = 0)) then
      some (.inl (iadd .i64 n2 1))
    else
      some (.inr (.inl n4))
    else none
  else
    some (.inr (.inr ()))
theorem kinfolkref09_Patch_L0_ok (N : Nat) (l : List E_kinfolkref09_Field) (adds : List E_kinfolkref09_Field) (drops : List E_kinfolkref09_Field) (clear : List Int) (r : List E_kinfolkref09_Field) (n : Int) (n2 : Int) (z_ : (Int) ⊕ ((Int) ⊕ (Unit))) (h : kinfolkref09_Patch_L0_step N l adds drops clear r n n2 = some z_) : RoundOk Tryz.prog cfg 16 0 (loopAt Tryz.prog 16 0) (kinfolkref09_Patch_L0_st l adds drops clear r n) (kinfolkref09_Patch_L0_ex l adds drops clear r n) n2 z_ := by
  rcases cond_of h with ⟨h1, h⟩ | ⟨h1, h⟩
  · obtain ⟨h2, h⟩ := need_of h
    obtain ⟨⟨n3, s, s2⟩, h3, h⟩ := bind_of h
    obtain ⟨n4, h4, h⟩ := bind_of h
    rcases cond_of h with ⟨h5, h⟩ | ⟨h5, h⟩
    · have h := some_of h
      subst h
      have t_ := tT h1 <| tO h2 <| tE (.el [(.int .i64 n3), (.str s), (.str s2)]) <| tO (el_of (f := E_kinfolkref09_Field.pv) h3) <| tR (kinfolkref09_Right_runs N n3 s s2 _ h4) <| tF (not_of2 h5) <| tN
      exact ⟨t_.ev, kinfolkref09_Patch_L0_st l adds drops clear r n (iadd .i64 n2 1), .k0 t_.pf (by kernel_rfl), .same (by kernel_rfl)⟩
    · have h := some_of h
      subst h
      have t_ := tT h1 <| tO h2 <| tE (.el [(.int .i64 n3), (.str s), (.str s2)]) <| tO (el_of (f := E_kinfolkref09_Field.pv) h3) <| tR (kinfolkref09_Right_runs N n3 s s2 _ h4) <| tT (not_of h5) <| tN
      exact ⟨t_.ev, (kinfolkref09_Patch_L0_ex l adds drops clear r n (.inl n4)).2, .k0 t_.pf (by kernel_rfl), .same (by kernel_rfl)⟩
  · have h := some_of h
    subst h
    have t_ := tF h1 <| tN
    exact ⟨t_.ev, ⟨[(24, (.av (.one (.pv (.bool false))))), (0, (.av (.one (.pv (.recs 3 (List.map E_kinfolkref09_Field.pv l) false))))), (1, (.av (.one (.pv (.recs 3 (List.map E_kinfolkref09_Field.pv adds) false))))), (2, (.av (.one (.pv (.recs 3 (List.map E_kinfolkref09_Field.pv drops) false))))), (3, (.av (.one (.pv (.ints .i64 clear false))))), (21, (.av (.one (.pv (.recs 3 (List.map E_kinfolkref09_Field.pv r) false))))), (22, (.av (.one (.pv (.int .i64 n))))), (23, (.av (.one (.pv (.int .i64 n2))))), (24, (.av (.one (.pv (.bool (decide ((n2 : Int) < n)))))))], [], []⟩, .k0 t_.pf (by kernel_rfl), ⟨⟨⟨_, rfl, .eq rfl⟩, ⟨_, rfl, .eq rfl⟩, ⟨_, rfl, .eq rfl⟩, ⟨_, rfl, .eq rfl⟩, trivial⟩, trivial, trivial⟩⟩
theorem kinfolkref09_Patch_L0_runs (N : Nat) (l : List E_kinfolkref09_Field) (adds : List E_kinfolkref09_Field) (drops : List E_kinfolkref09_Field) (clear : List Int) (r : List E_kinfolkref09_Field) (n : Int) (s_ : Int) (r_ : (Int) ⊕ (Unit)) (h : runL (kinfolkref09_Patch_L0_step N l adds drops clear r n) s_ = some r_) : LRuns Tryz.prog (lEnv Tryz.prog cfg 16 0).nt 0 (.loop (loopAt Tryz.prog 16 0)) (kinfolkref09_Patch_L0_st l adds drops clear r n s_) (kinfolkref09_Patch_L0_ex l adds drops clear r n r_).1 (kinfolkref09_Patch_L0_ex l adds drops clear r n r_).2 :=
  loop_run h (kinfolkref09_Patch_L0_ok N l adds drops clear r n) (by intro r_; rcases r_ with r1 | _ <;> simp [kinfolkref09_Patch_L0_ex])
/-! ### kinfolkref09_Patch_L2_3 -/
def kinfolkref09_Patch_L2_3_st (l : List E_kinfolkref09_Field) (adds : List E_kinfolkref09_Field) (drops : List E_kinfolkref09_Field) (clear : List Int) (r : List E_kinfolkref09_Field) (n : Int) (n2 : Int) (l2 : List Int) (n3 : Int) (n4 : Int) (s : ByteArray) (s2 : ByteArray) (r2 : List E_kinfolkref09_Field) : Bool × Int → St
  | (gone, n5) => ⟨[(0, (.av (.one (.pv (.recs 3 (List.map E_kinfolkref09_Field.pv l) false))))), (1, (.av (.one (.pv (.recs 3 (List.map E_kinfolkref09_Field.pv adds) false))))), (2, (.av (.one (.pv (.recs 3 (List.map E_kinfolkref09_Field.pv drops) false))))), (3, (.av (.one (.pv (.ints .i64 clear false))))), (13, (.av (.one (.own 0 0 ((List.map E_kinfolkref09_Field.pv r2)).length false)))), (15, (.av (.one (.ref 0 0)))), (16, (.av (.one (.pv (.bool gone))))), (34, (.av (.one (.pv (.recs 3 (List.map E_kinfolkref09_Field.pv r) false))))), (35, (.av (.one (.pv (.int .i64 n))))), (36, (.av (.one (.pv (.int .i64 n2))))), (43, (.av (.one (.pv (.ints .i64 l2 false))))), (44, (.av (.one (.pv (.int .i64 n3))))), (45, (.av (.one (.pv (.int .i64 n5)))))], [(0, [(.pv (.int .i64 n4)), (.pv (.str s)), (.pv (.str s2))])], [(0, (.live (.recs 3 (List.map E_kinfolkref09_Field.pv r2))))]⟩
def kinfolkref09_Patch_L2_3_ex (l : List E_kinfolkref09_Field) (adds : List E_kinfolkref09_Field) (drops : List E_kinfolkref09_Field) (clear : List Int) (r : List E_kinfolkref09_Field) (n : Int) (n2 : Int) (l2 : List Int) (n3 : Int) (n4 : Int) (s : ByteArray) (s2 : ByteArray) (r2 : List E_kinfolkref09_Field) : Bool → Ex × St
  | r1 => ((.exit 4), ⟨[(0, (.av (.one (.pv (.recs 3 (List.map E_kinfolkref09_Field.pv l) false))))), (1, (.av (.one (.pv (.recs 3 (List.map E_kinfolkref09_Field.pv adds) false))))), (2, (.av (.one (.pv (.recs 3 (List.map E_kinfolkref09_Field.pv drops) false))))), (3, (.av (.one (.pv (.ints .i64 clear false))))), (13, (.av (.one (.own 0 0 ((List.map E_kinfolkref09_Field.pv r2)).length false)))), (15, (.av (.one (.ref 0 0)))), (16, (.av (.one (.pv (.bool r1))))), (34, (.av (.one (.pv (.recs 3 (List.map E_kinfolkref09_Field.pv r) false))))), (35, (.av (.one (.pv (.int .i64 n))))), (36, (.av (.one (.pv (.int .i64 n2)))))], [(0, [(.pv (.int .i64 n4)), (.pv (.str s)), (.pv (.str s2))])], [(0, (.live (.recs 3 (List.map E_kinfolkref09_Field.pv r2))))]⟩)
noncomputable def kinfolkref09_Patch_L2_3_step (l : List E_kinfolkref09_Field) (adds : List E_kinfolkref09_Field) (drops : List E_kinfolkref09_Field) (clear : List Int) (r : List E_kinfolkref09_Field) (n : Int) (n2 : Int) (l2 : List Int) (n3 : Int) (n4 : Int) (s : ByteArray) (s2 : ByteArray) (r2 : List E_kinfolkref09_Field) : Bool × Int → Option ((Bool × Int) ⊕ (Bool))
  | (gone, n5) =>
  bif (decide ((n5 : Int) < n3)) then
    bif decide ((0 : Int) ≤ n5) && decide ((n5 : Int) < ((l2).length : Int)) then
    bif gone then
      some (.inl (true, (iadd .i64 n5 1)))
    else
      some (.inl ((decide ((n4 : Int) = (l2.getD (n5).toNat 0))), (iadd .i64 n5 1)))
    else none
  else
    some (.inr gone)
theorem kinfolkref09_Patch_L2_3_ok (l : List E_kinfolkref09_Field) (adds : List E_kinfolkref09_Field) (drops : List E_kinfolkref09_Field) (clear : List Int) (r : List E_kinfolkref09_Field) (n : Int) (n2 : Int) (l2 : List Int) (n3 : Int) (n4 : Int) (s : ByteArray) (s2 : ByteArray) (r2 : List E_kinfolkref09_Field) (s_ : Bool × Int) (z_ : (Bool × Int) ⊕ (Bool)) (h : kinfolkref09_Patch_L2_3_step l adds drops clear r n n2 l2 n3 n4 s s2 r2 s_ = some z_) : RoundOk Tryz.prog cfg 16 0 (loopAt Tryz.prog 16 2) (kinfolkref09_Patch_L2_3_st l adds drops clear r n n2 l2 n3 n4 s s2 r2) (kinfolkref09_Patch_L2_3_ex l adds drops clear r n n2 l2 n3 n4 s s2 r2) s_ z_ := by
  rcases s_ with ⟨gone, n5⟩
  rcases cond_of h with ⟨h1, h⟩ | ⟨h1, h⟩
  · obtain ⟨h2, h⟩ := need_of h
    rcases cond_of h with ⟨h3, h⟩ | ⟨h3, h⟩
    · have h := some_of h
      subst h
      have t_ := tT h1 <| tO h2 <| tT h3 <| tN
      exact ⟨t_.ev, kinfolkref09_Patch_L2_3_st l adds drops clear r n n2 l2 n3 n4 s s2 r2 (true, (iadd .i64 n5 1)), .k0 t_.pf (by kernel_rfl), .same (by kernel_rfl)⟩
    · have h := some_of h
      subst h
      have t_ := tT h1 <| tO h2 <| tF h3 <| tN
      exact ⟨t_.ev, kinfolkref09_Patch_L2_3_st l adds drops clear r n n2 l2 n3 n4 s s2 r2 ((decide ((n4 : Int) = (l2.getD (n5).toNat 0))), (iadd .i64 n5 1)), .k0 t_.pf (by kernel_rfl), .same (by kernel_rfl)⟩
  · have h := some_of h
    subst h
    have t_ := tF h1 <| tN
    exact ⟨t_.ev, ⟨[(46, (.av (.one (.pv (.bool false))))), (0, (.av (.one (.pv (.recs 3 (List.map E_kinfolkref09_Field.pv l) false))))), (1, (.av (.one (.pv (.recs 3 (List.map E_kinfolkref09_Field.pv adds) false))))), (2, (.av (.one (.pv (.recs 3 (List.map E_kinfolkref09_Field.pv drops) false))))), (3, (.av (.one (.pv (.ints .i64 clear false))))), (13, (.av (.one (.own 0 0 ((List.map E_kinfolkref09_Field.pv r2)).length false)))), (15, (.av (.one (.ref 0 0)))), (16, (.av (.one (.pv (.bool gone))))), (34, (.av (.one (.pv (.recs 3 (List.map E_kinfolkref09_Field.pv r) false))))), (35, (.av (.one (.pv (.int .i64 n))))), (36, (.av (.one (.pv (.int .i64 n2))))), (43, (.av (.one (.pv (.ints .i64 l2 false))))), (44, (.av (.one (.pv (.int .i64 n3))))), (45, (.av (.one (.pv (.int .i64 n5))))), (46, (.av (.one (.pv (.bool (decide ((n5 : Int) < n3)))))))], [(0, [(.pv (.int .i64 n4)), (.pv (.str s)), (.pv (.str s2))])], [(0, (.live (.recs 3 (List.map E_kinfolkref09_Field.pv r2))))]⟩, .k0 t_.pf (by kernel_rfl), ⟨⟨⟨_, rfl, .eq rfl⟩, ⟨_, rfl, .eq rfl⟩, ⟨_, rfl, .eq rfl⟩, ⟨_, rfl, .eq rfl⟩, ⟨_, rfl, .eq rfl⟩, ⟨_, rfl, .eq rfl⟩, ⟨_, rfl, .eq rfl⟩, ⟨_, rfl, .eq rfl⟩, ⟨_, rfl, .eq rfl⟩, ⟨_, rfl, .eq rfl⟩, trivial⟩, ⟨⟨rfl, ⟨.eq rfl, .eq rfl, .eq rfl, trivial⟩⟩, trivial⟩, ⟨⟨rfl, .eq rfl⟩, trivial⟩⟩⟩
theorem kinfolkref09_Patch_L2_3_runs (l : List E_kinfolkref09_Field) (adds : List E_kinfolkref09_Field) (drops : List E_kinfolkref09_Field) (clear : List Int) (r : List E_kinfolkref09_Field) (n : Int) (n2 : Int) (l2 : List Int) (n3 : Int) (n4 : Int) (s : ByteArray) (s2 : ByteArray) (r2 : List E_kinfolkref09_Field) (s_ : Bool × Int) (r_ : Bool) (h : runL (kinfolkref09_Patch_L2_3_step l adds drops clear r n n2 l2 n3 n4 s s2 r2) s_ = some r_) : LRuns Tryz.prog (lEnv Tryz.prog cfg 16 0).nt 0 (.loop (loopAt Tryz.prog 16 2)) (kinfolkref09_Patch_L2_3_st l adds drops clear r n n2 l2 n3 n4 s s2 r2 s_) (kinfolkref09_Patch_L2_3_ex l adds drops clear r n n2 l2 n3 n4 s s2 r2 r_).1 (kinfolkref09_Patch_L2_3_ex l adds drops clear r n n2 l2 n3 n4 s s2 r2 r_).2 :=
  loop_run h (kinfolkref09_Patch_L2_3_ok l adds drops clear r n n2 l2 n3 n4 s s2 r2) (by intro r_; rcases r_ with r1 <;> simp [kinfolkref09_Patch_L2_3_ex])
/-! ### kinfolkref09_Patch_L1_2 -/
def kinfolkref09_Patch_L1_2_st (l : List E_kinfolkref09_Field) (adds : List E_kinfolkref09_Field) (drops : List E_kinfolkref09_Field) (clear : List Int) (r : List E_kinfolkref09_Field) (n : Int) : Int × List E_kinfolkref09_Field → St
  | (n2, r2) => ⟨[(0, (.av (.one (.pv (.recs 3 (List.map E_kinfolkref09_Field.pv l) false))))), (1, (.av (.one (.pv (.recs 3 (List.map E_kinfolkref09_Field.pv adds) false))))), (2, (.av (.one (.pv (.recs 3 (List.map E_kinfolkref09_Field.pv drops) false))))), (3, (.av (.one (.pv (.ints .i64 clear false))))), (13, (.av (.one (.own 0 0 ((List.map E_kinfolkref09_Field.pv r2)).length false)))), (34, (.av (.one (.pv (.recs 3 (List.map E_kinfolkref09_Field.pv r) false))))), (35, (.av (.one (.pv (.int .i64 n))))), (36, (.av (.one (.pv (.int .i64 n2)))))], [], [(0, (.live (.recs 3 (List.map E_kinfolkref09_Field.pv r2))))]⟩
def kinfolkref09_Patch_L1_2_ex (l : List E_kinfolkref09_Field) (adds : List E_kinfolkref09_Field) (drops : List E_kinfolkref09_Field) (clear : List Int) (r : List E_kinfolkref09_Field) (n : Int) : List E_kinfolkref09_Field → Ex × St
  | r1 => ((.exit 2), ⟨[(0, (.av (.one (.pv (.recs 3 (List.map E_kinfolkref09_Field.pv l) false))))), (1, (.av (.one (.pv (.recs 3 (List.map E_kinfolkref09_Field.pv adds) false))))), (13, (.av (.one (.own 0 0 ((List.map E_kinfolkref09_Field.pv r1)).length false))))], [], [(0, (.live (.recs 3 (List.map E_kinfolkref09_Field.pv r1))))]⟩)
noncomputable def kinfolkref09_Patch_L1_2_step (l : List E_kinfolkref09_Field) (adds : List E_kinfolkref09_Field) (drops : List E_kinfolkref09_Field) (clear : List Int) (r : List E_kinfolkref09_Field) (n : Int) : Int × List E_kinfolkref09_Field → Option ((Int × List E_kinfolkref09_Field) ⊕ (List E_kinfolkref09_Field))
  | (n2, r2) =>
  bif (decide ((n2 : Int) < n)) then
    bif decide ((0 : Int) ≤ n2) && decide ((n2 : Int) < (((List.map E_kinfolkref09_Field.pv r)).length : Int)) then
    (r[(n2).toNat]?).bind fun e_ => match e_ with
    | .mk n3 s s2 =>
    (kinfolkref09_Has drops n3 s s2).bind fun b =>
    (runL (kinfolkref09_Patch_L2_3_step l adds drops clear r n n2 clear ((clear).length : Int) n3 s s2 r2) (b, 0)).bind fun b2 =>
    bif b2 then
      some (.inl ((iadd .i64 n2 1), r2))
    else
      bif fits (((List.map E_kinfolkref09_Field.pv r2) ++ ([[(.int .i64 n3), (.str s), (.str s2)]] : List (List PV)))).length then
      some (.inl ((iadd .i64 n2 1), (r2 ++ [(E_kinfolkref09_Field.mk n3 s s2)])))
      else none
    else none
  else
    some (.inr r2)
theorem kinfolkref09_Patch_L1_2_ok (l : List E_kinfolkref09_Field) (adds : List E_kinfolkref09_Field) (drops : List E_kinfolkref09_Field) (clear : List Int) (r : List E_kinfolkref09_Field) (n : Int) (s_ : Int × List E_kinfolkref09_Field) (z_ : (Int × List E_kinfolkref09_Field) ⊕ (List E_kinfolkref09_Field)) (h : kinfolkref09_Patch_L1_2_step l adds drops clear r n s_ = some z_) : RoundOk Tryz.prog cfg 16 0 (loopAt Tryz.prog 16 1) (kinfolkref09_Patch_L1_2_st l adds drops clear r n) (kinfolkref09_Patch_L1_2_ex l adds drops clear r n) s_ z_ := by
  rcases s_ with ⟨n2, r2⟩
  rcases cond_of h with ⟨h1, h⟩ | ⟨h1, h⟩
  · obtain ⟨h2, h⟩ := need_of h
    obtain ⟨⟨n3, s, s2⟩, h3, h⟩ := bind_of h
    obtain ⟨b, h4, h⟩ := bind_of h
    obtain ⟨b2, h5, h⟩ := bind_of h
    have q_5 := (kinfolkref09_Patch_L2_3_runs l adds drops clear r n n2 clear ((clear).length : Int) n3 s s2 r2 _ _ h5)
    rcases cond_of h with ⟨h6, h⟩ | ⟨h6, h⟩
    · have h := some_of h
      subst h
      have t_ := tT h1 <| tO h2 <| tE (.el [(.int .i64 n3), (.str s), (.str s2)]) <| tO (el_of (f := E_kinfolkref09_Field.pv) h3) <| tR (kinfolkref09_Has_runs drops n3 s s2 _ h4) <| tL q_5 <| tF (not_of2 h6) <| tN
      exact ⟨t_.ev, kinfolkref09_Patch_L1_2_st l adds drops clear r n ((iadd .i64 n2 1), r2), .k0 t_.pf (by kernel_rfl), .same (by kernel_rfl)⟩
    · obtain ⟨h7, h⟩ := need_of h
      have h := some_of h
      subst h
      have t_ := tT h1 <| tO h2 <| tE (.el [(.int .i64 n3), (.str s), (.str s2)]) <| tO (el_of (f := E_kinfolkref09_Field.pv) h3) <| tR (kinfolkref09_Has_runs drops n3 s s2 _ h4) <| tL q_5 <| tT (not_of h6) <| tO (show (Nat.beq ((List.map E_kinfolkref09_Field.pv r2)).length ((List.map E_kinfolkref09_Field.pv r2)).length) = true from Nat.beq_refl _) <| tO h7 <| tN
      exact ⟨t_.ev, ⟨[(0, (.av (.one (.pv (.recs 3 (List.map E_kinfolkref09_Field.pv l) false))))), (1, (.av (.one (.pv (.recs 3 (List.map E_kinfolkref09_Field.pv adds) false))))), (2, (.av (.one (.pv (.recs 3 (List.map E_kinfolkref09_Field.pv drops) false))))), (3, (.av (.one (.pv (.ints .i64 clear false))))), (13, (.av (.one (.own 0 0 (((List.map E_kinfolkref09_Field.pv r2) ++ ([[(.int .i64 n3), (.str s), (.str s2)]] : List (List PV)))).length false)))), (34, (.av (.one (.pv (.recs 3 (List.map E_kinfolkref09_Field.pv r) false))))), (35, (.av (.one (.pv (.int .i64 n))))), (36, (.av (.one (.pv (.int .i64 (iadd .i64 n2 1))))))], [], [(0, (.live (.recs 3 ((List.map E_kinfolkref09_Field.pv r2) ++ ([[(.int .i64 n3), (.str s), (.str s2)]] : List (List PV))))))]⟩, .k0 t_.pf (by kernel_rfl), ⟨⟨⟨_, rfl, .eq rfl⟩, ⟨_, rfl, .eq rfl⟩, ⟨_, rfl, .eq rfl⟩, ⟨_, rfl, .eq rfl⟩, ⟨_, rfl, .own (by first | rfl | (simp only [List.take_length]; done) | (simp only [List.take_length, List.length_append, List.drop_zero, List.map_append, List.map_take, List.map_drop, List.map_replicate, List.map_cons, List.map_nil, List.append_nil, List.nil_append, E_card_Field.pv, E_L_card_Field.pv, E_kinfolkref09_Field.pv, E_card_Field.upd, E_L_card_Field.upd, E_kinfolkref09_Field.upd]; done) | (simp; done))⟩, ⟨_, rfl, .eq rfl⟩, ⟨_, rfl, .eq rfl⟩, ⟨_, rfl, .eq rfl⟩, trivial⟩, trivial, ⟨⟨rfl, .recs (.app (.eq rfl) (.cons (.cons (.eq rfl) (.cons (.eq rfl) (.cons (.eq rfl) (.nil)))) (.nil)))⟩, trivial⟩⟩⟩
  · have h := some_of h
    subst h
    have t_ := tF h1 <| tN
    exact ⟨t_.ev, ⟨[(37, (.av (.one (.pv (.bool false))))), (0, (.av (.one (.pv (.recs 3 (List.map E_kinfolkref09_Field.pv l) false))))), (1, (.av (.one (.pv (.recs 3 (List.map E_kinfolkref09_Field.pv adds) false))))), (2, (.av (.one (.pv (.recs 3 (List.map E_kinfolkref09_Field.pv drops) false))))), (3, (.av (.one (.pv (.ints .i64 clear false))))), (13, (.av (.one (.own 0 0 ((List.map E_kinfolkref09_Field.pv r2)).length false)))), (34, (.av (.one (.pv (.recs 3 (List.map E_kinfolkref09_Field.pv r) false))))), (35, (.av (.one (.pv (.int .i64 n))))), (36, (.av (.one (.pv (.int .i64 n2))))), (37, (.av (.one (.pv (.bool (decide ((n2 : Int) < n)))))))], [], [(0, (.live (.recs 3 (List.map E_kinfolkref09_Field.pv r2))))]⟩, .k0 t_.pf (by kernel_rfl), ⟨⟨⟨_, rfl, .eq rfl⟩, ⟨_, rfl, .eq rfl⟩, ⟨_, rfl, .eq rfl⟩, trivial⟩, trivial, ⟨⟨rfl, .eq rfl⟩, trivial⟩⟩⟩
theorem kinfolkref09_Patch_L1_2_runs (l : List E_kinfolkref09_Field) (adds : List E_kinfolkref09_Field) (drops : List E_kinfolkref09_Field) (clear : List Int) (r : List E_kinfolkref09_Field) (n : Int) (s_ : Int × List E_kinfolkref09_Field) (r_ : List E_kinfolkref09_Field) (h : runL (kinfolkref09_Patch_L1_2_step l adds drops clear r n) s_ = some r_) : LRuns Tryz.prog (lEnv Tryz.prog cfg 16 0).nt 0 (.loop (loopAt Tryz.prog 16 1)) (kinfolkref09_Patch_L1_2_st l adds drops clear r n s_) (kinfolkref09_Patch_L1_2_ex l adds drops clear r n r_).1 (kinfolkref09_Patch_L1_2_ex l adds drops clear r n r_).2 :=
  loop_run h (kinfolkref09_Patch_L1_2_ok l adds drops clear r n) (by intro r_; rcases r_ with r1 <;> simp [kinfolkref09_Patch_L1_2_ex])
/-! ### kinfolkref09_Patch_L3 -/
def kinfolkref09_Patch_L3_st (l : List E_kinfolkref09_Field) (r : List E_kinfolkref09_Field) (n : Int) (r2 : List E_kinfolkref09_Field) : (Unit) ⊕ (List E_kinfolkref09_Field × Int) → St
  | .inl _ => ⟨[(0, (.av (.one (.pv (.recs 3 (List.map E_kinfolkref09_Field.pv l) false))))), (13, (.av (.one (.own 0 0 ((List.map E_kinfolkref09_Field.pv r2)).length false)))), (64, (.av (.one (.pv (.recs 3 (List.map E_kinfolkref09_Field.pv r) false))))), (65, (.av (.one (.pv (.int .i64 n))))), (66, (.av (.one (.pv (.int .i64 0)))))], [], [(0, (.live (.recs 3 (List.map E_kinfolkref09_Field.pv r2))))]⟩
  | .inr (r3, n2) => ⟨[(0, (.av (.one (.pv (.recs 3 (List.map E_kinfolkref09_Field.pv l) false))))), (13, (.av (.one (.pv (.recs 3 (List.map E_kinfolkref09_Field.pv r3) false))))), (64, (.av (.one (.pv (.recs 3 (List.map E_kinfolkref09_Field.pv r) false))))), (65, (.av (.one (.pv (.int .i64 n))))), (66, (.av (.one (.pv (.int .i64 n2)))))], [], []⟩
def kinfolkref09_Patch_L3_ex (l : List E_kinfolkref09_Field) (r : List E_kinfolkref09_Field) (n : Int) (r2 : List E_kinfolkref09_Field) : (Unit) ⊕ (List E_kinfolkref09_Field) → Ex × St
  | .inl _ => ((.exit 6), ⟨[(0, (.av (.one (.pv (.recs 3 (List.map E_kinfolkref09_Field.pv l) false))))), (13, (.av (.one (.own 0 0 ((List.map E_kinfolkref09_Field.pv r2)).length false))))], [], [(0, (.live (.recs 3 (List.map E_kinfolkref09_Field.pv r2))))]⟩)
  | .inr r1 => ((.exit 6), ⟨[(0, (.av (.one (.pv (.recs 3 (List.map E_kinfolkref09_Field.pv l) false))))), (13, (.av (.one (.pv (.recs 3 (List.map E_kinfolkref09_Field.pv r1) false)))))], [], []⟩)
noncomputable def kinfolkref09_Patch_L3_step (l : List E_kinfolkref09_Field) (r : List E_kinfolkref09_Field) (n : Int) (r2 : List E_kinfolkref09_Field) : (Unit) ⊕ (List E_kinfolkref09_Field × Int) → Option (((Unit) ⊕ (List E_kinfolkref09_Field × Int)) ⊕ ((Unit) ⊕ (List E_kinfolkref09_Field)))
  | .inl _ =>
    bif (decide ((0 : Int) < n)) then
      bif decide ((0 : Int) ≤ 0) && decide ((0 : Int) < (((List.map E_kinfolkref09_Field.pv r)).length : Int)) then
      (r[0]?).bind fun e_ => match e_ with
      | .mk n2 s s2 =>
      (kinfolkref09_Put (List.take ((List.map E_kinfolkref09_Field.pv r2)).length r2) n2 s s2).bind fun r3 =>
      some (.inl (.inr (r3, 1)))
      else none
    else
      some (.inr (.inl ()))
  | .inr (r3, n2) =>
    bif (decide ((n2 : Int) < n)) then
      bif decide ((0 : Int) ≤ n2) && decide ((n2 : Int) < (((List.map E_kinfolkref09_Field.pv r)).length : Int)) then
      (r[(n2).toNat]?).bind fun e_ => match e_ with
      | .mk n3 s s2 =>
      (kinfolkref09_Put r3 n3 s s2).bind fun r4 =>
      some (.inl (.inr (r4, (iadd .i64 n2 1))))
      else none
    else
      some (.inr (.inr r3))
theorem kinfolkref09_Patch_L3_ok (l : List E_kinfolkref09_Field) (r : List E_kinfolkref09_Field) (n : Int) (r2 : List E_kinfolkref09_Field) (s_ : (Unit) ⊕ (List E_kinfolkref09_Field × Int)) (z_ : ((Unit) ⊕ (List E_kinfolkref09_Field × Int)) ⊕ ((Unit) ⊕ (List E_kinfolkref09_Field))) (h : kinfolkref09_Patch_L3_step l r n r2 s_ = some z_) : RoundOk Tryz.prog cfg 16 0 (loopAt Tryz.prog 16 3) (kinfolkref09_Patch_L3_st l r n r2) (kinfolkref09_Patch_L3_ex l r n r2) s_ z_ := by
  rcases s_ with _ | ⟨r3, n2⟩
  · rcases cond_of h with ⟨h1, h⟩ | ⟨h1, h⟩
    · obtain ⟨h2, h⟩ := need_of h
      obtain ⟨⟨n2, s, s2⟩, h3, h⟩ := bind_of h
      obtain ⟨r3, h4, h⟩ := bind_of h
      have h := some_of h
      subst h
      have t_ := tT h1 <| tO h2 <| tE (.el [(.int .i64 n2), (.str s), (.str s2)]) <| tO (el_of (f := E_kinfolkref09_Field.pv) h3) <| tR (Runs.coe (as' := [(.one (.pv (.recs 3 (List.take ((List.map E_kinfolkref09_Field.pv r2)).length (List.map E_kinfolkref09_Field.pv r2)) false))), (.agg [(.pv (.int .i64 n2)), (.pv (.str s)), (.pv (.str s2))])]) (objs' := []) (rows' := []) (kinfolkref09_Put_runs (List.take ((List.map E_kinfolkref09_Field.pv r2)).length r2) n2 s s2 _ h4) ⟨.pv (.recsT (.eq (by first | rfl | (simp only [List.take_length]; done) | (simp only [List.take_length, List.length_append, List.drop_zero, List.map_append, List.map_take, List.map_drop, List.map_replicate, List.map_cons, List.map_nil, List.append_nil, List.nil_append, E_card_Field.pv, E_L_card_Field.pv, E_kinfolkref09_Field.pv, E_card_Field.upd, E_L_card_Field.upd, E_kinfolkref09_Field.upd]; done) | (simp; done)))), ⟨.eq rfl, .eq rfl, .eq rfl, trivial⟩, trivial⟩ trivial trivial) <| tN
      exact ⟨t_.ev, kinfolkref09_Patch_L3_st l r n r2 (.inr (r3, 1)), .k0 t_.pf (by kernel_rfl), .same (by kernel_rfl)⟩
    · have h := some_of h
      subst h
      have t_ := tF h1 <| tN
      exact ⟨t_.ev, ⟨[(67, (.av (.one (.pv (.bool false))))), (0, (.av (.one (.pv (.recs 3 (List.map E_kinfolkref09_Field.pv l) false))))), (13, (.av (.one (.own 0 0 ((List.map E_kinfolkref09_Field.pv r2)).length false)))), (64, (.av (.one (.pv (.recs 3 (List.map E_kinfolkref09_Field.pv r) false))))), (65, (.av (.one (.pv (.int .i64 n))))), (66, (.av (.one (.pv (.int .i64 0))))), (67, (.av (.one (.pv (.bool (decide ((0 : Int) < n)))))))], [], [(0, (.live (.recs 3 (List.map E_kinfolkref09_Field.pv r2))))]⟩, .k0 t_.pf (by kernel_rfl), ⟨⟨⟨_, rfl, .eq rfl⟩, ⟨_, rfl, .eq rfl⟩, trivial⟩, trivial, ⟨⟨rfl, .eq rfl⟩, trivial⟩⟩⟩
  · rcases cond_of h with ⟨h1, h⟩ | ⟨h1, h⟩
    · obtain ⟨h2, h⟩ := need_of h
      obtain ⟨⟨n3, s, s2⟩, h3, h⟩ := bind_of h
      obtain ⟨r4, h4, h⟩ := bind_of h
      have h := some_of h
      subst h
      have t_ := tT h1 <| tO h2 <| tE (.el [(.int .i64 n3), (.str s), (.str s2)]) <| tO (el_of (f := E_kinfolkref09_Field.pv) h3) <| tR (kinfolkref09_Put_runs r3 n3 s s2 _ h4) <| tN
      exact ⟨t_.ev, kinfolkref09_Patch_L3_st l r n r2 (.inr (r4, (iadd .i64 n2 1))), .k0 t_.pf (by kernel_rfl), .same (by kernel_rfl)⟩
    · have h := some_of h
      subst h
      have t_ := tF h1 <| tN
      exact ⟨t_.ev, ⟨[(67, (.av (.one (.pv (.bool false))))), (0, (.av (.one (.pv (.recs 3 (List.map E_kinfolkref09_Field.pv l) false))))), (13, (.av (.one (.pv (.recs 3 (List.map E_kinfolkref09_Field.pv r3) false))))), (64, (.av (.one (.pv (.recs 3 (List.map E_kinfolkref09_Field.pv r) false))))), (65, (.av (.one (.pv (.int .i64 n))))), (66, (.av (.one (.pv (.int .i64 n2))))), (67, (.av (.one (.pv (.bool (decide ((n2 : Int) < n)))))))], [], []⟩, .k0 t_.pf (by kernel_rfl), ⟨⟨⟨_, rfl, .eq rfl⟩, ⟨_, rfl, .eq rfl⟩, trivial⟩, trivial, trivial⟩⟩
theorem kinfolkref09_Patch_L3_runs (l : List E_kinfolkref09_Field) (r : List E_kinfolkref09_Field) (n : Int) (r2 : List E_kinfolkref09_Field) (s_ : (Unit) ⊕ (List E_kinfolkref09_Field × Int)) (r_ : (Unit) ⊕ (List E_kinfolkref09_Field)) (h : runL (kinfolkref09_Patch_L3_step l r n r2) s_ = some r_) : LRuns Tryz.prog (lEnv Tryz.prog cfg 16 0).nt 0 (.loop (loopAt Tryz.prog 16 3)) (kinfolkref09_Patch_L3_st l r n r2 s_) (kinfolkref09_Patch_L3_ex l r n r2 r_).1 (kinfolkref09_Patch_L3_ex l r n r2 r_).2 :=
  loop_run h (kinfolkref09_Patch_L3_ok l r n r2) (by intro r_; rcases r_ with _ | r1 <;> simp [kinfolkref09_Patch_L3_ex])
/-! ### kinfolkref09_Patch -/
noncomputable def kinfolkref09_Patch (N : Nat) (l : List E_kinfolkref09_Field) (adds : List E_kinfolkref09_Field) (drops : List E_kinfolkref09_Field) (clear : List Int) : Option (List E_kinfolkref09_Field × Int) :=
  (runL (kinfolkref09_Patch_L0_step N l adds drops clear adds (((List.map E_kinfolkref09_Field.pv adds)).length : Int)) 0).bind fun z_ => match z_ with
  | .inl n =>
    some (l, n)
  | .inr _ =>
    (runL (kinfolkref09_Patch_L1_2_step l adds drops clear l (((List.map E_kinfolkref09_Field.pv l)).length : Int)) (0, [])).bind fun r =>
    (runL (kinfolkref09_Patch_L3_step l adds (((List.map E_kinfolkref09_Field.pv adds)).length : Int) r) (.inl ())).bind fun z_ => match z_ with
    | .inl _ =>
      bif (decide ((8 : Int) < (((List.map E_kinfolkref09_Field.pv r)).length : Int))) then
        some (l, 8)
      else
        some ((List.take ((List.map E_kinfolkref09_Field.pv r)).length r), 0)
    | .inr r2 =>
      bif (decide ((8 : Int) < (((List.map E_kinfolkref09_Field.pv r2)).length : Int))) then
        some (l, 8)
      else
        some (r2, 0)
theorem kinfolkref09_Patch_runs (N : Nat) (l : List E_kinfolkref09_Field) (adds : List E_kinfolkref09_Field) (drops : List E_kinfolkref09_Field) (clear : List Int) (r_ : List E_kinfolkref09_Field × Int) (h : kinfolkref09_Patch N l adds drops clear = some r_) : Runs Tryz.prog 16 [(.one (.pv (.recs 3 (List.map E_kinfolkref09_Field.pv l) false))), (.one (.pv (.recs 3 (List.map E_kinfolkref09_Field.pv adds) false))), (.one (.pv (.recs 3 (List.map E_kinfolkref09_Field.pv drops) false))), (.one (.pv (.ints .i64 clear false)))] [] [] (kinfolkref09_Patch_out l adds drops clear r_) := by
  unfold kinfolkref09_Patch at h
  obtain ⟨z_, h1, h⟩ := bind_of h
  rcases z_ with n | _
  · have h := some_of h
    subst h
    have t_ := tL (kinfolkref09_Patch_L0_runs N l adds drops clear adds (((List.map E_kinfolkref09_Field.pv adds)).length : Int) _ _ h1) <| tN
    exact runs_of (C := cfg) (objs := []) (sc := t_.ev) (.k0 t_.pf (by kernel_rfl))
  · have q_1 := (kinfolkref09_Patch_L0_runs N l adds drops clear adds (((List.map E_kinfolkref09_Field.pv adds)).length : Int) _ _ h1)
    obtain ⟨r, h2, h⟩ := bind_of h
    have q_2 := (LRuns.coe (s0 := ⟨[(0, (.av (.one (.pv (.recs 3 (List.map E_kinfolkref09_Field.pv l) false))))), (1, (.av (.one (.pv (.recs 3 (List.map E_kinfolkref09_Field.pv adds) false))))), (2, (.av (.one (.pv (.recs 3 (List.map E_kinfolkref09_Field.pv drops) false))))), (3, (.av (.one (.pv (.ints .i64 clear false))))), (13, (.av (.one (.own 0 0 0 false)))), (34, (.av (.one (.pv (.recs 3 (List.map E_kinfolkref09_Field.pv l) false))))), (35, (.av (.one (.pv (.int .i64 (((List.map E_kinfolkref09_Field.pv l)).length : Int)))))), (36, (.av (.one (.pv (.int .i64 0)))))], [], [(0, (.live (.recs 3 [])))]⟩) (kinfolkref09_Patch_L1_2_runs l adds drops clear l (((List.map E_kinfolkref09_Field.pv l)).length : Int) _ _ h2) ⟨⟨⟨_, rfl, .eq rfl⟩, ⟨_, rfl, .eq rfl⟩, ⟨_, rfl, .eq rfl⟩, ⟨_, rfl, .eq rfl⟩, ⟨_, rfl, .own (by first | rfl | (simp only [List.take_length]; done) | (simp only [List.take_length, List.length_append, List.drop_zero, List.map_append, List.map_take, List.map_drop, List.map_replicate, List.map_cons, List.map_nil, List.append_nil, List.nil_append, E_card_Field.pv, E_L_card_Field.pv, E_kinfolkref09_Field.pv, E_card_Field.upd, E_L_card_Field.upd, E_kinfolkref09_Field.upd]; done) | (simp; done))⟩, ⟨_, rfl, .eq rfl⟩, ⟨_, rfl, .eq rfl⟩, ⟨_, rfl, .eq rfl⟩, trivial⟩, trivial, ⟨⟨rfl, .recs (.nil)⟩, trivial⟩⟩)
    obtain ⟨z_, h3, h⟩ := bind_of h
    rcases z_ with _ | r2
    · have q_3 := (kinfolkref09_Patch_L3_runs l adds (((List.map E_kinfolkref09_Field.pv adds)).length : Int) r _ _ h3)
      rcases cond_of h with ⟨h4, h⟩ | ⟨h4, h⟩
      · have h := some_of h
        subst h
        have t_ := tL q_1 <| tL q_2 <| tL q_3 <| tT h4 <| tN
        exact runs_of (C := cfg) (objs := []) (sc := t_.ev) (.k0 t_.pf (by kernel_rfl))
      · have h := some_of h
        subst h
        have t_ := tL q_1 <| tL q_2 <| tL q_3 <| tF h4 <| tN
        have e_ : Runs Tryz.prog 16 [(.one (.pv (.recs 3 (List.map E_kinfolkref09_Field.pv l) false))), (.one (.pv (.recs 3 (List.map E_kinfolkref09_Field.pv adds) false))), (.one (.pv (.recs 3 (List.map E_kinfolkref09_Field.pv drops) false))), (.one (.pv (.ints .i64 clear false)))] [] [] ([(.one (.own 0 0 ((List.map E_kinfolkref09_Field.pv r)).length false)), (.one (.pv (.int .i64 0)))], [], [(.recs 3 (List.map E_kinfolkref09_Field.pv r))]) := runs_of (C := cfg) (objs := []) (sc := t_.ev) (.k0 t_.pf (by kernel_rfl))
        have e_ := e_.shut (res' := ([(.one (.pv (.recs 3 (List.take ((List.map E_kinfolkref09_Field.pv r)).length (List.map E_kinfolkref09_Field.pv r)) false))), (.one (.pv (.int .i64 0)))], [], [])) [0] (by kernel_rfl)
        exact e_.out ⟨.pv (.recsT (.eq (by first | rfl | (simp only [List.take_length]; done) | (simp only [List.take_length, List.length_append, List.drop_zero, List.map_append, List.map_take, List.map_drop, List.map_replicate, List.map_cons, List.map_nil, List.append_nil, List.nil_append, E_card_Field.pv, E_L_card_Field.pv, E_kinfolkref09_Field.pv, E_card_Field.upd, E_L_card_Field.upd, E_kinfolkref09_Field.upd]; done) | (simp; done)))), .eq rfl, trivial⟩ trivial trivial rfl
    · have q_3 := (kinfolkref09_Patch_L3_runs l adds (((List.map E_kinfolkref09_Field.pv adds)).length : Int) r _ _ h3)
      rcases cond_of h with ⟨h4, h⟩ | ⟨h4, h⟩
      · have h := some_of h
        subst h
        have t_ := tL q_1 <| tL q_2 <| tL q_3 <| tT h4 <| tN
        exact runs_of (C := cfg) (objs := []) (sc := t_.ev) (.k0 t_.pf (by kernel_rfl))
      · have h := some_of h
        subst h
        have t_ := tL q_1 <| tL q_2 <| tL q_3 <| tF h4 <| tN
        exact runs_of (C := cfg) (objs := []) (sc := t_.ev) (.k0 t_.pf (by kernel_rfl))
/-! ### kinfolkref09_Same_out -/
def kinfolkref09_Same_out (a : List E_kinfolkref09_Field) (b : List E_kinfolkref09_Field) : Bool → Res
  | r1 => ([(.one (.pv (.bool r1)))], [], [])
/-! ### kinfolkref09_Same_L0 -/
def kinfolkref09_Same_L0_st (a : List E_kinfolkref09_Field) (b : List E_kinfolkref09_Field) (n : Int) : Int → St
  | n2 => ⟨[(0, (.av (.one (.pv (.recs 3 (List.map E_kinfolkref09_Field.pv a) false))))), (1, (.av (.one (.pv (.recs 3 (List.map E_kinfolkref09_Field.pv b) false))))), (12, (.av (.one (.pv (.int .i64 n))))), (13, (.av (.one (.pv (.int .i64 n2)))))], [], []⟩
def kinfolkref09_Same_L0_ex (a : List E_kinfolkref09_Field) (b : List E_kinfolkref09_Field) (n : Int) : (Unit) ⊕ (Unit) → Ex × St
  | .inl _ => (.ret, ⟨[(4, (.av (.one (.pv (.bool false)))))], [], []⟩)
  | .inr _ => ((.exit 0), ⟨[], [], []⟩)
noncomputable def kinfolkref09_Same_L0_step (a : List E_kinfolkref09_Field) (b : List E_kinfolkref09_Field) (n : Int) : Int → Option ((Int) ⊕ ((Unit) ⊕ (Unit)))
  | n2 =>
  bif (decide ((n2 : Int) < n)) then
    bif decide ((0 : Int) ≤ n2) && decide ((n2 : Int) < (((List.map E_kinfolkref09_Field.pv a)).length : Int)) then
    (a[(n2).toNat]?).bind fun e_ => match e_ with
    | .mk n3 s s2 =>
    bif decide ((0 : Int) ≤ n2) && decide ((n2 : Int) < (((List.map E_kinfolkref09_Field.pv b)).length : Int)) then
    (b[(n2).toNat]?).bind fun e_ => match e_ with
    | .mk n4 s3 s4 =>
    bif ((decide ((n3 : Int) = n4)) && ((decide ((s : ByteArray) = s3)) && ((decide ((s2 : ByteArray) = s4)) && true))) then
      some (.inl (iadd .i64 n2 1))
    else
      some (.inr (.inl ()))
    else none
    else none
  else
    some (.inr (.inr ()))
theorem kinfolkref09_Same_L0_ok (a : List E_kinfolkref09_Field) (b : List E_kinfolkref09_Field) (n : Int) (n2 : Int) (z_ : (Int) ⊕ ((Unit) ⊕ (Unit))) (h : kinfolkref09_Same_L0_step a b n n2 = some z_) : RoundOk Tryz.prog cfg 18 0 (loopAt Tryz.prog 18 0) (kinfolkref09_Same_L0_st a b n) (kinfolkref09_Same_L0_ex a b n) n2 z_ := by
  rcases cond_of h with ⟨h1, h⟩ | ⟨h1, h⟩
  · obtain ⟨h2, h⟩ := need_of h
    obtain ⟨⟨n3, s, s2⟩, h3, h⟩ := bind_of h
    obtain ⟨h4, h⟩ := need_of h
    obtain ⟨⟨n4, s3, s4⟩, h5, h⟩ := bind_of h
    rcases cond_of h with ⟨h6, h⟩ | ⟨h6, h⟩
    · have h := some_of h
      subst h
      have t_ := tT h1 <| tO h2 <| tE (.el [(.int .i64 n3), (.str s), (.str s2)]) <| tO (el_of (f := E_kinfolkref09_Field.pv) h3) <| tO h4 <| tE (.el [(.int .i64 n4), (.str s3), (.str s4)]) <| tO (el_of (f := E_kinfolkref09_Field.pv) h5) <| tF (not_of2 h6) <| tN
      exact ⟨t_.ev, kinfolkref09_Same_L0_st a b n (iadd .i64 n2 1), .k0 t_.pf (by kernel_rfl), .same (by kernel_rfl)⟩
    · have h := some_of h
      subst h
      have t_ := tT h1 <| tO h2 <| tE (.el [(.int .i64 n3), (.str s), (.str s2)]) <| tO (el_of (f := E_kinfolkref09_Field.pv) h3) <| tO h4 <| tE (.el [(.int .i64 n4), (.str s3), (.str s4)]) <| tO (el_of (f := E_kinfolkref09_Field.pv) h5) <| tT (not_of h6) <| tN
      exact ⟨t_.ev, (kinfolkref09_Same_L0_ex a b n (.inl ())).2, .k0 t_.pf (by kernel_rfl), .same (by kernel_rfl)⟩
  · have h := some_of h
    subst h
    have t_ := tF h1 <| tN
    exact ⟨t_.ev, ⟨[(14, (.av (.one (.pv (.bool false))))), (0, (.av (.one (.pv (.recs 3 (List.map E_kinfolkref09_Field.pv a) false))))), (1, (.av (.one (.pv (.recs 3 (List.map E_kinfolkref09_Field.pv b) false))))), (12, (.av (.one (.pv (.int .i64 n))))), (13, (.av (.one (.pv (.int .i64 n2))))), (14, (.av (.one (.pv (.bool (decide ((n2 : Int) < n)))))))], [], []⟩, .k0 t_.pf (by kernel_rfl), ⟨trivial, trivial, trivial⟩⟩
theorem kinfolkref09_Same_L0_runs (a : List E_kinfolkref09_Field) (b : List E_kinfolkref09_Field) (n : Int) (s_ : Int) (r_ : (Unit) ⊕ (Unit)) (h : runL (kinfolkref09_Same_L0_step a b n) s_ = some r_) : LRuns Tryz.prog (lEnv Tryz.prog cfg 18 0).nt 0 (.loop (loopAt Tryz.prog 18 0)) (kinfolkref09_Same_L0_st a b n s_) (kinfolkref09_Same_L0_ex a b n r_).1 (kinfolkref09_Same_L0_ex a b n r_).2 :=
  loop_run h (kinfolkref09_Same_L0_ok a b n) (by intro r_; rcases r_ with _ | _ <;> simp [kinfolkref09_Same_L0_ex])
/-! ### kinfolkref09_Same -/
noncomputable def kinfolkref09_Same (a : List E_kinfolkref09_Field) (b : List E_kinfolkref09_Field) : Option (Bool) :=
  bif (decide (((((List.map E_kinfolkref09_Field.pv a)).length : Int) : Int) = (((List.map E_kinfolkref09_Field.pv b)).length : Int))) then
    (runL (kinfolkref09_Same_L0_step a b (((List.map E_kinfolkref09_Field.pv a)).length : Int)) 0).bind fun z_ => match z_ with
    | .inl _ =>
      some false
    | .inr _ =>
      some true
  else
    some false
theorem kinfolkref09_Same_runs (a : List E_kinfolkref09_Field) (b : List E_kinfolkref09_Field) (r_ : Bool) (h : kinfolkref09_Same a b = some r_) : Runs Tryz.prog 18 [(.one (.pv (.recs 3 (List.map E_kinfolkref09_Field.pv a) false))), (.one (.pv (.recs 3 (List.map E_kinfolkref09_Field.pv b) false)))] [] [] (kinfolkref09_Same_out a b r_) := by
  unfold kinfolkref09_Same at h
  rcases cond_of h with ⟨h1, h⟩ | ⟨h1, h⟩
  · obtain ⟨z_, h2, h⟩ := bind_of h
    rcases z_ with _ | _
    · have h := some_of h
      subst h
      have t_ := tF (not_of2 h1) <| tL (kinfolkref09_Same_L0_runs a b (((List.map E_kinfolkref09_Field.pv a)).length : Int) _ _ h2) <| tN
      exact runs_of (C := cfg) (objs := []) (sc := t_.ev) (.k0 t_.pf (by kernel_rfl))
    · have h := some_of h
      subst h
      have t_ := tF (not_of2 h1) <| tL (kinfolkref09_Same_L0_runs a b (((List.map E_kinfolkref09_Field.pv a)).length : Int) _ _ h2) <| tN
      exact runs_of (C := cfg) (objs := []) (sc := t_.ev) (.k0 t_.pf (by kernel_rfl))
  · have h := some_of h
    subst h
    have t_ := tT (not_of h1) <| tN
    exact runs_of (C := cfg) (objs := []) (sc := t_.ev) (.k0 t_.pf (by kernel_rfl))
/-! ### kinfolklaw09_CardPatches -/
noncomputable def kinfolklaw09_CardPatches (N : Nat) (l : List E_card_Field) (adds : List E_card_Field) (drops : List E_card_Field) (clear : List Int) : Option (Bool) :=
  (kinfolklaw09_awake).bind fun b =>
  bif b then
    (kinfolklaw09_made N l).bind fun (r, r2) =>
    bif decide ((0 : Int) ≤ 0) && decide ((0 : Int) ≤ (if (6 : Int) < ((clear).length : Int) then 6 else ((clear).length : Int))) && decide (((if (6 : Int) < ((clear).length : Int) then 6 else ((clear).length : Int)) : Int) ≤ ((clear).length : Int)) && decide (((if (6 : Int) < ((clear).length : Int) then 6 else ((clear).length : Int)) : Int) = (if (6 : Int) < ((clear).length : Int) then 6 else ((clear).length : Int))) then
    (kinfolklaw09_few adds).bind fun r3 =>
    (kinfolklaw09_few drops).bind fun r4 =>
    (slices_Clone_int (List.take ((if (6 : Int) < ((clear).length : Int) then 6 else ((clear).length : Int)) - 0).toNat clear)).bind fun _ =>
    (card_Card_Patch r (List.take ((List.map E_card_Field.pv r3)).length r3) (List.take ((List.map E_card_Field.pv r4)).length r4) (List.take ((if (6 : Int) < ((clear).length : Int) then 6 else ((clear).length : Int)) - 0).toNat clear)).bind fun (r5, n) =>
    (kinfolklaw09_own (List.take ((List.map E_card_Field.pv r3)).length r3)).bind fun r6 =>
    (kinfolklaw09_own (List.take ((List.map E_card_Field.pv r4)).length r4)).bind fun r7 =>
    (kinfolkref09_Patch N r2 (List.take ((List.map E_kinfolkref09_Field.pv r6)).length r6) (List.take ((List.map E_kinfolkref09_Field.pv r7)).length r7) (List.take ((if (6 : Int) < ((clear).length : Int) then 6 else ((clear).length : Int)) - 0).toNat clear)).bind fun (r8, n2) =>
    bif (decide ((n : Int) = n2)) then
      (card_Card_Fields r5).bind fun _ =>
      (kinfolklaw09_own (List.take ((List.map E_card_Field.pv r5)).length r5)).bind fun r9 =>
      (kinfolkref09_Same (List.take ((List.map E_kinfolkref09_Field.pv r9)).length r9) r8).bind fun b2 =>
      bif b2 then
        (card_Card_Fields r).bind fun _ =>
        (kinfolklaw09_own (List.take ((List.map E_card_Field.pv r)).length r)).bind fun r10 =>
        (kinfolkref09_Same (List.take ((List.map E_kinfolkref09_Field.pv r10)).length r10) r2).bind fun b3 =>
        some b3
      else
        some false
    else
      some false
    else none
  else
    some false
theorem kinfolklaw09_CardPatches_runs (N : Nat) (l : List E_card_Field) (adds : List E_card_Field) (drops : List E_card_Field) (clear : List Int) (r_ : Bool) (h : kinfolklaw09_CardPatches N l adds drops clear = some r_) : Runs Tryz.prog 3 [(.one (.pv (.recs 3 (List.map E_card_Field.pv l) false))), (.one (.pv (.recs 3 (List.map E_card_Field.pv adds) false))), (.one (.pv (.recs 3 (List.map E_card_Field.pv drops) false))), (.one (.pv (.ints .i64 clear false)))] [] [] (kinfolklaw09_CardPatches_out l adds drops clear r_) := by
  unfold kinfolklaw09_CardPatches at h
  obtain ⟨b, h1, h⟩ := bind_of h
  rcases cond_of h with ⟨h2, h⟩ | ⟨h2, h⟩
  · obtain ⟨⟨r, r2⟩, h3, h⟩ := bind_of h
    obtain ⟨h4, h⟩ := need_of h
    obtain ⟨r3, h5, h⟩ := bind_of h
    obtain ⟨r4, h6, h⟩ := bind_of h
    obtain ⟨_, h7, h⟩ := bind_of h
    have q_7 := (slices_Clone_int_runs (List.take ((if (6 : Int) < ((clear).length : Int) then 6 else ((clear).length : Int)) - 0).toNat clear) _ h7)
    obtain ⟨⟨r5, n⟩, h8, h⟩ := bind_of h
    have q_8 := (Runs.coe (as' := [(.agg [(.pv (.recs 3 (List.map E_card_Field.pv r) false))]), (.agg [(.pv (.recs 3 (List.take ((List.map E_card_Field.pv r3)).length (List.map E_card_Field.pv r3)) false)), (.pv (.recs 3 (List.take ((List.map E_card_Field.pv r4)).length (List.map E_card_Field.pv r4)) false)), (.pv (.ints .i64 (List.take ((List.take ((if (6 : Int) < ((clear).length : Int) then 6 else ((clear).length : Int)) - 0).toNat clear)).length (List.take ((if (6 : Int) < ((clear).length : Int) then 6 else ((clear).length : Int)) - 0).toNat clear)) false))])]) (objs' := []) (rows' := []) (card_Card_Patch_runs r (List.take ((List.map E_card_Field.pv r3)).length r3) (List.take ((List.map E_card_Field.pv r4)).length r4) (List.take ((if (6 : Int) < ((clear).length : Int) then 6 else ((clear).length : Int)) - 0).toNat clear) _ h8) ⟨⟨.eq rfl, trivial⟩, ⟨.pv (.recsT (.eq (by first | rfl | (simp only [List.take_length]; done) | (simp only [List.take_length, List.length_append, List.drop_zero, List.map_append, List.map_take, List.map_drop, List.map_replicate, List.map_cons, List.map_nil, List.append_nil, List.nil_append, E_card_Field.pv, E_L_card_Field.pv, E_kinfolkref09_Field.pv, E_card_Field.upd, E_L_card_Field.upd, E_kinfolkref09_Field.upd]; done) | (simp; done)))), .pv (.recsT (.eq (by first | rfl | (simp only [List.take_length]; done) | (simp only [List.take_length, List.length_append, List.drop_zero, List.map_append, List.map_take, List.map_drop, List.map_replicate, List.map_cons, List.map_nil, List.append_nil, List.nil_append, E_card_Field.pv, E_L_card_Field.pv, E_kinfolkref09_Field.pv, E_card_Field.upd, E_L_card_Field.upd, E_kinfolkref09_Field.upd]; done) | (simp; done)))), .pv (.ints (by first | rfl | (simp only [List.take_length]; done) | (simp only [List.take_length, List.length_append, List.drop_zero, List.map_append, List.map_take, List.map_drop, List.map_replicate, List.map_cons, List.map_nil, List.append_nil, List.nil_append, E_card_Field.pv, E_L_card_Field.pv, E_kinfolkref09_Field.pv, E_card_Field.upd, E_L_card_Field.upd, E_kinfolkref09_Field.upd]; done) | (simp; done))), trivial⟩, trivial⟩ trivial trivial)
    obtain ⟨r6, h9, h⟩ := bind_of h
    have q_9 := (Runs.coe (as' := [(.one (.pv (.recs 3 (List.take ((List.map E_card_Field.pv r3)).length (List.map E_card_Field.pv r3)) false)))]) (objs' := []) (rows' := []) (kinfolklaw09_own_runs (List.take ((List.map E_card_Field.pv r3)).length r3) _ h9) ⟨.pv (.recsT (.eq (by first | rfl | (simp only [List.take_length]; done) | (simp only [List.take_length, List.length_append, List.drop_zero, List.map_append, List.map_take, List.map_drop, List.map_replicate, List.map_cons, List.map_nil, List.append_nil, List.nil_append, E_card_Field.pv, E_L_card_Field.pv, E_kinfolkref09_Field.pv, E_card_Field.upd, E_L_card_Field.upd, E_kinfolkref09_Field.upd]; done) | (simp; done)))), trivial⟩ trivial trivial)
    obtain ⟨r7, h10, h⟩ := bind_of h
    have q_10 := (Runs.coe (as' := [(.one (.pv (.recs 3 (List.take ((List.map E_card_Field.pv r4)).length (List.map E_card_Field.pv r4)) false)))]) (objs' := []) (rows' := []) (kinfolklaw09_own_runs (List.take ((List.map E_card_Field.pv r4)).length r4) _ h10) ⟨.pv (.recsT (.eq (by first | rfl | (simp only [List.take_length]; done) | (simp only [List.take_length, List.length_append, List.drop_zero, List.map_append, List.map_take, List.map_drop, List.map_replicate, List.map_cons, List.map_nil, List.append_nil, List.nil_append, E_card_Field.pv, E_L_card_Field.pv, E_kinfolkref09_Field.pv, E_card_Field.upd, E_L_card_Field.upd, E_kinfolkref09_Field.upd]; done) | (simp; done)))), trivial⟩ trivial trivial)
    obtain ⟨⟨r8, n2⟩, h11, h⟩ := bind_of h
    have q_11 := (Runs.coe (as' := [(.one (.pv (.recs 3 (List.map E_kinfolkref09_Field.pv r2) false))), (.one (.pv (.recs 3 (List.take ((List.map E_kinfolkref09_Field.pv r6)).length (List.map E_kinfolkref09_Field.pv r6)) false))), (.one (.pv (.recs 3 (List.take ((List.map E_kinfolkref09_Field.pv r7)).length (List.map E_kinfolkref09_Field.pv r7)) false))), (.one (.pv (.ints .i64 (List.take ((List.take ((if (6 : Int) < ((clear).length : Int) then 6 else ((clear).length : Int)) - 0).toNat clear)).length (List.take ((if (6 : Int) < ((clear).length : Int) then 6 else ((clear).length : Int)) - 0).toNat clear)) false)))]) (objs' := []) (rows' := []) (kinfolkref09_Patch_runs N r2 (List.take ((List.map E_kinfolkref09_Field.pv r6)).length r6) (List.take ((List.map E_kinfolkref09_Field.pv r7)).length r7) (List.take ((if (6 : Int) < ((clear).length : Int) then 6 else ((clear).length : Int)) - 0).toNat clear) _ h11) ⟨.eq rfl, .pv (.recsT (.eq (by first | rfl | (simp only [List.take_length]; done) | (simp only [List.take_length, List.length_append, List.drop_zero, List.map_append, List.map_take, List.map_drop, List.map_replicate, List.map_cons, List.map_nil, List.append_nil, List.nil_append, E_card_Field.pv, E_L_card_Field.pv, E_kinfolkref09_Field.pv, E_card_Field.upd, E_L_card_Field.upd, E_kinfolkref09_Field.upd]; done) | (simp; done)))), .pv (.recsT (.eq (by first | rfl | (simp only [List.take_length]; done) | (simp only [List.take_length, List.length_append, List.drop_zero, List.map_append, List.map_take, List.map_drop, List.map_replicate, List.map_cons, List.map_nil, List.append_nil, List.nil_append, E_card_Field.pv, E_L_card_Field.pv, E_kinfolkref09_Field.pv, E_card_Field.upd, E_L_card_Field.upd, E_kinfolkref09_Field.upd]; done) | (simp; done)))), .pv (.ints (by first | rfl | (simp only [List.take_length]; done) | (simp only [List.take_length, List.length_append, List.drop_zero, List.map_append, List.map_take, List.map_drop, List.map_replicate, List.map_cons, List.map_nil, List.append_nil, List.nil_append, E_card_Field.pv, E_L_card_Field.pv, E_kinfolkref09_Field.pv, E_card_Field.upd, E_L_card_Field.upd, E_kinfolkref09_Field.upd]; done) | (simp; done))), trivial⟩ trivial trivial)
    rcases cond_of h with ⟨h12, h⟩ | ⟨h12, h⟩
    · obtain ⟨_, h13, h⟩ := bind_of h
      obtain ⟨r9, h14, h⟩ := bind_of h
      have q_14 := (Runs.coe (as' := [(.one (.pv (.recs 3 (List.take ((List.map E_card_Field.pv r5)).length (List.map E_card_Field.pv r5)) false)))]) (objs' := []) (rows' := []) (kinfolklaw09_own_runs (List.take ((List.map E_card_Field.pv r5)).length r5) _ h14) ⟨.pv (.recsT (.eq (by first | rfl | (simp only [List.take_length]; done) | (simp only [List.take_length, List.length_append, List.drop_zero, List.map_append, List.map_take, List.map_drop, List.map_replicate, List.map_cons, List.map_nil, List.append_nil, List.nil_append, E_card_Field.pv, E_L_card_Field.pv, E_kinfolkref09_Field.pv, E_card_Field.upd, E_L_card_Field.upd, E_kinfolkref09_Field.upd]; done) | (simp; done)))), trivial⟩ trivial trivial)
      obtain ⟨b2, h15, h⟩ := bind_of h
      have q_15 := (Runs.coe (as' := [(.one (.pv (.recs 3 (List.take ((List.map E_kinfolkref09_Field.pv r9)).length (List.map E_kinfolkref09_Field.pv r9)) false))), (.one (.pv (.recs 3 (List.map E_kinfolkref09_Field.pv r8) false)))]) (objs' := []) (rows' := []) (kinfolkref09_Same_runs (List.take ((List.map E_kinfolkref09_Field.pv r9)).length r9) r8 _ h15) ⟨.pv (.recsT (.eq (by first | rfl | (simp only [List.take_length]; done) | (simp only [List.take_length, List.length_append, List.drop_zero, List.map_append, List.map_take, List.map_drop, List.map_replicate, List.map_cons, List.map_nil, List.append_nil, List.nil_append, E_card_Field.pv, E_L_card_Field.pv, E_kinfolkref09_Field.pv, E_card_Field.upd, E_L_card_Field.upd, E_kinfolkref09_Field.upd]; done) | (simp; done)))), .eq rfl, trivial⟩ trivial trivial)
      have p15_ := fun {sc_ : List Ev} {Q_ : Prop} (t_ : Tell sc_ Q_) => tR (kinfolklaw09_awake_runs _ h1) <| tF (not_of2 h2) <| tR (kinfolklaw09_made_runs N l _ h3) <| tO h4 <| tR (kinfolklaw09_few_runs adds _ h5) <| tR (kinfolklaw09_few_runs drops _ h6) <| tR q_7 <| tR q_8 <| tR q_9 <| tR q_10 <| tR q_11 <| tT h12 <| tR (card_Card_Fields_runs r5 _ h13) <| tR q_14 <| tR q_15 <| t_
      rcases cond_of h with ⟨h16, h⟩ | ⟨h16, h⟩
      · obtain ⟨_, h17, h⟩ := bind_of h
        obtain ⟨r10, h18, h⟩ := bind_of h
        obtain ⟨b3, h19, h⟩ := bind_of h
        have h := some_of h
        subst h
        have t_ := p15_ <| tT h16 <| tR (card_Card_Fields_runs r _ h17) <| tR (Runs.coe (as' := [(.one (.pv (.recs 3 (List.take ((List.map E_card_Field.pv r)).length (List.map E_card_Field.pv r)) false)))]) (objs' := []) (rows' := []) (kinfolklaw09_own_runs (List.take ((List.map E_card_Field.pv r)).length r) _ h18) ⟨.pv (.recsT (.eq (by first | rfl | (simp only [List.take_length]; done) | (simp only [List.take_length, List.length_append, List.drop_zero, List.map_append, List.map_take, List.map_drop, List.map_replicate, List.map_cons, List.map_nil, List.append_nil, List.nil_append, E_card_Field.pv, E_L_card_Field.pv, E_kinfolkref09_Field.pv, E_card_Field.upd, E_L_card_Field.upd, E_kinfolkref09_Field.upd]; done) | (simp; done)))), trivial⟩ trivial trivial) <| tR (Runs.coe (as' := [(.one (.pv (.recs 3 (List.take ((List.map E_kinfolkref09_Field.pv r10)).length (List.map E_kinfolkref09_Field.pv r10)) false))), (.one (.pv (.recs 3 (List.map E_kinfolkref09_Field.pv r2) false)))]) (objs' := []) (rows' := []) (kinfolkref09_Same_runs (List.take ((List.map E_kinfolkref09_Field.pv r10)).length r10) r2 _ h19) ⟨.pv (.recsT (.eq (by first | rfl | (simp only [List.take_length]; done) | (simp only [List.take_length, List.length_append, List.drop_zero, List.map_append, List.map_take, List.map_drop, List.map_replicate, List.map_cons, List.map_nil, List.append_nil, List.nil_append, E_card_Field.pv, E_L_card_Field.pv, E_kinfolkref09_Field.pv, E_card_Field.upd, E_L_card_Field.upd, E_kinfolkref09_Field.upd]; done) | (simp; done)))), .eq rfl, trivial⟩ trivial trivial) <| tN
        exact runs_of (C := cfg) (objs := []) (sc := t_.ev) (.k0 t_.pf (by kernel_rfl))
      · have h := some_of h
        subst h
        have t_ := p15_ <| tF h16 <| tN
        exact runs_of (C := cfg) (objs := []) (sc := t_.ev) (.k0 t_.pf (by kernel_rfl))
    · have h := some_of h
      subst h
      have t_ := tR (kinfolklaw09_awake_runs _ h1) <| tF (not_of2 h2) <| tR (kinfolklaw09_made_runs N l _ h3) <| tO h4 <| tR (kinfolklaw09_few_runs adds _ h5) <| tR (kinfolklaw09_few_runs drops _ h6) <| tR q_7 <| tR q_8 <| tR q_9 <| tR q_10 <| tR q_11 <| tF h12 <| tF (rfl : false = false) <| tN
      exact runs_of (C := cfg) (objs := []) (sc := t_.ev) (.k0 t_.pf (by kernel_rfl))
  · have h := some_of h
    subst h
    have t_ := tR (kinfolklaw09_awake_runs _ h1) <| tT (not_of h2) <| tN
    exact runs_of (C := cfg) (objs := []) (sc := t_.ev) (.k0 t_.pf (by kernel_rfl))
/-! ### kinfolklaw09_CardMerges_out -/
def kinfolklaw09_CardMerges_out (l : List E_card_Field) (a : Int) (a2 : ByteArray) (a3 : ByteArray) (b : Int) (b2 : ByteArray) (b3 : ByteArray) : Bool → Res
  | r1 => ([(.one (.pv (.bool r1)))], [], [])
/-! ### card_Same_out -/
def card_Same_out (a : List E_card_Field) (b : List E_card_Field) : Bool → Res
  | r1 => ([(.one (.pv (.bool r1)))], [], [])
/-! ### slices_Equal_card_Field_out -/
def slices_Equal_card_Field_out (s1 : List E_card_Field) (s2 : List E_card_Field) : Bool → Res
  | r1 => ([(.one (.pv (.bool r1)))], [], [])
/-! ### slices_Equal_card_Field_L0 -/
def slices_Equal_card_Field_L0_st (s1 : List E_card_Field) (s2 : List E_card_Field) (n : Int) : Int → St
  | n2 => ⟨[(0, (.av (.one (.pv (.recs 3 (List.map E_card_Field.pv s1) false))))), (1, (.av (.one (.pv (.recs 3 (List.map E_card_Field.pv s2) false))))), (12, (.av (.one (.pv (.int .i64 n))))), (13, (.av (.one (.pv (.int .i64 n2)))))], [], []⟩
def slices_Equal_card_Field_L0_ex (s1 : List E_card_Field) (s2 : List E_card_Field) (n : Int) : (Unit) ⊕ (Unit) → Ex × St
  | .inl _ => (.ret, ⟨[(4, (.av (.one (.pv (.bool false)))))], [], []⟩)
  | .inr _ => ((.exit 0), ⟨[], [], []⟩)
noncomputable def slices_Equal_card_Field_L0_step (s1 : List E_card_Field) (s2 : List E_card_Field) (n : Int) : Int → Option ((Int) ⊕ ((Unit) ⊕ (Unit)))
  | n2 =>
  bif (decide ((n2 : Int) < n)) then
    bif decide ((0 : Int) ≤ n2) && decide ((n2 : Int) < (((List.map E_card_Field.pv s1)).length : Int)) then
    (s1[(n2).toNat]?).bind fun e_ => match e_ with
    | .mk n3 s s3 =>
    bif decide ((0 : Int) ≤ n2) && decide ((n2 : Int) < (((List.map E_card_Field.pv s2)).length : Int)) then
    (s2[(n2).toNat]?).bind fun e_ => match e_ with
    | .mk n4 s4 s5 =>
    bif ((decide ((n3 : Int) = n4)) && ((decide ((s : ByteArray) = s4)) && ((decide ((s3 : ByteArray) = s5)) && true))) then
      some (.inl (iadd .i64 n2 1))
    else
      some (.inr (.inl ()))
    else none
    else none
  else
    some (.inr (.inr ()))
theorem slices_Equal_card_Field_L0_ok (s1 : List E_card_Field) (s2 : List E_card_Field) (n : Int) (n2 : Int) (z_ : (Int) ⊕ ((Unit) ⊕ (Unit))) (h : slices_Equal_card_Field_L0_step s1 s2 n n2 = some z_) : RoundOk Tryz.prog cfg 47 0 (loopAt Tryz.prog 47 0) (slices_Equal_card_Field_L0_st s1 s2 n) (slices_Equal_card_Field_L0_ex s1 s2 n) n2 z_ := by
  rcases cond_of h with ⟨h1, h⟩ | ⟨h1, h⟩
  · obtain ⟨h2, h⟩ := need_of h
    obtain ⟨⟨n3, s, s3⟩, h3, h⟩ := bind_of h
    obtain ⟨h4, h⟩ := need_of h
    obtain ⟨⟨n4, s4, s5⟩, h5, h⟩ := bind_of h
    rcases cond_of h with ⟨h6, h⟩ | ⟨h6, h⟩
    · have h := some_of h
      subst h
      have t_ := tT h1 <| tO h2 <| tE (.el [(.int .i64 n3), (.str s), (.str s3)]) <| tO (el_of (f := E_card_Field.pv) h3) <| tO h4 <| tE (.el [(.int .i64 n4), (.str s4), (.str s5)]) <| tO (el_of (f := E_card_Field.pv) h5) <| tF (not_of2 h6) <| tN
      exact ⟨t_.ev, slices_Equal_card_Field_L0_st s1 s2 n (iadd .i64 n2 1), .k0 t_.pf (by kernel_rfl), .same (by kernel_rfl)⟩
    · have h := some_of h
      subst h
      have t_ := tT h1 <| tO h2 <| tE (.el [(.int .i64 n3), (.str s), (.str s3)]) <| tO (el_of (f := E_card_Field.pv) h3) <| tO h4 <| tE (.el [(.int .i64 n4), (.str s4), (.str s5)]) <| tO (el_of (f := E_card_Field.pv) h5) <| tT (not_of h6) <| tN
      exact ⟨t_.ev, (slices_Equal_card_Field_L0_ex s1 s2 n (.inl ())).2, .k0 t_.pf (by kernel_rfl), .same (by kernel_rfl)⟩
  · have h := some_of h
    subst h
    have t_ := tF h1 <| tN
    exact ⟨t_.ev, ⟨[(14, (.av (.one (.pv (.bool false))))), (0, (.av (.one (.pv (.recs 3 (List.map E_card_Field.pv s1) false))))), (1, (.av (.one (.pv (.recs 3 (List.map E_card_Field.pv s2) false))))), (12, (.av (.one (.pv (.int .i64 n))))), (13, (.av (.one (.pv (.int .i64 n2))))), (14, (.av (.one (.pv (.bool (decide ((n2 : Int) < n)))))))], [], []⟩, .k0 t_.pf (by kernel_rfl), ⟨trivial, trivial, trivial⟩⟩
theorem slices_Equal_card_Field_L0_runs (s1 : List E_card_Field) (s2 : List E_card_Field) (n : Int) (s_ : Int) (r_ : (Unit) ⊕ (Unit)) (h : runL (slices_Equal_card_Field_L0_step s1 s2 n) s_ = some r_) : LRuns Tryz.prog (lEnv Tryz.prog cfg 47 0).nt 0 (.loop (loopAt Tryz.prog 47 0)) (slices_Equal_card_Field_L0_st s1 s2 n s_) (slices_Equal_card_Field_L0_ex s1 s2 n r_).1 (slices_Equal_card_Field_L0_ex s1 s2 n r_).2 :=
  loop_run h (slices_Equal_card_Field_L0_ok s1 s2 n) (by intro r_; rcases r_ with _ | _ <;> simp [slices_Equal_card_Field_L0_ex])
/-! ### slices_Equal_card_Field -/
noncomputable def slices_Equal_card_Field (s1 : List E_card_Field) (s2 : List E_card_Field) : Option (Bool) :=
  bif (decide (((((List.map E_card_Field.pv s1)).length : Int) : Int) = (((List.map E_card_Field.pv s2)).length : Int))) then
    (runL (slices_Equal_card_Field_L0_step s1 s2 (((List.map E_card_Field.pv s1)).length : Int)) 0).bind fun z_ => match z_ with
    | .inl _ =>
      some false
    | .inr _ =>
      some true
  else
    some false
theorem slices_Equal_card_Field_runs (s1 : List E_card_Field) (s2 : List E_card_Field) (r_ : Bool) (h : slices_Equal_card_Field s1 s2 = some r_) : Runs Tryz.prog 47 [(.one (.pv (.recs 3 (List.map E_card_Field.pv s1) false))), (.one (.pv (.recs 3 (List.map E_card_Field.pv s2) false)))] [] [] (slices_Equal_card_Field_out s1 s2 r_) := by
  unfold slices_Equal_card_Field at h
  rcases cond_of h with ⟨h1, h⟩ | ⟨h1, h⟩
  · obtain ⟨z_, h2, h⟩ := bind_of h
    rcases z_ with _ | _
    · have h := some_of h
      subst h
      have t_ := tF (not_of2 h1) <| tL (slices_Equal_card_Field_L0_runs s1 s2 (((List.map E_card_Field.pv s1)).length : Int) _ _ h2) <| tN
      exact runs_of (C := cfg) (objs := []) (sc := t_.ev) (.k0 t_.pf (by kernel_rfl))
    · have h := some_of h
      subst h
      have t_ := tF (not_of2 h1) <| tL (slices_Equal_card_Field_L0_runs s1 s2 (((List.map E_card_Field.pv s1)).length : Int) _ _ h2) <| tN
      exact runs_of (C := cfg) (objs := []) (sc := t_.ev) (.k0 t_.pf (by kernel_rfl))
  · have h := some_of h
    subst h
    have t_ := tT (not_of h1) <| tN
    exact runs_of (C := cfg) (objs := []) (sc := t_.ev) (.k0 t_.pf (by kernel_rfl))
/-! ### card_Same -/
noncomputable def card_Same (a : List E_card_Field) (b : List E_card_Field) : Option (Bool) :=
  (slices_Equal_card_Field a b).bind fun b2 =>
  some b2
theorem card_Same_runs (a : List E_card_Field) (b : List E_card_Field) (r_ : Bool) (h : card_Same a b = some r_) : Runs Tryz.prog 21 [(.agg [(.pv (.recs 3 (List.map E_card_Field.pv a) false))]), (.agg [(.pv (.recs 3 (List.map E_card_Field.pv b) false))])] [] [] (card_Same_out a b r_) := by
  unfold card_Same at h
  obtain ⟨b2, h1, h⟩ := bind_of h
  have h := some_of h
  subst h
  have t_ := tR (slices_Equal_card_Field_runs a b _ h1) <| tN
  exact runs_of (C := cfg) (objs := []) (sc := t_.ev) (.k0 t_.pf (by kernel_rfl))
/-! ### kinfolklaw09_CardMerges -/
noncomputable def kinfolklaw09_CardMerges (N : Nat) (l : List E_card_Field) (a : Int) (a2 : ByteArray) (a3 : ByteArray) (b : Int) (b2 : ByteArray) (b3 : ByteArray) : Option (Bool) :=
  (kinfolklaw09_awake).bind fun b4 =>
  bif b4 then
    (kinfolklaw09_made N l).bind fun (r, r2) =>
    (kinfolklaw09_few [(E_card_Field.mk a a2 a3), (E_card_Field.mk b b2 b3)]).bind fun r3 =>
    bif decide ((0 : Int) ≤ 0) && decide ((0 : Int) < (((List.map E_card_Field.pv r3)).length : Int)) then
    bif decide ((0 : Int) ≤ 1) && decide ((1 : Int) < (((List.map E_card_Field.pv r3)).length : Int)) then
    (r3[0]?).bind fun e_ => match e_ with
    | .mk n s s2 =>
    (r3[1]?).bind fun e_ => match e_ with
    | .mk n2 s3 s4 =>
    (card_Field_Right n s s2).bind fun n3 =>
    bif (decide ((n3 : Int) = 0)) then
      (card_Field_Right n2 s3 s4).bind fun n4 =>
      bif (decide ((n4 : Int) = 0)) then
        bif ((decide ((n : Int) = n2)) && ((decide ((s : ByteArray) = s3)) && ((decide ((s2 : ByteArray) = s4)) && true))) then
          some true
        else
          (card_Card_Patch r [] [(E_card_Field.mk n2 s3 s4)] []).bind fun (r4, n5) =>
          (card_Card_Patch r4 [(E_card_Field.mk n s s2)] [] []).bind fun (r5, n6) =>
          (card_Card_Patch r [(E_card_Field.mk n s s2)] [(E_card_Field.mk n2 s3 s4)] []).bind fun (r6, n7) =>
          bif (decide ((n5 : Int) = 0)) then
            bif (decide ((n6 : Int) = n7)) then
              bif (decide ((n6 : Int) = 0)) then
                (card_Same r5 r6).bind fun b5 =>
                bif b5 then
                  (card_Card_Fields r).bind fun _ =>
                  (card_Card_Patch r (List.take ((List.map E_card_Field.pv r)).length r) [] []).bind fun (r7, n8) =>
                  bif (decide ((n8 : Int) = 0)) then
                    (card_Same r7 r).bind fun b6 =>
                    bif b6 then
                      (card_Card_Fields r6).bind fun _ =>
                      (slices_Contains_card_Field (List.take ((List.map E_card_Field.pv r6)).length r6) n s s2).bind fun b7 =>
                      bif b7 then
                        (slices_Contains_card_Field (List.take ((List.map E_card_Field.pv r6)).length r6) n2 s3 s4).bind fun b8 =>
                        some (!b8)
                      else
                        some false
                    else
                      some false
                  else
                    some false
                else
                  some false
              else
                (card_Card_Fields r).bind fun _ =>
                (card_Card_Patch r (List.take ((List.map E_card_Field.pv r)).length r) [] []).bind fun (r7, n8) =>
                bif (decide ((n8 : Int) = 0)) then
                  (card_Same r7 r).bind fun b5 =>
                  bif b5 then
                    some true
                  else
                    some false
                else
                  some false
            else
              some false
          else
            some false
      else
        some true
    else
      some true
    else none
    else none
  else
    some false
theorem kinfolklaw09_CardMerges_runs (N : Nat) (l : List E_card_Field) (a : Int) (a2 : ByteArray) (a3 : ByteArray) (b : Int) (b2 : ByteArray) (b3 : ByteArray) (r_ : Bool) (h : kinfolklaw09_CardMerges N l a a2 a3 b b2 b3 = some r_) : Runs Tryz.prog 4 [(.one (.pv (.recs 3 (List.map E_card_Field.pv l) false))), (.agg [(.pv (.int .i64 a)), (.pv (.str a2)), (.pv (.str a3))]), (.agg [(.pv (.int .i64 b)), (.pv (.str b2)), (.pv (.str b3))])] [] [] (kinfolklaw09_CardMerges_out l a a2 a3 b b2 b3 r_) := by
  unfold kinfolklaw09_CardMerges at h
  obtain ⟨b4, h1, h⟩ := bind_of h
  rcases cond_of h with ⟨h2, h⟩ | ⟨h2, h⟩
  · obtain ⟨⟨r, r2⟩, h3, h⟩ := bind_of h
    obtain ⟨r3, h4, h⟩ := bind_of h
    have q_4 := (Runs.coe (as' := [(.one (.pv (.recs 3 [[(.int .i64 a), (.str a2), (.str a3)], [(.int .i64 b), (.str b2), (.str b3)]] true)))]) (objs' := []) (rows' := []) (kinfolklaw09_few_runs [(E_card_Field.mk a a2 a3), (E_card_Field.mk b b2 b3)] _ h4) ⟨.pv (.recs (.cons (.cons (.eq rfl) (.cons (.eq rfl) (.cons (.eq rfl) (.nil)))) (.cons (.cons (.eq rfl) (.cons (.eq rfl) (.cons (.eq rfl) (.nil)))) (.nil)))), trivial⟩ trivial trivial)
    obtain ⟨h5, h⟩ := need_of h
    obtain ⟨h6, h⟩ := need_of h
    obtain ⟨⟨n, s, s2⟩, h7, h⟩ := bind_of h
    obtain ⟨⟨n2, s3, s4⟩, h8, h⟩ := bind_of h
    obtain ⟨n3, h9, h⟩ := bind_of h
    have p9_ := fun {sc_ : List Ev} {Q_ : Prop} (t_ : Tell sc_ Q_) => tR (kinfolklaw09_awake_runs _ h1) <| tF (not_of2 h2) <| tR (kinfolklaw09_made_runs N l _ h3) <| tR q_4 <| tO h5 <| tO h6 <| tE (.el [(.int .i64 n), (.str s), (.str s2)]) <| tO (el_of (f := E_card_Field.pv) h7) <| tE (.el [(.int .i64 n2), (.str s3), (.str s4)]) <| tO (el_of (f := E_card_Field.pv) h8) <| tE (.el [(.int .i64 n), (.str s), (.str s2)]) <| tO (el_of (f := E_card_Field.pv) h7) <| tE (.el [(.int .i64 n2), (.str s3), (.str s4)]) <| tO (el_of (f := E_card_Field.pv) h8) <| tE (.el [(.int .i64 n2), (.str s3), (.str s4)]) <| tO (el_of (f := E_card_Field.pv) h8) <| tR (card_Field_Right_runs n s s2 _ h9) <| t_
    rcases cond_of h with ⟨h10, h⟩ | ⟨h10, h⟩
    · obtain ⟨n4, h11, h⟩ := bind_of h
      rcases cond_of h with ⟨h12, h⟩ | ⟨h12, h⟩
      · rcases cond_of h with ⟨h13, h⟩ | ⟨h13, h⟩
        · have h := some_of h
          subst h
          have t_ := p9_ <| tF (not_of2 h10) <| tR (card_Field_Right_runs n2 s3 s4 _ h11) <| tF (not_of2 h12) <| tT h13 <| tN
          exact runs_of (C := cfg) (objs := []) (sc := t_.ev) (.k1 t_.pf (by kernel_rfl) (by kernel_rfl))
        · obtain ⟨⟨r4, n5⟩, h14, h⟩ := bind_of h
          have q_14 := (Runs.coe (as' := [(.agg [(.pv (.recs 3 (List.map E_card_Field.pv r) false))]), (.agg [(.pv .nils), (.pv (.recs 3 [[(.int .i64 n2), (.str s3), (.str s4)]] true)), (.pv .nils)])]) (objs' := []) (rows' := []) (card_Card_Patch_runs r [] [(E_card_Field.mk n2 s3 s4)] [] _ h14) ⟨⟨.eq rfl, trivial⟩, ⟨.pv (.nilsR), .pv (.recs (.cons (.cons (.eq rfl) (.cons (.eq rfl) (.cons (.eq rfl) (.nil)))) (.nil))), .pv (.nilsI), trivial⟩, trivial⟩ trivial trivial)
          obtain ⟨⟨r5, n6⟩, h15, h⟩ := bind_of h
          have q_15 := (Runs.coe (as' := [(.agg [(.pv (.recs 3 (List.map E_card_Field.pv r4) false))]), (.agg [(.pv (.recs 3 [[(.int .i64 n), (.str s), (.str s2)]] true)), (.pv .nils), (.pv .nils)])]) (objs' := []) (rows' := []) (card_Card_Patch_runs r4 [(E_card_Field.mk n s s2)] [] [] _ h15) ⟨⟨.eq rfl, trivial⟩, ⟨.pv (.recs (.cons (.cons (.eq rfl) (.cons (.eq rfl) (.cons (.eq rfl) (.nil)))) (.nil))), .pv (.nilsR), .pv (.nilsI), trivial⟩, trivial⟩ trivial trivial)
          obtain ⟨⟨r6, n7⟩, h16, h⟩ := bind_of h
          have q_16 := (Runs.coe (as' := [(.agg [(.pv (.recs 3 (List.map E_card_Field.pv r) false))]), (.agg [(.pv (.recs 3 [[(.int .i64 n), (.str s), (.str s2)]] true)), (.pv (.recs 3 [[(.int .i64 n2), (.str s3), (.str s4)]] true)), (.pv .nils)])]) (objs' := []) (rows' := []) (card_Card_Patch_runs r [(E_card_Field.mk n s s2)] [(E_card_Field.mk n2 s3 s4)] [] _ h16) ⟨⟨.eq rfl, trivial⟩, ⟨.pv (.recs (.cons (.cons (.eq rfl) (.cons (.eq rfl) (.cons (.eq rfl) (.nil)))) (.nil))), .pv (.recs (.cons (.cons (.eq rfl) (.cons (.eq rfl) (.cons (.eq rfl) (.nil)))) (.nil))), .pv (.nilsI), trivial⟩, trivial⟩ trivial trivial)
          rcases cond_of h with ⟨h17, h⟩ | ⟨h17, h⟩
          · rcases cond_of h with ⟨h18, h⟩ | ⟨h18, h⟩
            · rcases cond_of h with ⟨h19, h⟩ | ⟨h19, h⟩
              · obtain ⟨b5, h20, h⟩ := bind_of h
                rcases cond_of h with ⟨h21, h⟩ | ⟨h21, h⟩
                · obtain ⟨_, h22, h⟩ := bind_of h
                  obtain ⟨⟨r7, n8⟩, h23, h⟩ := bind_of h
                  have q_23 := (Runs.coe (as' := [(.agg [(.pv (.recs 3 (List.map E_card_Field.pv r) false))]), (.agg [(.pv (.recs 3 (List.take ((List.map E_card_Field.pv r)).length (List.map E_card_Field.pv r)) false)), (.pv .nils), (.pv .nils)])]) (objs' := []) (rows' := []) (card_Card_Patch_runs r (List.take ((List.map E_card_Field.pv r)).length r) [] [] _ h23) ⟨⟨.eq rfl, trivial⟩, ⟨.pv (.recsT (.eq (by first | rfl | (simp only [List.take_length]; done) | (simp only [List.take_length, List.length_append, List.drop_zero, List.map_append, List.map_take, List.map_drop, List.map_replicate, List.map_cons, List.map_nil, List.append_nil, List.nil_append, E_card_Field.pv, E_L_card_Field.pv, E_kinfolkref09_Field.pv, E_card_Field.upd, E_L_card_Field.upd, E_kinfolkref09_Field.upd]; done) | (simp; done)))), .pv (.nilsR), .pv (.nilsI), trivial⟩, trivial⟩ trivial trivial)
                  have p23_ := fun {sc_ : List Ev} {Q_ : Prop} (t_ : Tell sc_ Q_) => tF (not_of2 h10) <| tR (card_Field_Right_runs n2 s3 s4 _ h11) <| tF (not_of2 h12) <| tF h13 <| tR q_14 <| tR q_15 <| tR q_16 <| tF (not_of2 h17) <| tF (not_of2 h18) <| tT h19 <| tR (card_Same_runs r5 r6 _ h20) <| tF (not_of2 h21) <| tR (card_Card_Fields_runs r _ h22) <| tR (card_Card_Fields_runs r _ h22) <| tR (card_Card_Fields_runs r _ h22) <| tR (card_Card_Fields_runs r _ h22) <| tR q_23 <| tR q_23 <| t_
                  rcases cond_of h with ⟨h24, h⟩ | ⟨h24, h⟩
                  · obtain ⟨b6, h25, h⟩ := bind_of h
                    rcases cond_of h with ⟨h26, h⟩ | ⟨h26, h⟩
                    · obtain ⟨_, h27, h⟩ := bind_of h
                      obtain ⟨b7, h28, h⟩ := bind_of h
                      have q_28 := (Runs.coe (as' := [(.one (.pv (.recs 3 (List.take ((List.map E_card_Field.pv r6)).length (List.map E_card_Field.pv r6)) false))), (.agg [(.pv (.int .i64 n)), (.pv (.str s)), (.pv (.str s2))])]) (objs' := []) (rows' := []) (slices_Contains_card_Field_runs (List.take ((List.map E_card_Field.pv r6)).length r6) n s s2 _ h28) ⟨.pv (.recsT (.eq (by first | rfl | (simp only [List.take_length]; done) | (simp only [List.take_length, List.length_append, List.drop_zero, List.map_append, List.map_take, List.map_drop, List.map_replicate, List.map_cons, List.map_nil, List.append_nil, List.nil_append, E_card_Field.pv, E_L_card_Field.pv, E_kinfolkref09_Field.pv, E_card_Field.upd, E_L_card_Field.upd, E_kinfolkref09_Field.upd]; done) | (simp; done)))), ⟨.eq rfl, .eq rfl, .eq rfl, trivial⟩, trivial⟩ trivial trivial)
                      rcases cond_of h with ⟨h29, h⟩ | ⟨h29, h⟩
                      · obtain ⟨b8, h30, h⟩ := bind_of h
                        have h := some_of h
                        subst h
                        have t_ := p9_ <| p23_ <| tT h24 <| tR (card_Same_runs r7 r _ h25) <| tT h26 <| tF (not_of2 h19) <| tR (card_Card_Fields_runs r6 _ h27) <| tR (card_Card_Fields_runs r6 _ h27) <| tR q_28 <| tT h29 <| tR (card_Card_Fields_runs r6 _ h27) <| tR (card_Card_Fields_runs r6 _ h27) <| tR (Runs.coe (as' := [(.one (.pv (.recs 3 (List.take ((List.map E_card_Field.pv r6)).length (List.map E_card_Field.pv r6)) false))), (.agg [(.pv (.int .i64 n2)), (.pv (.str s3)), (.pv (.str s4))])]) (objs' := []) (rows' := []) (slices_Contains_card_Field_runs (List.take ((List.map E_card_Field.pv r6)).length r6) n2 s3 s4 _ h30) ⟨.pv (.recsT (.eq (by first | rfl | (simp only [List.take_length]; done) | (simp only [List.take_length, List.length_append, List.drop_zero, List.map_append, List.map_take, List.map_drop, List.map_replicate, List.map_cons, List.map_nil, List.append_nil, List.nil_append, E_card_Field.pv, E_L_card_Field.pv, E_kinfolkref09_Field.pv, E_card_Field.upd, E_L_card_Field.upd, E_kinfolkref09_Field.upd]; done) | (simp; done)))), ⟨.eq rfl, .eq rfl, .eq rfl, trivial⟩, trivial⟩ trivial trivial) <| tN
                        exact runs_of (C := cfg) (objs := []) (sc := t_.ev) (.k1 t_.pf (by kernel_rfl) (by kernel_rfl))
                      · have h := some_of h
                        subst h
                        have t_ := p9_ <| p23_ <| tT h24 <| tR (card_Same_runs r7 r _ h25) <| tT h26 <| tF (not_of2 h19) <| tR (card_Card_Fields_runs r6 _ h27) <| tR (card_Card_Fields_runs r6 _ h27) <| tR q_28 <| tF h29 <| tN
                        exact runs_of (C := cfg) (objs := []) (sc := t_.ev) (.k1 t_.pf (by kernel_rfl) (by kernel_rfl))
                    · have h := some_of h
                      subst h
                      have t_ := p9_ <| p23_ <| tT h24 <| tR (card_Same_runs r7 r _ h25) <| tF h26 <| tN
                      exact runs_of (C := cfg) (objs := []) (sc := t_.ev) (.k1 t_.pf (by kernel_rfl) (by kernel_rfl))
                  · have h := some_of h
                    subst h
                    have t_ := p9_ <| p23_ <| tF h24 <| tF (rfl : false = false) <| tN
                    exact runs_of (C := cfg) (objs := []) (sc := t_.ev) (.k1 t_.pf (by kernel_rfl) (by kernel_rfl))
                · have h := some_of h
                  subst h
                  have t_ := p9_ <| tF (not_of2 h10) <| tR (card_Field_Right_runs n2 s3 s4 _ h11) <| tF (not_of2 h12) <| tF h13 <| tR q_14 <| tR q_15 <| tR q_16 <| tF (not_of2 h17) <| tF (not_of2 h18) <| tT h19 <| tR (card_Same_runs r5 r6 _ h20) <| tT (not_of h21) <| tN
                  exact runs_of (C := cfg) (objs := []) (sc := t_.ev) (.k1 t_.pf (by kernel_rfl) (by kernel_rfl))
              · obtain ⟨_, h20, h⟩ := bind_of h
                obtain ⟨⟨r7, n8⟩, h21, h⟩ := bind_of h
                have q_21 := (Runs.coe (as' := [(.agg [(.pv (.recs 3 (List.map E_card_Field.pv r) false))]), (.agg [(.pv (.recs 3 (List.take ((List.map E_card_Field.pv r)).length (List.map E_card_Field.pv r)) false)), (.pv .nils), (.pv .nils)])]) (objs' := []) (rows' := []) (card_Card_Patch_runs r (List.take ((List.map E_card_Field.pv r)).length r) [] [] _ h21) ⟨⟨.eq rfl, trivial⟩, ⟨.pv (.recsT (.eq (by first | rfl | (simp only [List.take_length]; done) | (simp only [List.take_length, List.length_append, List.drop_zero, List.map_append, List.map_take, List.map_drop, List.map_replicate, List.map_cons, List.map_nil, List.append_nil, List.nil_append, E_card_Field.pv, E_L_card_Field.pv, E_kinfolkref09_Field.pv, E_card_Field.upd, E_L_card_Field.upd, E_kinfolkref09_Field.upd]; done) | (simp; done)))), .pv (.nilsR), .pv (.nilsI), trivial⟩, trivial⟩ trivial trivial)
                have p21_ := fun {sc_ : List Ev} {Q_ : Prop} (t_ : Tell sc_ Q_) => tF (not_of2 h10) <| tR (card_Field_Right_runs n2 s3 s4 _ h11) <| tF (not_of2 h12) <| tF h13 <| tR q_14 <| tR q_15 <| tR q_16 <| tF (not_of2 h17) <| tF (not_of2 h18) <| tF h19 <| tF (rfl : false = false) <| tR (card_Card_Fields_runs r _ h20) <| tR (card_Card_Fields_runs r _ h20) <| tR (card_Card_Fields_runs r _ h20) <| tR (card_Card_Fields_runs r _ h20) <| tR q_21 <| tR q_21 <| t_
                rcases cond_of h with ⟨h22, h⟩ | ⟨h22, h⟩
                · obtain ⟨b5, h23, h⟩ := bind_of h
                  rcases cond_of h with ⟨h24, h⟩ | ⟨h24, h⟩
                  · have h := some_of h
                    subst h
                    have t_ := p9_ <| p21_ <| tT h22 <| tR (card_Same_runs r7 r _ h23) <| tT h24 <| tT (not_of h19) <| tN
                    exact runs_of (C := cfg) (objs := []) (sc := t_.ev) (.k1 t_.pf (by kernel_rfl) (by kernel_rfl))
                  · have h := some_of h
                    subst h
                    have t_ := p9_ <| p21_ <| tT h22 <| tR (card_Same_runs r7 r _ h23) <| tF h24 <| tN
                    exact runs_of (C := cfg) (objs := []) (sc := t_.ev) (.k1 t_.pf (by kernel_rfl) (by kernel_rfl))
                · have h := some_of h
                  subst h
                  have t_ := p9_ <| p21_ <| tF h22 <| tF (rfl : false = false) <| tN
                  exact runs_of (C := cfg) (objs := []) (sc := t_.ev) (.k1 t_.pf (by kernel_rfl) (by kernel_rfl))
            · have h := some_of h
              subst h
              have t_ := p9_ <| tF (not_of2 h10) <| tR (card_Field_Right_runs n2 s3 s4 _ h11) <| tF (not_of2 h12) <| tF h13 <| tR q_14 <| tR q_15 <| tR q_16 <| tF (not_of2 h17) <| tT (not_of h18) <| tT (rfl : true = true) <| tN
              exact runs_of (C := cfg) (objs := []) (sc := t_.ev) (.k1 t_.pf (by kernel_rfl) (by kernel_rfl))
          · have h := some_of h
            subst h
            have t_ := p9_ <| tF (not_of2 h10) <| tR (card_Field_Right_runs n2 s3 s4 _ h11) <| tF (not_of2 h12) <| tF h13 <| tR q_14 <| tR q_15 <| tR q_16 <| tT (not_of h17) <| tT (rfl : true = true) <| tT (rfl : true = true) <| tN
            exact runs_of (C := cfg) (objs := []) (sc := t_.ev) (.k1 t_.pf (by kernel_rfl) (by kernel_rfl))
      · have h := some_of h
        subst h
        have t_ := p9_ <| tF (not_of2 h10) <| tR (card_Field_Right_runs n2 s3 s4 _ h11) <| tT (not_of h12) <| tT (rfl : true = true) <| tN
        exact runs_of (C := cfg) (objs := []) (sc := t_.ev) (.k1 t_.pf (by kernel_rfl) (by kernel_rfl))
    · have h := some_of h
      subst h
      have t_ := p9_ <| tT (not_of h10) <| tT (rfl : true = true) <| tT (rfl : true = true) <| tN
      exact runs_of (C := cfg) (objs := []) (sc := t_.ev) (.k1 t_.pf (by kernel_rfl) (by kernel_rfl))
  · have h := some_of h
    subst h
    have t_ := tR (kinfolklaw09_awake_runs _ h1) <| tT (not_of h2) <| tN
    exact runs_of (C := cfg) (objs := []) (sc := t_.ev) (.k0 t_.pf (by kernel_rfl))
/-! ### kinfolklaw09_CardDiffs_out -/
def kinfolklaw09_CardDiffs_out (l : List E_card_Field) (m : List E_card_Field) : Bool → Res
  | r1 => ([(.one (.pv (.bool r1)))], [], [])
/-! ### card_Diff_out -/
def card_Diff_out (a : List E_card_Field) (b : List E_card_Field) : List E_card_Field × List E_card_Field → Res
  | (r1, r2) => ([(.agg [(.pv (.recs 3 (List.map E_card_Field.pv r1) false)), (.pv (.recs 3 (List.map E_card_Field.pv r2) false)), (.pv (.ints .i64 [] false))])], [], [])
/-! ### card_less_out -/
def card_less_out (a : List E_card_Field) (b : List E_card_Field) : List E_card_Field → Res
  | r1 => ([(.one (.pv (.recs 3 (List.map E_card_Field.pv r1) false)))], [], [])
/-! ### slices_DeleteFunc_card_Field_3_out -/
def slices_DeleteFunc_card_Field_3_out (r : List E_card_Field) (r2 : List E_card_Field) : (Unit) ⊕ (Nat × List E_card_Field) → Res
  | .inl _ => ([(.one (.own 0 0 ((List.map E_card_Field.pv r2)).length false))], [[(.pv (.recs 3 (List.map E_card_Field.pv r) false))]], [(.recs 3 (List.map E_card_Field.pv r2))])
  | .inr (r1, r3) => ([(.one (.own 0 0 r1 false))], [[(.pv (.recs 3 (List.map E_card_Field.pv r) false))]], [(.recs 3 (List.map E_card_Field.pv r3))])
/-! ### slices_IndexFunc_card_Field_3_out -/
def slices_IndexFunc_card_Field_3_out (s : List E_card_Field) (r : List E_card_Field) : Int → Res
  | r1 => ([(.one (.pv (.int .i64 r1)))], [[(.pv (.recs 3 (List.map E_card_Field.pv r) false))]], [])
/-! ### card_less_1_out -/
def card_less_1_out (f : Int) (f2 : ByteArray) (f3 : ByteArray) (r : List E_card_Field) : Bool → Res
  | r1 => ([(.one (.pv (.bool r1)))], [[(.pv (.recs 3 (List.map E_card_Field.pv r) false))]], [])
/-! ### card_less_1 -/
noncomputable def card_less_1 (f : Int) (f2 : ByteArray) (f3 : ByteArray) (r : List E_card_Field) : Option (Bool) :=
  (slices_Contains_card_Field r f f2 f3).bind fun b =>
  some b
theorem card_less_1_runs (f : Int) (f2 : ByteArray) (f3 : ByteArray) (r : List E_card_Field) (r_ : Bool) (h : card_less_1 f f2 f3 r = some r_) : Runs Tryz.prog 112 [(.agg [(.pv (.int .i64 f)), (.pv (.str f2)), (.pv (.str f3))]), (.one (.ref 0 0))] [[(.pv (.recs 3 (List.map E_card_Field.pv r) false))]] [] (card_less_1_out f f2 f3 r r_) := by
  unfold card_less_1 at h
  obtain ⟨b, h1, h⟩ := bind_of h
  have h := some_of h
  subst h
  have t_ := tR (slices_Contains_card_Field_runs r f f2 f3 _ h1) <| tN
  exact runs_of (C := cfg) (objs := [[(.pv (.recs 3 (List.map E_card_Field.pv r) false))]]) (sc := t_.ev) (.k0 t_.pf (by kernel_rfl))

end Go.Proofs.YteiikkpajcggfaaGreatDoor
