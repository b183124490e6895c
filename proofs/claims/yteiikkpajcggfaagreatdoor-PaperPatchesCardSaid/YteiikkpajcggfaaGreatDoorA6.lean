/- What functions compute, and that they do. -/
import Derived.Test.YteiikkpajcggfaaGreatDoorA5
set_option linter.unusedVariables false
set_option linter.unusedSimpArgs false
set_option maxRecDepth 100000
namespace Go.Proofs.YteiikkpajcggfaaGreatDoor
open Go.Ev
def slices_Equal_int_L0_st (s1 : List Int) (s2 : List Int) (n : Int) : Int → St
 | n2 => ⟨[(0, (.av (.one (.pv (.ints .i64 s1 false))))), (1, (.av (.one (.pv (.ints .i64 s2 false))))), (12, (.av (.one (.pv (.int .i64 n))))), (13, (.av (.one (.pv (.int .i64 n2)))))], [], []⟩
def slices_Equal_int_L0_ex (s1 : List Int) (s2 : List Int) (n : Int) : (Unit) ⊕ (Unit) → Ex × St
 | .inl _ => (.ret, ⟨[(4, (.av (.one (.pv (.bool false)))))], [], []⟩)
 | .inr _ => ((.exit 0), ⟨[], [], []⟩)
noncomputable def slices_Equal_int_L0_step (s1 : List Int) (s2 : List Int) (n : Int) : Int → Option ((Int) ⊕ ((Unit) ⊕ (Unit)))
 | n2 =>
 bif (decide ((n2 : Int) < n)) then
  bif decide ((0 : Int) ≤ n2) && decide ((n2 : Int) < ((s1).length : Int)) then
  bif decide ((0 : Int) ≤ n2) && decide ((n2 : Int) < ((s2).length : Int)) then
  bif (decide (((s1.getD (n2).toNat 0) : Int) = (s2.getD (n2).toNat 0))) then
   some (.inl (iadd .i64 n2 1))
  else
   some (.inr (.inl ()))
  else none
  else none
 else
  some (.inr (.inr ()))
theorem slices_Equal_int_L0_ok (s1 : List Int) (s2 : List Int) (n : Int) (n2 : Int) (z_ : (Int) ⊕ ((Unit) ⊕ (Unit))) (h : slices_Equal_int_L0_step s1 s2 n n2 = some z_) : RoundOk Tryz.prog cfg 48 0 (loopAt Tryz.prog 48 0) (slices_Equal_int_L0_st s1 s2 n) (slices_Equal_int_L0_ex s1 s2 n) n2 z_ := by
 rcases cond_of h with ⟨h1, h⟩ | ⟨h1, h⟩
 ·obtain ⟨h2, h⟩ := need_of h
  obtain ⟨h3, h⟩ := need_of h
  rcases cond_of h with ⟨h4, h⟩ | ⟨h4, h⟩
  ·have h := some_of h
   subst h
   have t_ := tT h1 <| tO h2 <| tO h3 <| tF (not_of2 h4) <| tN
   exact ⟨t_.ev, slices_Equal_int_L0_st s1 s2 n (iadd .i64 n2 1), .k0 t_.pf (by kernel_rfl), .same (by kernel_rfl)⟩
  ·have h := some_of h
   subst h
   have t_ := tT h1 <| tO h2 <| tO h3 <| tT (not_of h4) <| tN
   exact ⟨t_.ev, (slices_Equal_int_L0_ex s1 s2 n (.inl ())).2, .k0 t_.pf (by kernel_rfl), .same (by kernel_rfl)⟩
 ·have h := some_of h
  subst h
  have t_ := tF h1 <| tN
  exact ⟨t_.ev, ⟨[(14, (.av (.one (.pv (.bool false))))), (0, (.av (.one (.pv (.ints .i64 s1 false))))), (1, (.av (.one (.pv (.ints .i64 s2 false))))), (12, (.av (.one (.pv (.int .i64 n))))), (13, (.av (.one (.pv (.int .i64 n2))))), (14, (.av (.one (.pv (.bool (decide ((n2 : Int) < n)))))))], [], []⟩, .k0 t_.pf (by kernel_rfl), ⟨trivial, trivial, trivial⟩⟩
theorem slices_Equal_int_L0_runs (s1 : List Int) (s2 : List Int) (n : Int) (s_ : Int) (r_ : (Unit) ⊕ (Unit)) (h : runL (slices_Equal_int_L0_step s1 s2 n) s_ = some r_) : LRuns Tryz.prog (lEnv Tryz.prog cfg 48 0).nt 0 (.loop (loopAt Tryz.prog 48 0)) (slices_Equal_int_L0_st s1 s2 n s_) (slices_Equal_int_L0_ex s1 s2 n r_).1 (slices_Equal_int_L0_ex s1 s2 n r_).2 :=
 loop_run h (slices_Equal_int_L0_ok s1 s2 n) (by intro r_; rcases r_ with _ | _ <;> simp [slices_Equal_int_L0_ex])
noncomputable def slices_Equal_int (s1 : List Int) (s2 : List Int) : Option (Bool) :=
 bif (decide ((((s1).length : Int) : Int) = ((s2).length : Int))) then
  (runL (slices_Equal_int_L0_step s1 s2 ((s1).length : Int)) 0).bind fun z_ => match z_ with
  | .inl _ =>
   some false
  | .inr _ =>
   some true
 else
  some false
theorem slices_Equal_int_runs (s1 : List Int) (s2 : List Int) (r_ : Bool) (h : slices_Equal_int s1 s2 = some r_) : Runs Tryz.prog 48 [(.one (.pv (.ints .i64 s1 false))), (.one (.pv (.ints .i64 s2 false)))] [] [] (slices_Equal_int_out s1 s2 r_) := by
 unfold slices_Equal_int at h
 rcases cond_of h with ⟨h1, h⟩ | ⟨h1, h⟩
 ·obtain ⟨z_, h2, h⟩ := bind_of h
  rcases z_ with _ | _
  ·have h := some_of h
   subst h
   have t_ := tF (not_of2 h1) <| tL (slices_Equal_int_L0_runs s1 s2 ((s1).length : Int) _ _ h2) <| tN
   exact runs_of (C := cfg) (objs := []) (sc := t_.ev) (.k0 t_.pf (by kernel_rfl))
  ·have h := some_of h
   subst h
   have t_ := tF (not_of2 h1) <| tL (slices_Equal_int_L0_runs s1 s2 ((s1).length : Int) _ _ h2) <| tN
   exact runs_of (C := cfg) (objs := []) (sc := t_.ev) (.k0 t_.pf (by kernel_rfl))
 ·have h := some_of h
  subst h
  have t_ := tT (not_of h1) <| tN
  exact runs_of (C := cfg) (objs := []) (sc := t_.ev) (.k0 t_.pf (by kernel_rfl))
def paper_Patch_out (p : List E_card_Field) (p2 : List E_card_Field) (p3 : List Int) : List Int × Int → Res
 | (r1, r2) => ([(.one (.pv (.ints .u8 r1 false))), (.one (.pv (.int .i64 r2)))], [], [])
def slices_Concat_card_Field_out (slices : List E_L_card_Field) : (List E_card_Field) ⊕ (List E_card_Field) → Res
 | .inl r1 => ([(.one (.own 0 0 0 false))], [], [(.recs 3 (List.map E_card_Field.pv r1))])
 | .inr r1 => ([(.one (.own 0 0 ((List.map E_card_Field.pv r1)).length false))], [], [(.recs 3 (List.map E_card_Field.pv r1))])
def slices_Concat_card_Field_L0_st (slices : List E_L_card_Field) (r : List E_L_card_Field) (n : Int) : Int × Int → St
 | (size, n2) => ⟨[(0, (.av (.one (.pv (.recs 1 (List.map E_L_card_Field.pv slices) false))))), (3, (.av (.one (.pv (.int .i64 size))))), (9, (.av (.one (.pv (.recs 1 (List.map E_L_card_Field.pv r) false))))), (10, (.av (.one (.pv (.int .i64 n))))), (11, (.av (.one (.pv (.int .i64 n2)))))], [], []⟩
def slices_Concat_card_Field_L0_ex (slices : List E_L_card_Field) (r : List E_L_card_Field) (n : Int) : Int → Ex × St
 | r1 => ((.exit 0), ⟨[(0, (.av (.one (.pv (.recs 1 (List.map E_L_card_Field.pv slices) false))))), (3, (.av (.one (.pv (.int .i64 r1)))))], [], []⟩)
noncomputable def slices_Concat_card_Field_L0_step (slices : List E_L_card_Field) (r : List E_L_card_Field) (n : Int) : Int × Int → Option ((Int × Int) ⊕ (Int))
 | (size, n2) =>
 bif (decide ((n2 : Int) < n)) then
  bif decide ((0 : Int) ≤ n2) && decide ((n2 : Int) < (((List.map E_L_card_Field.pv r)).length : Int)) then
  (r[(n2).toNat]?).bind fun e_ => match e_ with
  | .mk r2 =>
  bif (decide (((iadd .i64 size (((List.map E_card_Field.pv r2)).length : Int)) : Int) < 0)) then
   none
  else
   some (.inl ((iadd .i64 size (((List.map E_card_Field.pv r2)).length : Int)), (iadd .i64 n2 1)))
  else none
 else
  some (.inr size)
theorem slices_Concat_card_Field_L0_ok (slices : List E_L_card_Field) (r : List E_L_card_Field) (n : Int) (s_ : Int × Int) (z_ : (Int × Int) ⊕ (Int)) (h : slices_Concat_card_Field_L0_step slices r n s_ = some z_) : RoundOk Tryz.prog cfg 80 0 (loopAt Tryz.prog 80 0) (slices_Concat_card_Field_L0_st slices r n) (slices_Concat_card_Field_L0_ex slices r n) s_ z_ := by
 rcases s_ with ⟨size, n2⟩
 rcases cond_of h with ⟨h1, h⟩ | ⟨h1, h⟩
 ·obtain ⟨h2, h⟩ := need_of h
  obtain ⟨⟨r2⟩, h3, h⟩ := bind_of h
  rcases cond_of h with ⟨h4, h⟩ | ⟨h4, h⟩
  ·cases h
  ·have h := some_of h
   subst h
   have t_ := tT h1 <| tO h2 <| tE (.el [(.recs 3 (List.map E_card_Field.pv r2) false)]) <| tO (el_of (f := E_L_card_Field.pv) h3) <| tF h4 <| tN
   exact ⟨t_.ev, slices_Concat_card_Field_L0_st slices r n ((iadd .i64 size (((List.map E_card_Field.pv r2)).length : Int)), (iadd .i64 n2 1)), .k0 t_.pf (by kernel_rfl), .same (by kernel_rfl)⟩
 ·have h := some_of h
  subst h
  have t_ := tF h1 <| tN
  exact ⟨t_.ev, ⟨[(12, (.av (.one (.pv (.bool false))))), (0, (.av (.one (.pv (.recs 1 (List.map E_L_card_Field.pv slices) false))))), (3, (.av (.one (.pv (.int .i64 size))))), (9, (.av (.one (.pv (.recs 1 (List.map E_L_card_Field.pv r) false))))), (10, (.av (.one (.pv (.int .i64 n))))), (11, (.av (.one (.pv (.int .i64 n2))))), (12, (.av (.one (.pv (.bool (decide ((n2 : Int) < n)))))))], [], []⟩, .k0 t_.pf (by kernel_rfl), ⟨⟨⟨_, rfl, .eq rfl⟩, ⟨_, rfl, .eq rfl⟩, trivial⟩, trivial, trivial⟩⟩
theorem slices_Concat_card_Field_L0_runs (slices : List E_L_card_Field) (r : List E_L_card_Field) (n : Int) (s_ : Int × Int) (r_ : Int) (h : runL (slices_Concat_card_Field_L0_step slices r n) s_ = some r_) : LRuns Tryz.prog (lEnv Tryz.prog cfg 80 0).nt 0 (.loop (loopAt Tryz.prog 80 0)) (slices_Concat_card_Field_L0_st slices r n s_) (slices_Concat_card_Field_L0_ex slices r n r_).1 (slices_Concat_card_Field_L0_ex slices r n r_).2 :=
 loop_run h (slices_Concat_card_Field_L0_ok slices r n) (by intro r_; rcases r_ with r1 <;> simp [slices_Concat_card_Field_L0_ex])
def slices_Grow_card_Field_out (n : Int) : (List E_card_Field) ⊕ (Unit) → Res
 | .inl r1 => ([(.one (.own 0 0 0 false))], [], [(.recs 3 (List.map E_card_Field.pv r1))])
 | .inr _ => ([(.one (.pv .nils))], [], [])
noncomputable def slices_Grow_card_Field (n : Int) : Option ((List E_card_Field) ⊕ (Unit)) :=
 bif (decide ((n : Int) < 0)) then
  none
 else
  bif (decide ((0 : Int) < (isub .i64 n 0))) then
   bif decide ((0 : Int) < (isub .i64 n 0)) && fits ((isub .i64 n 0)).toNat then
   bif decide ((0 : Int) ≤ 0) && decide ((0 : Int) ≤ 0) && decide ((0 : Int) ≤ (((List.replicate ((isub .i64 n 0)).toNat ([(.int .i64 0), (.str (⟨#[]⟩ : ByteArray)), (.str (⟨#[]⟩ : ByteArray))] : List PV))).length : Int)) && decide ((0 : Int) = 0) then
   some (.inl (List.replicate ((isub .i64 n 0)).toNat (E_card_Field.mk 0 (⟨#[]⟩ : ByteArray) (⟨#[]⟩ : ByteArray))))
   else none
   else none
  else
   some (.inr ())
theorem slices_Grow_card_Field_runs (n : Int) (r_ : (List E_card_Field) ⊕ (Unit)) (h : slices_Grow_card_Field n = some r_) : Runs Tryz.prog 116 [(.one (.pv .nils)), (.one (.pv (.int .i64 n)))] [] [] (slices_Grow_card_Field_out n r_) := by
 unfold slices_Grow_card_Field at h
 rcases cond_of h with ⟨h1, h⟩ | ⟨h1, h⟩
 ·cases h
 ·rcases cond_of h with ⟨h2, h⟩ | ⟨h2, h⟩
  ·obtain ⟨h3, h⟩ := need_of h
   obtain ⟨h4, h⟩ := need_of h
   have h := some_of h
   subst h
   have t_ := tF h1 <| tT h2 <| tO (rfl : true = true) <| tO h3 <| tO h4 <| tN
   have e_ : Runs Tryz.prog 116 [(.one (.pv .nils)), (.one (.pv (.int .i64 n)))] [] [] ([(.one (.own 0 0 0 false))], [], [(.recs 3 (List.replicate ((isub .i64 n 0)).toNat ([(.int .i64 0), (.str (⟨#[]⟩ : ByteArray)), (.str (⟨#[]⟩ : ByteArray))] : List PV)))]) := runs_of (C := cfg) (objs := []) (sc := t_.ev) (.k0 t_.pf (by kernel_rfl))
   exact e_.out ⟨.eq rfl, trivial⟩ trivial ⟨.recs (.eq (by first | rfl | (simp only [List.take_length, List.drop_zero, List.map_take, List.nil_append]; done) | (simp; done) | (simp only [E_card_Field.upd, E_kinfolkref09_Field.upd, E_L_card_Field.upd, E_card_Card.upd, E_card_Field.upd, E_kinfolkref09_Field.upd, E_L_card_Field.upd, E_card_Card.upd]; done) | (simp [E_card_Field.pv, E_kinfolkref09_Field.pv, E_L_card_Field.pv, E_card_Card.pv, E_card_Field.pv, E_kinfolkref09_Field.pv, E_L_card_Field.pv, E_card_Card.pv]; done) | (simp only [List.length_map, List.take_length, List.length_append, List.map_append, List.map_cons, List.map_nil, List.append_nil, List.nil_append, E_card_Field.pv, E_kinfolkref09_Field.pv, E_L_card_Field.pv, E_card_Card.pv, E_card_Field.pv, E_kinfolkref09_Field.pv, E_L_card_Field.pv, E_card_Card.pv]; done))), trivial⟩ rfl
  ·have h := some_of h
   subst h
   have t_ := tF h1 <| tF h2 <| tN
   exact runs_of (C := cfg) (objs := []) (sc := t_.ev) (.k0 t_.pf (by kernel_rfl))
def slices_Concat_card_Field_L1_st (r : List E_L_card_Field) (n : Int) (r2 : List E_card_Field) : (Unit) ⊕ (Int × List E_card_Field) → St
 | .inl _ => ⟨[(6, (.av (.one (.own 0 0 0 false)))), (25, (.av (.one (.pv (.recs 1 (List.map E_L_card_Field.pv r) false))))), (26, (.av (.one (.pv (.int .i64 n))))), (27, (.av (.one (.pv (.int .i64 0)))))], [], [(0, (.live (.recs 3 (List.map E_card_Field.pv r2))))]⟩
 | .inr (n2, r3) => ⟨[(6, (.av (.one (.own 0 0 ((List.map E_card_Field.pv r3)).length false)))), (25, (.av (.one (.pv (.recs 1 (List.map E_L_card_Field.pv r) false))))), (26, (.av (.one (.pv (.int .i64 n))))), (27, (.av (.one (.pv (.int .i64 n2)))))], [], [(0, (.live (.recs 3 (List.map E_card_Field.pv r3))))]⟩
def slices_Concat_card_Field_L1_ex (r : List E_L_card_Field) (n : Int) (r2 : List E_card_Field) : (Unit) ⊕ (List E_card_Field) → Ex × St
 | .inl _ => ((.exit 2), ⟨[(6, (.av (.one (.own 0 0 0 false))))], [], [(0, (.live (.recs 3 (List.map E_card_Field.pv r2))))]⟩)
 | .inr r1 => ((.exit 2), ⟨[(6, (.av (.one (.own 0 0 ((List.map E_card_Field.pv r1)).length false))))], [], [(0, (.live (.recs 3 (List.map E_card_Field.pv r1))))]⟩)
noncomputable def slices_Concat_card_Field_L1_step (r : List E_L_card_Field) (n : Int) (r2 : List E_card_Field) : (Unit) ⊕ (Int × List E_card_Field) → Option (((Unit) ⊕ (Int × List E_card_Field)) ⊕ ((Unit) ⊕ (List E_card_Field)))
 | .inl _ =>
  bif (decide ((0 : Int) < n)) then
   bif decide ((0 : Int) ≤ 0) && decide ((0 : Int) < (((List.map E_L_card_Field.pv r)).length : Int)) then
   (r[0]?).bind fun e_ => match e_ with
   | .mk r3 =>
   bif Nat.ble 0 ((List.map E_card_Field.pv r2)).length then
   bif Nat.beq 0 ((List.take 0 (List.map E_card_Field.pv r2))).length then
   bif fits (((List.take 0 (List.map E_card_Field.pv r2)) ++ (List.map E_card_Field.pv r3))).length then
   some (.inl (.inr (1, ((List.take 0 r2) ++ r3))))
   else none
   else none
   else none
   else none
  else
   some (.inr (.inl ()))
 | .inr (n2, r3) =>
  bif (decide ((n2 : Int) < n)) then
   bif decide ((0 : Int) ≤ n2) && decide ((n2 : Int) < (((List.map E_L_card_Field.pv r)).length : Int)) then
   (r[(n2).toNat]?).bind fun e_ => match e_ with
   | .mk r4 =>
   bif fits (((List.map E_card_Field.pv r3) ++ (List.map E_card_Field.pv r4))).length then
   some (.inl (.inr ((iadd .i64 n2 1), (r3 ++ r4))))
   else none
   else none
  else
   some (.inr (.inr r3))
theorem slices_Concat_card_Field_L1_ok (r : List E_L_card_Field) (n : Int) (r2 : List E_card_Field) (s_ : (Unit) ⊕ (Int × List E_card_Field)) (z_ : ((Unit) ⊕ (Int × List E_card_Field)) ⊕ ((Unit) ⊕ (List E_card_Field))) (h : slices_Concat_card_Field_L1_step r n r2 s_ = some z_) : RoundOk Tryz.prog cfg 80 0 (loopAt Tryz.prog 80 1) (slices_Concat_card_Field_L1_st r n r2) (slices_Concat_card_Field_L1_ex r n r2) s_ z_ := by
 rcases s_ with _ | ⟨n2, r3⟩
 ·rcases cond_of h with ⟨h1, h⟩ | ⟨h1, h⟩
  ·obtain ⟨h2, h⟩ := need_of h
   obtain ⟨⟨r3⟩, h3, h⟩ := bind_of h
   obtain ⟨h4, h⟩ := need_of h
   obtain ⟨h5, h⟩ := need_of h
   obtain ⟨h6, h⟩ := need_of h
   have h := some_of h
   subst h
   have t_ := tT h1 <| tO h2 <| tE (.el [(.recs 3 (List.map E_card_Field.pv r3) false)]) <| tO (el_of (f := E_L_card_Field.pv) h3) <| tE (.el []) <| tO h4 <| tO h5 <| tO h6 <| tN
   exact ⟨t_.ev, ⟨[(6, (.av (.one (.own 0 0 (((List.take 0 (List.map E_card_Field.pv r2)) ++ (List.map E_card_Field.pv r3))).length false)))), (25, (.av (.one (.pv (.recs 1 (List.map E_L_card_Field.pv r) false))))), (26, (.av (.one (.pv (.int .i64 n))))), (27, (.av (.one (.pv (.int .i64 1)))))], [], [(0, (.live (.recs 3 ((List.take 0 (List.map E_card_Field.pv r2)) ++ (List.map E_card_Field.pv r3)))))]⟩, .k0 t_.pf (by kernel_rfl), ⟨⟨⟨_, rfl, .own (by first | rfl | (simp only [List.take_length, List.drop_zero, List.map_take, List.nil_append]; done) | (simp; done) | (simp only [E_card_Field.upd, E_kinfolkref09_Field.upd, E_L_card_Field.upd, E_card_Card.upd, E_card_Field.upd, E_kinfolkref09_Field.upd, E_L_card_Field.upd, E_card_Card.upd]; done) | (simp [E_card_Field.pv, E_kinfolkref09_Field.pv, E_L_card_Field.pv, E_card_Card.pv, E_card_Field.pv, E_kinfolkref09_Field.pv, E_L_card_Field.pv, E_card_Card.pv]; done) | (simp only [List.length_map, List.take_length, List.length_append, List.map_append, List.map_cons, List.map_nil, List.append_nil, List.nil_append, E_card_Field.pv, E_kinfolkref09_Field.pv, E_L_card_Field.pv, E_card_Card.pv, E_card_Field.pv, E_kinfolkref09_Field.pv, E_L_card_Field.pv, E_card_Card.pv]; done))⟩, ⟨_, rfl, .eq rfl⟩, ⟨_, rfl, .eq rfl⟩, ⟨_, rfl, .eq rfl⟩, trivial⟩, trivial, ⟨⟨rfl, .recs (.app (.eq (by first | rfl | (simp only [List.take_length, List.drop_zero, List.map_take, List.nil_append]; done) | (simp; done) | (simp only [E_card_Field.upd, E_kinfolkref09_Field.upd, E_L_card_Field.upd, E_card_Card.upd, E_card_Field.upd, E_kinfolkref09_Field.upd, E_L_card_Field.upd, E_card_Card.upd]; done) | (simp [E_card_Field.pv, E_kinfolkref09_Field.pv, E_L_card_Field.pv, E_card_Card.pv, E_card_Field.pv, E_kinfolkref09_Field.pv, E_L_card_Field.pv, E_card_Card.pv]; done) | (simp only [List.length_map, List.take_length, List.length_append, List.map_append, List.map_cons, List.map_nil, List.append_nil, List.nil_append, E_card_Field.pv, E_kinfolkref09_Field.pv, E_L_card_Field.pv, E_card_Card.pv, E_card_Field.pv, E_kinfolkref09_Field.pv, E_L_card_Field.pv, E_card_Card.pv]; done))) (.eq rfl))⟩, trivial⟩⟩⟩
  ·have h := some_of h
   subst h
   have t_ := tF h1 <| tN
   exact ⟨t_.ev, ⟨[(28, (.av (.one (.pv (.bool false))))), (6, (.av (.one (.own 0 0 0 false)))), (25, (.av (.one (.pv (.recs 1 (List.map E_L_card_Field.pv r) false))))), (26, (.av (.one (.pv (.int .i64 n))))), (27, (.av (.one (.pv (.int .i64 0))))), (28, (.av (.one (.pv (.bool (decide ((0 : Int) < n)))))))], [], [(0, (.live (.recs 3 (List.map E_card_Field.pv r2))))]⟩, .k0 t_.pf (by kernel_rfl), ⟨⟨⟨_, rfl, .eq rfl⟩, trivial⟩, trivial, ⟨⟨rfl, .eq rfl⟩, trivial⟩⟩⟩
 ·rcases cond_of h with ⟨h1, h⟩ | ⟨h1, h⟩
  ·obtain ⟨h2, h⟩ := need_of h
   obtain ⟨⟨r4⟩, h3, h⟩ := bind_of h
   obtain ⟨h4, h⟩ := need_of h
   have h := some_of h
   subst h
   have t_ := tT h1 <| tO h2 <| tE (.el [(.recs 3 (List.map E_card_Field.pv r4) false)]) <| tO (el_of (f := E_L_card_Field.pv) h3) <| tO (show (Nat.beq ((List.map E_card_Field.pv r3)).length ((List.map E_card_Field.pv r3)).length) = true from Nat.beq_refl _) <| tO h4 <| tN
   exact ⟨t_.ev, ⟨[(6, (.av (.one (.own 0 0 (((List.map E_card_Field.pv r3) ++ (List.map E_card_Field.pv r4))).length false)))), (25, (.av (.one (.pv (.recs 1 (List.map E_L_card_Field.pv r) false))))), (26, (.av (.one (.pv (.int .i64 n))))), (27, (.av (.one (.pv (.int .i64 (iadd .i64 n2 1))))))], [], [(0, (.live (.recs 3 ((List.map E_card_Field.pv r3) ++ (List.map E_card_Field.pv r4)))))]⟩, .k0 t_.pf (by kernel_rfl), ⟨⟨⟨_, rfl, .own (by first | rfl | (simp only [List.take_length, List.drop_zero, List.map_take, List.nil_append]; done) | (simp; done) | (simp only [E_card_Field.upd, E_kinfolkref09_Field.upd, E_L_card_Field.upd, E_card_Card.upd, E_card_Field.upd, E_kinfolkref09_Field.upd, E_L_card_Field.upd, E_card_Card.upd]; done) | (simp [E_card_Field.pv, E_kinfolkref09_Field.pv, E_L_card_Field.pv, E_card_Card.pv, E_card_Field.pv, E_kinfolkref09_Field.pv, E_L_card_Field.pv, E_card_Card.pv]; done) | (simp only [List.length_map, List.take_length, List.length_append, List.map_append, List.map_cons, List.map_nil, List.append_nil, List.nil_append, E_card_Field.pv, E_kinfolkref09_Field.pv, E_L_card_Field.pv, E_card_Card.pv, E_card_Field.pv, E_kinfolkref09_Field.pv, E_L_card_Field.pv, E_card_Card.pv]; done))⟩, ⟨_, rfl, .eq rfl⟩, ⟨_, rfl, .eq rfl⟩, ⟨_, rfl, .eq rfl⟩, trivial⟩, trivial, ⟨⟨rfl, .recs (.app (.eq rfl) (.eq rfl))⟩, trivial⟩⟩⟩
  ·have h := some_of h
   subst h
   have t_ := tF h1 <| tN
   exact ⟨t_.ev, ⟨[(28, (.av (.one (.pv (.bool false))))), (6, (.av (.one (.own 0 0 ((List.map E_card_Field.pv r3)).length false)))), (25, (.av (.one (.pv (.recs 1 (List.map E_L_card_Field.pv r) false))))), (26, (.av (.one (.pv (.int .i64 n))))), (27, (.av (.one (.pv (.int .i64 n2))))), (28, (.av (.one (.pv (.bool (decide ((n2 : Int) < n)))))))], [], [(0, (.live (.recs 3 (List.map E_card_Field.pv r3))))]⟩, .k0 t_.pf (by kernel_rfl), ⟨⟨⟨_, rfl, .eq rfl⟩, trivial⟩, trivial, ⟨⟨rfl, .eq rfl⟩, trivial⟩⟩⟩
theorem slices_Concat_card_Field_L1_runs (r : List E_L_card_Field) (n : Int) (r2 : List E_card_Field) (s_ : (Unit) ⊕ (Int × List E_card_Field)) (r_ : (Unit) ⊕ (List E_card_Field)) (h : runL (slices_Concat_card_Field_L1_step r n r2) s_ = some r_) : LRuns Tryz.prog (lEnv Tryz.prog cfg 80 0).nt 0 (.loop (loopAt Tryz.prog 80 1)) (slices_Concat_card_Field_L1_st r n r2 s_) (slices_Concat_card_Field_L1_ex r n r2 r_).1 (slices_Concat_card_Field_L1_ex r n r2 r_).2 :=
 loop_run h (slices_Concat_card_Field_L1_ok r n r2) (by intro r_; rcases r_ with _ | r1 <;> simp [slices_Concat_card_Field_L1_ex])
def slices_Concat_card_Field_L1_3_st (r : List E_L_card_Field) (n : Int) : Int × List E_card_Field → St
 | (n2, r2) => ⟨[(6, (.av (.one (.own 0 0 ((List.map E_card_Field.pv r2)).length false)))), (25, (.av (.one (.pv (.recs 1 (List.map E_L_card_Field.pv r) false))))), (26, (.av (.one (.pv (.int .i64 n))))), (27, (.av (.one (.pv (.int .i64 n2)))))], [], [(0, (.live (.recs 3 (List.map E_card_Field.pv r2))))]⟩
def slices_Concat_card_Field_L1_3_ex (r : List E_L_card_Field) (n : Int) : List E_card_Field → Ex × St
 | r1 => ((.exit 2), ⟨[(6, (.av (.one (.own 0 0 ((List.map E_card_Field.pv r1)).length false))))], [], [(0, (.live (.recs 3 (List.map E_card_Field.pv r1))))]⟩)
noncomputable def slices_Concat_card_Field_L1_3_step (r : List E_L_card_Field) (n : Int) : Int × List E_card_Field → Option ((Int × List E_card_Field) ⊕ (List E_card_Field))
 | (n2, r2) =>
 bif (decide ((n2 : Int) < n)) then
  bif decide ((0 : Int) ≤ n2) && decide ((n2 : Int) < (((List.map E_L_card_Field.pv r)).length : Int)) then
  (r[(n2).toNat]?).bind fun e_ => match e_ with
  | .mk r3 =>
  bif fits (((List.map E_card_Field.pv r2) ++ (List.map E_card_Field.pv r3))).length then
  some (.inl ((iadd .i64 n2 1), (r2 ++ r3)))
  else none
  else none
 else
  some (.inr r2)
theorem slices_Concat_card_Field_L1_3_ok (r : List E_L_card_Field) (n : Int) (s_ : Int × List E_card_Field) (z_ : (Int × List E_card_Field) ⊕ (List E_card_Field)) (h : slices_Concat_card_Field_L1_3_step r n s_ = some z_) : RoundOk Tryz.prog cfg 80 0 (loopAt Tryz.prog 80 1) (slices_Concat_card_Field_L1_3_st r n) (slices_Concat_card_Field_L1_3_ex r n) s_ z_ := by
 rcases s_ with ⟨n2, r2⟩
 rcases cond_of h with ⟨h1, h⟩ | ⟨h1, h⟩
 ·obtain ⟨h2, h⟩ := need_of h
  obtain ⟨⟨r3⟩, h3, h⟩ := bind_of h
  obtain ⟨h4, h⟩ := need_of h
  have h := some_of h
  subst h
  have t_ := tT h1 <| tO h2 <| tE (.el [(.recs 3 (List.map E_card_Field.pv r3) false)]) <| tO (el_of (f := E_L_card_Field.pv) h3) <| tO (show (Nat.beq ((List.map E_card_Field.pv r2)).length ((List.map E_card_Field.pv r2)).length) = true from Nat.beq_refl _) <| tO h4 <| tN
  exact ⟨t_.ev, ⟨[(6, (.av (.one (.own 0 0 (((List.map E_card_Field.pv r2) ++ (List.map E_card_Field.pv r3))).length false)))), (25, (.av (.one (.pv (.recs 1 (List.map E_L_card_Field.pv r) false))))), (26, (.av (.one (.pv (.int .i64 n))))), (27, (.av (.one (.pv (.int .i64 (iadd .i64 n2 1))))))], [], [(0, (.live (.recs 3 ((List.map E_card_Field.pv r2) ++ (List.map E_card_Field.pv r3)))))]⟩, .k0 t_.pf (by kernel_rfl), ⟨⟨⟨_, rfl, .own (by first | rfl | (simp only [List.take_length, List.drop_zero, List.map_take, List.nil_append]; done) | (simp; done) | (simp only [E_card_Field.upd, E_kinfolkref09_Field.upd, E_L_card_Field.upd, E_card_Card.upd, E_card_Field.upd, E_kinfolkref09_Field.upd, E_L_card_Field.upd, E_card_Card.upd]; done) | (simp [E_card_Field.pv, E_kinfolkref09_Field.pv, E_L_card_Field.pv, E_card_Card.pv, E_card_Field.pv, E_kinfolkref09_Field.pv, E_L_card_Field.pv, E_card_Card.pv]; done) | (simp only [List.length_map, List.take_length, List.length_append, List.map_append, List.map_cons, List.map_nil, List.append_nil, List.nil_append, E_card_Field.pv, E_kinfolkref09_Field.pv, E_L_card_Field.pv, E_card_Card.pv, E_card_Field.pv, E_kinfolkref09_Field.pv, E_L_card_Field.pv, E_card_Card.pv]; done))⟩, ⟨_, rfl, .eq rfl⟩, ⟨_, rfl, .eq rfl⟩, ⟨_, rfl, .eq rfl⟩, trivial⟩, trivial, ⟨⟨rfl, .recs (.app (.eq rfl) (.eq rfl))⟩, trivial⟩⟩⟩
 ·have h := some_of h
  subst h
  have t_ := tF h1 <| tN
  exact ⟨t_.ev, ⟨[(28, (.av (.one (.pv (.bool false))))), (6, (.av (.one (.own 0 0 ((List.map E_card_Field.pv r2)).length false)))), (25, (.av (.one (.pv (.recs 1 (List.map E_L_card_Field.pv r) false))))), (26, (.av (.one (.pv (.int .i64 n))))), (27, (.av (.one (.pv (.int .i64 n2))))), (28, (.av (.one (.pv (.bool (decide ((n2 : Int) < n)))))))], [], [(0, (.live (.recs 3 (List.map E_card_Field.pv r2))))]⟩, .k0 t_.pf (by kernel_rfl), ⟨⟨⟨_, rfl, .eq rfl⟩, trivial⟩, trivial, ⟨⟨rfl, .eq rfl⟩, trivial⟩⟩⟩
theorem slices_Concat_card_Field_L1_3_runs (r : List E_L_card_Field) (n : Int) (s_ : Int × List E_card_Field) (r_ : List E_card_Field) (h : runL (slices_Concat_card_Field_L1_3_step r n) s_ = some r_) : LRuns Tryz.prog (lEnv Tryz.prog cfg 80 0).nt 0 (.loop (loopAt Tryz.prog 80 1)) (slices_Concat_card_Field_L1_3_st r n s_) (slices_Concat_card_Field_L1_3_ex r n r_).1 (slices_Concat_card_Field_L1_3_ex r n r_).2 :=
 loop_run h (slices_Concat_card_Field_L1_3_ok r n) (by intro r_; rcases r_ with r1 <;> simp [slices_Concat_card_Field_L1_3_ex])
noncomputable def slices_Concat_card_Field (slices : List E_L_card_Field) : Option ((List E_card_Field) ⊕ (List E_card_Field)) :=
 (runL (slices_Concat_card_Field_L0_step slices slices (((List.map E_L_card_Field.pv slices)).length : Int)) (0, 0)).bind fun n =>
 (slices_Grow_card_Field n).bind fun z_ => match z_ with
 | .inl r =>
  (runL (slices_Concat_card_Field_L1_step slices (((List.map E_L_card_Field.pv slices)).length : Int) r) (.inl ())).bind fun z_ => match z_ with
  | .inl _ =>
   some (.inl r)
  | .inr r2 =>
   some (.inr r2)
 | .inr _ =>
  (runL (slices_Concat_card_Field_L1_3_step slices (((List.map E_L_card_Field.pv slices)).length : Int)) (0, [])).bind fun r =>
  some (.inr r)
theorem slices_Concat_card_Field_runs (slices : List E_L_card_Field) (r_ : (List E_card_Field) ⊕ (List E_card_Field)) (h : slices_Concat_card_Field slices = some r_) : Runs Tryz.prog 80 [(.one (.pv (.recs 1 (List.map E_L_card_Field.pv slices) false)))] [] [] (slices_Concat_card_Field_out slices r_) := by
 unfold slices_Concat_card_Field at h
 obtain ⟨n, h1, h⟩ := bind_of h
 have q_1 := (slices_Concat_card_Field_L0_runs slices slices (((List.map E_L_card_Field.pv slices)).length : Int) _ _ h1)
 obtain ⟨z_, h2, h⟩ := bind_of h
 rcases z_ with r | _
 ·obtain ⟨z_, h3, h⟩ := bind_of h
  rcases z_ with _ | r2
  ·have h := some_of h
   subst h
   have t_ := tL q_1 <| tR (slices_Grow_card_Field_runs n _ h2) <| tL (slices_Concat_card_Field_L1_runs slices (((List.map E_L_card_Field.pv slices)).length : Int) r _ _ h3) <| tN
   exact runs_of (C := cfg) (objs := []) (sc := t_.ev) (.k0 t_.pf (by kernel_rfl))
  ·have h := some_of h
   subst h
   have t_ := tL q_1 <| tR (slices_Grow_card_Field_runs n _ h2) <| tL (slices_Concat_card_Field_L1_runs slices (((List.map E_L_card_Field.pv slices)).length : Int) r _ _ h3) <| tN
   exact runs_of (C := cfg) (objs := []) (sc := t_.ev) (.k0 t_.pf (by kernel_rfl))
 ·obtain ⟨r, h3, h⟩ := bind_of h
  have h := some_of h
  subst h
  have t_ := tL q_1 <| tR (slices_Grow_card_Field_runs n _ h2) <| tL (LRuns.coe (s0 := ⟨[(6, (.av (.one (.own 0 0 0 false)))), (25, (.av (.one (.pv (.recs 1 (List.map E_L_card_Field.pv slices) false))))), (26, (.av (.one (.pv (.int .i64 (((List.map E_L_card_Field.pv slices)).length : Int)))))), (27, (.av (.one (.pv (.int .i64 0)))))], [], [(0, (.live (.recs 3 [])))]⟩) (slices_Concat_card_Field_L1_3_runs slices (((List.map E_L_card_Field.pv slices)).length : Int) _ _ h3) ⟨⟨⟨_, rfl, .own (by first | rfl | (simp only [List.take_length, List.drop_zero, List.map_take, List.nil_append]; done) | (simp; done) | (simp only [E_card_Field.upd, E_kinfolkref09_Field.upd, E_L_card_Field.upd, E_card_Card.upd, E_card_Field.upd, E_kinfolkref09_Field.upd, E_L_card_Field.upd, E_card_Card.upd]; done) | (simp [E_card_Field.pv, E_kinfolkref09_Field.pv, E_L_card_Field.pv, E_card_Card.pv, E_card_Field.pv, E_kinfolkref09_Field.pv, E_L_card_Field.pv, E_card_Card.pv]; done) | (simp only [List.length_map, List.take_length, List.length_append, List.map_append, List.map_cons, List.map_nil, List.append_nil, List.nil_append, E_card_Field.pv, E_kinfolkref09_Field.pv, E_L_card_Field.pv, E_card_Card.pv, E_card_Field.pv, E_kinfolkref09_Field.pv, E_L_card_Field.pv, E_card_Card.pv]; done))⟩, ⟨_, rfl, .eq rfl⟩, ⟨_, rfl, .eq rfl⟩, ⟨_, rfl, .eq rfl⟩, trivial⟩, trivial, ⟨⟨rfl, .recs (.nil)⟩, trivial⟩⟩) <| tN
  exact runs_of (C := cfg) (objs := []) (sc := t_.ev) (.k0 t_.pf (by kernel_rfl))
def slices_ContainsFunc_card_Field_out (s : List E_card_Field) : Bool → Res
 | r1 => ([(.one (.pv (.bool r1)))], [], [])
def slices_IndexFunc_card_Field_out (s : List E_card_Field) : Int → Res
 | r1 => ([(.one (.pv (.int .i64 r1)))], [], [])
def paper_long_out (f : Int) (f2 : ByteArray) (f3 : ByteArray) : Bool → Res
 | r1 => ([(.one (.pv (.bool r1)))], [], [])
noncomputable def paper_long (f : Int) (f2 : ByteArray) (f3 : ByteArray) : Option (Bool) :=
 bif (decide ((255 : Int) < (f2.size : Int))) then
  some true
 else
  some (decide ((255 : Int) < (f3.size : Int)))
theorem paper_long_runs (f : Int) (f2 : ByteArray) (f3 : ByteArray) (r_ : Bool) (h : paper_long f f2 f3 = some r_) : Runs Tryz.prog 82 [(.agg [(.pv (.int .i64 f)), (.pv (.str f2)), (.pv (.str f3))])] [] [] (paper_long_out f f2 f3 r_) := by
 unfold paper_long at h
 rcases cond_of h with ⟨h1, h⟩ | ⟨h1, h⟩
 ·have h := some_of h
  subst h
  have t_ := tT h1 <| tN
  exact runs_of (C := cfg) (objs := []) (sc := t_.ev) (.k0 t_.pf (by kernel_rfl))
 ·have h := some_of h
  subst h
  have t_ := tF h1 <| tN
  exact runs_of (C := cfg) (objs := []) (sc := t_.ev) (.k0 t_.pf (by kernel_rfl))
def slices_IndexFunc_card_Field_L0_st (s : List E_card_Field) (n : Int) : Int → St
 | n2 => ⟨[(0, (.av (.one (.bor (.recs 3 (List.map E_card_Field.pv s) false))))), (1, (.av (.one (.fn 82 [])))), (7, (.av (.one (.pv (.int .i64 n))))), (8, (.av (.one (.pv (.int .i64 n2)))))], [], []⟩
def slices_IndexFunc_card_Field_L0_ex (s : List E_card_Field) (n : Int) : (Int) ⊕ (Unit) → Ex × St
 | .inl r1 => (.ret, ⟨[(4, (.av (.one (.pv (.int .i64 r1)))))], [], []⟩)
 | .inr _ => ((.exit 0), ⟨[], [], []⟩)
noncomputable def slices_IndexFunc_card_Field_L0_step (s : List E_card_Field) (n : Int) : Int → Option ((Int) ⊕ ((Int) ⊕ (Unit)))
 | n2 =>
 bif (decide ((n2 : Int) < n)) then
  bif decide ((0 : Int) ≤ n2) && decide ((n2 : Int) < (((List.map E_card_Field.pv s)).length : Int)) then
  (s[(n2).toNat]?).bind fun e_ => match e_ with
  | .mk n3 s2 s3 =>
  (paper_long n3 s2 s3).bind fun b =>
  bif b then
   some (.inr (.inl n2))
  else
   some (.inl (iadd .i64 n2 1))
  else none
 else
  some (.inr (.inr ()))
theorem slices_IndexFunc_card_Field_L0_ok (s : List E_card_Field) (n : Int) (n2 : Int) (z_ : (Int) ⊕ ((Int) ⊕ (Unit))) (h : slices_IndexFunc_card_Field_L0_step s n n2 = some z_) : RoundOk Tryz.prog cfg 98 0 (loopAt Tryz.prog 98 0) (slices_IndexFunc_card_Field_L0_st s n) (slices_IndexFunc_card_Field_L0_ex s n) n2 z_ := by
 rcases cond_of h with ⟨h1, h⟩ | ⟨h1, h⟩
 ·obtain ⟨h2, h⟩ := need_of h
  obtain ⟨⟨n3, s2, s3⟩, h3, h⟩ := bind_of h
  obtain ⟨b, h4, h⟩ := bind_of h
  rcases cond_of h with ⟨h5, h⟩ | ⟨h5, h⟩
  ·have h := some_of h
   subst h
   have t_ := tT h1 <| tO h2 <| tE (.el [(.int .i64 n3), (.str s2), (.str s3)]) <| tO (el_of (f := E_card_Field.pv) h3) <| tR (paper_long_runs n3 s2 s3 _ h4) <| tT h5 <| tN
   exact ⟨t_.ev, (slices_IndexFunc_card_Field_L0_ex s n (.inl n2)).2, .k0 t_.pf (by kernel_rfl), .same (by kernel_rfl)⟩
  ·have h := some_of h
   subst h
   have t_ := tT h1 <| tO h2 <| tE (.el [(.int .i64 n3), (.str s2), (.str s3)]) <| tO (el_of (f := E_card_Field.pv) h3) <| tR (paper_long_runs n3 s2 s3 _ h4) <| tF h5 <| tN
   exact ⟨t_.ev, slices_IndexFunc_card_Field_L0_st s n (iadd .i64 n2 1), .k0 t_.pf (by kernel_rfl), .same (by kernel_rfl)⟩
 ·have h := some_of h
  subst h
  have t_ := tF h1 <| tN
  exact ⟨t_.ev, ⟨[(9, (.av (.one (.pv (.bool false))))), (0, (.av (.one (.bor (.recs 3 (List.map E_card_Field.pv s) false))))), (1, (.av (.one (.fn 82 [])))), (7, (.av (.one (.pv (.int .i64 n))))), (8, (.av (.one (.pv (.int .i64 n2))))), (9, (.av (.one (.pv (.bool (decide ((n2 : Int) < n)))))))], [], []⟩, .k0 t_.pf (by kernel_rfl), ⟨trivial, trivial, trivial⟩⟩
theorem slices_IndexFunc_card_Field_L0_runs (s : List E_card_Field) (n : Int) (s_ : Int) (r_ : (Int) ⊕ (Unit)) (h : runL (slices_IndexFunc_card_Field_L0_step s n) s_ = some r_) : LRuns Tryz.prog (lEnv Tryz.prog cfg 98 0).nt 0 (.loop (loopAt Tryz.prog 98 0)) (slices_IndexFunc_card_Field_L0_st s n s_) (slices_IndexFunc_card_Field_L0_ex s n r_).1 (slices_IndexFunc_card_Field_L0_ex s n r_).2 :=
 loop_run h (slices_IndexFunc_card_Field_L0_ok s n) (by intro r_; rcases r_ with r1 | _ <;> simp [slices_IndexFunc_card_Field_L0_ex])
noncomputable def slices_IndexFunc_card_Field (s : List E_card_Field) : Option (Int) :=
 (runL (slices_IndexFunc_card_Field_L0_step s (((List.map E_card_Field.pv s)).length : Int)) 0).bind fun z_ => match z_ with
 | .inl n =>
  some n
 | .inr _ =>
  some (-1)
theorem slices_IndexFunc_card_Field_runs (s : List E_card_Field) (r_ : Int) (h : slices_IndexFunc_card_Field s = some r_) : Runs Tryz.prog 98 [(.one (.bor (.recs 3 (List.map E_card_Field.pv s) false))), (.one (.fn 82 []))] [] [] (slices_IndexFunc_card_Field_out s r_) := by
 unfold slices_IndexFunc_card_Field at h
 obtain ⟨z_, h1, h⟩ := bind_of h
 rcases z_ with n | _
 ·have h := some_of h
  subst h
  have t_ := tL (slices_IndexFunc_card_Field_L0_runs s (((List.map E_card_Field.pv s)).length : Int) _ _ h1) <| tN
  exact runs_of (C := cfg) (objs := []) (sc := t_.ev) (.k0 t_.pf (by kernel_rfl))
 ·have h := some_of h
  subst h
  have t_ := tL (slices_IndexFunc_card_Field_L0_runs s (((List.map E_card_Field.pv s)).length : Int) _ _ h1) <| tN
  exact runs_of (C := cfg) (objs := []) (sc := t_.ev) (.k0 t_.pf (by kernel_rfl))
noncomputable def slices_ContainsFunc_card_Field (s : List E_card_Field) : Option (Bool) :=
 (slices_IndexFunc_card_Field s).bind fun n =>
 some (decide ((0 : Int) ≤ n))
theorem slices_ContainsFunc_card_Field_runs (s : List E_card_Field) (r_ : Bool) (h : slices_ContainsFunc_card_Field s = some r_) : Runs Tryz.prog 81 [(.one (.bor (.recs 3 (List.map E_card_Field.pv s) false))), (.one (.fn 82 []))] [] [] (slices_ContainsFunc_card_Field_out s r_) := by
 unfold slices_ContainsFunc_card_Field at h
 obtain ⟨n, h1, h⟩ := bind_of h
 have h := some_of h
 subst h
 have t_ := tR (slices_IndexFunc_card_Field_runs s _ h1) <| tN
 exact runs_of (C := cfg) (objs := []) (sc := t_.ev) (.k0 t_.pf (by kernel_rfl))
def slices_ContainsFunc_card_Field_2_out (s : List E_card_Field) : Bool → Res
 | r1 => ([(.one (.pv (.bool r1)))], [], [])
def slices_IndexFunc_card_Field_2_out (s : List E_card_Field) : Int → Res
 | r1 => ([(.one (.pv (.int .i64 r1)))], [], [])
def paper_Patch_1_out (f : Int) (f2 : ByteArray) (f3 : ByteArray) : Bool → Res
 | r1 => ([(.one (.pv (.bool r1)))], [], [])
def paper_odd_out (kind : Int) : Bool → Res
 | r1 => ([(.one (.pv (.bool r1)))], [], [])
noncomputable def paper_odd (kind : Int) : Option (Bool) :=
 bif (decide ((kind : Int) < 0)) then
  some true
 else
  some (decide ((255 : Int) < kind))
theorem paper_odd_runs (kind : Int) (r_ : Bool) (h : paper_odd kind = some r_) : Runs Tryz.prog 84 [(.one (.pv (.int .i64 kind)))] [] [] (paper_odd_out kind r_) := by
 unfold paper_odd at h
 rcases cond_of h with ⟨h1, h⟩ | ⟨h1, h⟩
 ·have h := some_of h
  subst h
  have t_ := tT h1 <| tN
  exact runs_of (C := cfg) (objs := []) (sc := t_.ev) (.k0 t_.pf (by kernel_rfl))
 ·have h := some_of h
  subst h
  have t_ := tF h1 <| tN
  exact runs_of (C := cfg) (objs := []) (sc := t_.ev) (.k0 t_.pf (by kernel_rfl))
noncomputable def paper_Patch_1 (f : Int) (f2 : ByteArray) (f3 : ByteArray) : Option (Bool) :=
 (paper_odd f).bind fun b =>
 some b
theorem paper_Patch_1_runs (f : Int) (f2 : ByteArray) (f3 : ByteArray) (r_ : Bool) (h : paper_Patch_1 f f2 f3 = some r_) : Runs Tryz.prog 83 [(.agg [(.pv (.int .i64 f)), (.pv (.str f2)), (.pv (.str f3))])] [] [] (paper_Patch_1_out f f2 f3 r_) := by
 unfold paper_Patch_1 at h
 obtain ⟨b, h1, h⟩ := bind_of h
 have h := some_of h
 subst h
 have t_ := tR (paper_odd_runs f _ h1) <| tN
 exact runs_of (C := cfg) (objs := []) (sc := t_.ev) (.k0 t_.pf (by kernel_rfl))
def slices_IndexFunc_card_Field_L0_2_st (s : List E_card_Field) (n : Int) : Int → St
 | n2 => ⟨[(0, (.av (.one (.bor (.recs 3 (List.map E_card_Field.pv s) false))))), (1, (.av (.one (.fn 83 [])))), (7, (.av (.one (.pv (.int .i64 n))))), (8, (.av (.one (.pv (.int .i64 n2)))))], [], []⟩
def slices_IndexFunc_card_Field_L0_2_ex (s : List E_card_Field) (n : Int) : (Int) ⊕ (Unit) → Ex × St
 | .inl r1 => (.ret, ⟨[(4, (.av (.one (.pv (.int .i64 r1)))))], [], []⟩)
 | .inr _ => ((.exit 0), ⟨[], [], []⟩)
noncomputable def slices_IndexFunc_card_Field_L0_2_step (s : List E_card_Field) (n : Int) : Int → Option ((Int) ⊕ ((Int) ⊕ (Unit)))
 | n2 =>
 bif (decide ((n2 : Int) < n)) then
  bif decide ((0 : Int) ≤ n2) && decide ((n2 : Int) < (((List.map E_card_Field.pv s)).length : Int)) then
  (s[(n2).toNat]?).bind fun e_ => match e_ with
  | .mk n3 s2 s3 =>
  (paper_Patch_1 n3 s2 s3).bind fun b =>
  bif b then
   some (.inr (.inl n2))
  else
   some (.inl (iadd .i64 n2 1))
  else none
 else
  some (.inr (.inr ()))
theorem slices_IndexFunc_card_Field_L0_2_ok (s : List E_card_Field) (n : Int) (n2 : Int) (z_ : (Int) ⊕ ((Int) ⊕ (Unit))) (h : slices_IndexFunc_card_Field_L0_2_step s n n2 = some z_) : RoundOk Tryz.prog cfg 98 0 (loopAt Tryz.prog 98 0) (slices_IndexFunc_card_Field_L0_2_st s n) (slices_IndexFunc_card_Field_L0_2_ex s n) n2 z_ := by
 rcases cond_of h with ⟨h1, h⟩ | ⟨h1, h⟩
 ·obtain ⟨h2, h⟩ := need_of h
  obtain ⟨⟨n3, s2, s3⟩, h3, h⟩ := bind_of h
  obtain ⟨b, h4, h⟩ := bind_of h
  rcases cond_of h with ⟨h5, h⟩ | ⟨h5, h⟩
  ·have h := some_of h
   subst h
   have t_ := tT h1 <| tO h2 <| tE (.el [(.int .i64 n3), (.str s2), (.str s3)]) <| tO (el_of (f := E_card_Field.pv) h3) <| tR (paper_Patch_1_runs n3 s2 s3 _ h4) <| tT h5 <| tN
   exact ⟨t_.ev, (slices_IndexFunc_card_Field_L0_2_ex s n (.inl n2)).2, .k0 t_.pf (by kernel_rfl), .same (by kernel_rfl)⟩
  ·have h := some_of h
   subst h
   have t_ := tT h1 <| tO h2 <| tE (.el [(.int .i64 n3), (.str s2), (.str s3)]) <| tO (el_of (f := E_card_Field.pv) h3) <| tR (paper_Patch_1_runs n3 s2 s3 _ h4) <| tF h5 <| tN
   exact ⟨t_.ev, slices_IndexFunc_card_Field_L0_2_st s n (iadd .i64 n2 1), .k0 t_.pf (by kernel_rfl), .same (by kernel_rfl)⟩
 ·have h := some_of h
  subst h
  have t_ := tF h1 <| tN
  exact ⟨t_.ev, ⟨[(9, (.av (.one (.pv (.bool false))))), (0, (.av (.one (.bor (.recs 3 (List.map E_card_Field.pv s) false))))), (1, (.av (.one (.fn 83 [])))), (7, (.av (.one (.pv (.int .i64 n))))), (8, (.av (.one (.pv (.int .i64 n2))))), (9, (.av (.one (.pv (.bool (decide ((n2 : Int) < n)))))))], [], []⟩, .k0 t_.pf (by kernel_rfl), ⟨trivial, trivial, trivial⟩⟩
theorem slices_IndexFunc_card_Field_L0_2_runs (s : List E_card_Field) (n : Int) (s_ : Int) (r_ : (Int) ⊕ (Unit)) (h : runL (slices_IndexFunc_card_Field_L0_2_step s n) s_ = some r_) : LRuns Tryz.prog (lEnv Tryz.prog cfg 98 0).nt 0 (.loop (loopAt Tryz.prog 98 0)) (slices_IndexFunc_card_Field_L0_2_st s n s_) (slices_IndexFunc_card_Field_L0_2_ex s n r_).1 (slices_IndexFunc_card_Field_L0_2_ex s n r_).2 :=
 loop_run h (slices_IndexFunc_card_Field_L0_2_ok s n) (by intro r_; rcases r_ with r1 | _ <;> simp [slices_IndexFunc_card_Field_L0_2_ex])
noncomputable def slices_IndexFunc_card_Field_2 (s : List E_card_Field) : Option (Int) :=
 (runL (slices_IndexFunc_card_Field_L0_2_step s (((List.map E_card_Field.pv s)).length : Int)) 0).bind fun z_ => match z_ with
 | .inl n =>
  some n
 | .inr _ =>
  some (-1)
theorem slices_IndexFunc_card_Field_2_runs (s : List E_card_Field) (r_ : Int) (h : slices_IndexFunc_card_Field_2 s = some r_) : Runs Tryz.prog 98 [(.one (.bor (.recs 3 (List.map E_card_Field.pv s) false))), (.one (.fn 83 []))] [] [] (slices_IndexFunc_card_Field_2_out s r_) := by
 unfold slices_IndexFunc_card_Field_2 at h
 obtain ⟨z_, h1, h⟩ := bind_of h
 rcases z_ with n | _
 ·have h := some_of h
  subst h
  have t_ := tL (slices_IndexFunc_card_Field_L0_2_runs s (((List.map E_card_Field.pv s)).length : Int) _ _ h1) <| tN
  exact runs_of (C := cfg) (objs := []) (sc := t_.ev) (.k0 t_.pf (by kernel_rfl))
 ·have h := some_of h
  subst h
  have t_ := tL (slices_IndexFunc_card_Field_L0_2_runs s (((List.map E_card_Field.pv s)).length : Int) _ _ h1) <| tN
  exact runs_of (C := cfg) (objs := []) (sc := t_.ev) (.k0 t_.pf (by kernel_rfl))
noncomputable def slices_ContainsFunc_card_Field_2 (s : List E_card_Field) : Option (Bool) :=
 (slices_IndexFunc_card_Field_2 s).bind fun n =>
 some (decide ((0 : Int) ≤ n))
theorem slices_ContainsFunc_card_Field_2_runs (s : List E_card_Field) (r_ : Bool) (h : slices_ContainsFunc_card_Field_2 s = some r_) : Runs Tryz.prog 81 [(.one (.bor (.recs 3 (List.map E_card_Field.pv s) false))), (.one (.fn 83 []))] [] [] (slices_ContainsFunc_card_Field_2_out s r_) := by
 unfold slices_ContainsFunc_card_Field_2 at h
 obtain ⟨n, h1, h⟩ := bind_of h
 have h := some_of h
 subst h
 have t_ := tR (slices_IndexFunc_card_Field_2_runs s _ h1) <| tN
 exact runs_of (C := cfg) (objs := []) (sc := t_.ev) (.k0 t_.pf (by kernel_rfl))
def slices_ContainsFunc_int_out (s : List Int) : Bool → Res
 | r1 => ([(.one (.pv (.bool r1)))], [], [])
def slices_IndexFunc_int_out (s : List Int) : Int → Res
 | r1 => ([(.one (.pv (.int .i64 r1)))], [], [])
def slices_IndexFunc_int_L0_st (s : List Int) (n : Int) : Int → St
 | n2 => ⟨[(0, (.av (.one (.pv (.ints .i64 s false))))), (1, (.av (.one (.fn 84 [])))), (7, (.av (.one (.pv (.int .i64 n))))), (8, (.av (.one (.pv (.int .i64 n2)))))], [], []⟩
def slices_IndexFunc_int_L0_ex (s : List Int) (n : Int) : (Int) ⊕ (Unit) → Ex × St
 | .inl r1 => (.ret, ⟨[(4, (.av (.one (.pv (.int .i64 r1)))))], [], []⟩)
 | .inr _ => ((.exit 0), ⟨[], [], []⟩)
noncomputable def slices_IndexFunc_int_L0_step (s : List Int) (n : Int) : Int → Option ((Int) ⊕ ((Int) ⊕ (Unit)))
 | n2 =>
 bif (decide ((n2 : Int) < n)) then
  bif decide ((0 : Int) ≤ n2) && decide ((n2 : Int) < ((s).length : Int)) then
  (paper_odd (s.getD (n2).toNat 0)).bind fun b =>
  bif b then
   some (.inr (.inl n2))
  else
   some (.inl (iadd .i64 n2 1))
  else none
 else
  some (.inr (.inr ()))
theorem slices_IndexFunc_int_L0_ok (s : List Int) (n : Int) (n2 : Int) (z_ : (Int) ⊕ ((Int) ⊕ (Unit))) (h : slices_IndexFunc_int_L0_step s n n2 = some z_) : RoundOk Tryz.prog cfg 117 0 (loopAt Tryz.prog 117 0) (slices_IndexFunc_int_L0_st s n) (slices_IndexFunc_int_L0_ex s n) n2 z_ := by
 rcases cond_of h with ⟨h1, h⟩ | ⟨h1, h⟩
 ·obtain ⟨h2, h⟩ := need_of h
  obtain ⟨b, h3, h⟩ := bind_of h
  rcases cond_of h with ⟨h4, h⟩ | ⟨h4, h⟩
  ·have h := some_of h
   subst h
   have t_ := tT h1 <| tO h2 <| tR (paper_odd_runs (s.getD (n2).toNat 0) _ h3) <| tT h4 <| tN
   exact ⟨t_.ev, (slices_IndexFunc_int_L0_ex s n (.inl n2)).2, .k0 t_.pf (by kernel_rfl), .same (by kernel_rfl)⟩
  ·have h := some_of h
   subst h
   have t_ := tT h1 <| tO h2 <| tR (paper_odd_runs (s.getD (n2).toNat 0) _ h3) <| tF h4 <| tN
   exact ⟨t_.ev, slices_IndexFunc_int_L0_st s n (iadd .i64 n2 1), .k0 t_.pf (by kernel_rfl), .same (by kernel_rfl)⟩
 ·have h := some_of h
  subst h
  have t_ := tF h1 <| tN
  exact ⟨t_.ev, ⟨[(9, (.av (.one (.pv (.bool false))))), (0, (.av (.one (.pv (.ints .i64 s false))))), (1, (.av (.one (.fn 84 [])))), (7, (.av (.one (.pv (.int .i64 n))))), (8, (.av (.one (.pv (.int .i64 n2))))), (9, (.av (.one (.pv (.bool (decide ((n2 : Int) < n)))))))], [], []⟩, .k0 t_.pf (by kernel_rfl), ⟨trivial, trivial, trivial⟩⟩
theorem slices_IndexFunc_int_L0_runs (s : List Int) (n : Int) (s_ : Int) (r_ : (Int) ⊕ (Unit)) (h : runL (slices_IndexFunc_int_L0_step s n) s_ = some r_) : LRuns Tryz.prog (lEnv Tryz.prog cfg 117 0).nt 0 (.loop (loopAt Tryz.prog 117 0)) (slices_IndexFunc_int_L0_st s n s_) (slices_IndexFunc_int_L0_ex s n r_).1 (slices_IndexFunc_int_L0_ex s n r_).2 :=
 loop_run h (slices_IndexFunc_int_L0_ok s n) (by intro r_; rcases r_ with r1 | _ <;> simp [slices_IndexFunc_int_L0_ex])
noncomputable def slices_IndexFunc_int (s : List Int) : Option (Int) :=
 (runL (slices_IndexFunc_int_L0_step s ((s).length : Int)) 0).bind fun z_ => match z_ with
 | .inl n =>
  some n
 | .inr _ =>
  some (-1)
theorem slices_IndexFunc_int_runs (s : List Int) (r_ : Int) (h : slices_IndexFunc_int s = some r_) : Runs Tryz.prog 117 [(.one (.pv (.ints .i64 s false))), (.one (.fn 84 []))] [] [] (slices_IndexFunc_int_out s r_) := by
 unfold slices_IndexFunc_int at h
 obtain ⟨z_, h1, h⟩ := bind_of h
 rcases z_ with n | _
 ·have h := some_of h
  subst h
  have t_ := tL (slices_IndexFunc_int_L0_runs s ((s).length : Int) _ _ h1) <| tN
  exact runs_of (C := cfg) (objs := []) (sc := t_.ev) (.k0 t_.pf (by kernel_rfl))
 ·have h := some_of h
  subst h
  have t_ := tL (slices_IndexFunc_int_L0_runs s ((s).length : Int) _ _ h1) <| tN
  exact runs_of (C := cfg) (objs := []) (sc := t_.ev) (.k0 t_.pf (by kernel_rfl))
noncomputable def slices_ContainsFunc_int (s : List Int) : Option (Bool) :=
 (slices_IndexFunc_int s).bind fun n =>
 some (decide ((0 : Int) ≤ n))
theorem slices_ContainsFunc_int_runs (s : List Int) (r_ : Bool) (h : slices_ContainsFunc_int s = some r_) : Runs Tryz.prog 85 [(.one (.pv (.ints .i64 s false))), (.one (.fn 84 []))] [] [] (slices_ContainsFunc_int_out s r_) := by
 unfold slices_ContainsFunc_int at h
 obtain ⟨n, h1, h⟩ := bind_of h
 have h := some_of h
 subst h
 have t_ := tR (slices_IndexFunc_int_runs s _ h1) <| tN
 exact runs_of (C := cfg) (objs := []) (sc := t_.ev) (.k0 t_.pf (by kernel_rfl))
def paper_Patch_L0_st (l : List Int) (n : Int) : Int × List Int → St
 | (n2, l2) => ⟨[(5, (.av (.one (.own 0 0 (l2).length false)))), (50, (.av (.one (.pv (.ints .i64 l false))))), (51, (.av (.one (.pv (.int .i64 n))))), (52, (.av (.one (.pv (.int .i64 n2)))))], [], [(0, (.live (.ints .u8 l2)))]⟩
def paper_Patch_L0_ex (l : List Int) (n : Int) : List Int → Ex × St
 | r1 => ((.exit 1), ⟨[(5, (.av (.one (.own 0 0 (r1).length false))))], [], [(0, (.live (.ints .u8 r1)))]⟩)
noncomputable def paper_Patch_L0_step (l : List Int) (n : Int) : Int × List Int → Option ((Int × List Int) ⊕ (List Int))
 | (n2, l2) =>
 bif (decide ((n2 : Int) < n)) then
  bif decide ((0 : Int) ≤ n2) && decide ((n2 : Int) < ((l).length : Int)) then
  bif fits ((l2 ++ [(IntKind.u8.wrap (l.getD (n2).toNat 0))])).length then
  some (.inl ((iadd .i64 n2 1), (l2 ++ [(IntKind.u8.wrap (l.getD (n2).toNat 0))])))
  else none
  else none
 else
  some (.inr l2)
theorem paper_Patch_L0_ok (l : List Int) (n : Int) (s_ : Int × List Int) (z_ : (Int × List Int) ⊕ (List Int)) (h : paper_Patch_L0_step l n s_ = some z_) : RoundOk Tryz.prog cfg 44 0 (loopAt Tryz.prog 44 0) (paper_Patch_L0_st l n) (paper_Patch_L0_ex l n) s_ z_ := by
 rcases s_ with ⟨n2, l2⟩
 rcases cond_of h with ⟨h1, h⟩ | ⟨h1, h⟩
 ·obtain ⟨h2, h⟩ := need_of h
  obtain ⟨h3, h⟩ := need_of h
  have h := some_of h
  subst h
  have t_ := tT h1 <| tO h2 <| tO (show (Nat.beq (l2).length (l2).length) = true from Nat.beq_refl _) <| tO h3 <| tN
  exact ⟨t_.ev, paper_Patch_L0_st l n ((iadd .i64 n2 1), (l2 ++ [(IntKind.u8.wrap (l.getD (n2).toNat 0))])), .k0 t_.pf (by kernel_rfl), .same (by kernel_rfl)⟩
 ·have h := some_of h
  subst h
  have t_ := tF h1 <| tN
  exact ⟨t_.ev, ⟨[(53, (.av (.one (.pv (.bool false))))), (5, (.av (.one (.own 0 0 (l2).length false)))), (50, (.av (.one (.pv (.ints .i64 l false))))), (51, (.av (.one (.pv (.int .i64 n))))), (52, (.av (.one (.pv (.int .i64 n2))))), (53, (.av (.one (.pv (.bool (decide ((n2 : Int) < n)))))))], [], [(0, (.live (.ints .u8 l2)))]⟩, .k0 t_.pf (by kernel_rfl), ⟨⟨⟨_, rfl, .eq rfl⟩, trivial⟩, trivial, ⟨⟨rfl, .eq rfl⟩, trivial⟩⟩⟩
theorem paper_Patch_L0_runs (l : List Int) (n : Int) (s_ : Int × List Int) (r_ : List Int) (h : runL (paper_Patch_L0_step l n) s_ = some r_) : LRuns Tryz.prog (lEnv Tryz.prog cfg 44 0).nt 0 (.loop (loopAt Tryz.prog 44 0)) (paper_Patch_L0_st l n s_) (paper_Patch_L0_ex l n r_).1 (paper_Patch_L0_ex l n r_).2 :=
 loop_run h (paper_Patch_L0_ok l n) (by intro r_; rcases r_ with r1 <;> simp [paper_Patch_L0_ex])
noncomputable def paper_Patch (p : List E_card_Field) (p2 : List E_card_Field) (p3 : List Int) : Option (List Int × Int) :=
 (slices_Concat_card_Field [(E_L_card_Field.mk p), (E_L_card_Field.mk p2)]).bind fun z_ => match z_ with
 | .inl r =>
  bif (decide ((255 : Int) < (if ((if ((((List.map E_card_Field.pv p)).length : Int) : Int) < (((List.map E_card_Field.pv p2)).length : Int) then (((List.map E_card_Field.pv p2)).length : Int) else (((List.map E_card_Field.pv p)).length : Int)) : Int) < ((p3).length : Int) then ((p3).length : Int) else (if ((((List.map E_card_Field.pv p)).length : Int) : Int) < (((List.map E_card_Field.pv p2)).length : Int) then (((List.map E_card_Field.pv p2)).length : Int) else (((List.map E_card_Field.pv p)).length : Int))))) then
   some ([], 9)
  else
   (slices_ContainsFunc_card_Field (List.take 0 r)).bind fun b =>
   bif b then
    some ([], 9)
   else
    (slices_ContainsFunc_card_Field_2 (List.take 0 r)).bind fun b2 =>
    bif b2 then
     some ([], 1)
    else
     (slices_ContainsFunc_int p3).bind fun b3 =>
     bif b3 then
      some ([], 1)
     else
      (paper_fields [] p).bind fun l_ =>
      (paper_fields l_ p2).bind fun l_2 =>
      (wire_Num l_2 (IntKind.u64.wrap ((p3).length : Int))).bind fun l_3 =>
      (runL (paper_Patch_L0_step p3 ((p3).length : Int)) (0, l_3)).bind fun l_4 =>
      some (l_4, 0)
 | .inr r =>
  bif (decide ((255 : Int) < (if ((if ((((List.map E_card_Field.pv p)).length : Int) : Int) < (((List.map E_card_Field.pv p2)).length : Int) then (((List.map E_card_Field.pv p2)).length : Int) else (((List.map E_card_Field.pv p)).length : Int)) : Int) < ((p3).length : Int) then ((p3).length : Int) else (if ((((List.map E_card_Field.pv p)).length : Int) : Int) < (((List.map E_card_Field.pv p2)).length : Int) then (((List.map E_card_Field.pv p2)).length : Int) else (((List.map E_card_Field.pv p)).length : Int))))) then
   some ([], 9)
  else
   (slices_ContainsFunc_card_Field (List.take ((List.map E_card_Field.pv r)).length r)).bind fun b =>
   bif b then
    some ([], 9)
   else
    (slices_ContainsFunc_card_Field_2 (List.take ((List.map E_card_Field.pv r)).length r)).bind fun b2 =>
    bif b2 then
     some ([], 1)
    else
     (slices_ContainsFunc_int p3).bind fun b3 =>
     bif b3 then
      some ([], 1)
     else
      (paper_fields [] p).bind fun l_ =>
      (paper_fields l_ p2).bind fun l_2 =>
      (wire_Num l_2 (IntKind.u64.wrap ((p3).length : Int))).bind fun l_3 =>
      (runL (paper_Patch_L0_step p3 ((p3).length : Int)) (0, l_3)).bind fun l_4 =>
      some (l_4, 0)
theorem paper_Patch_runs (p : List E_card_Field) (p2 : List E_card_Field) (p3 : List Int) (r_ : List Int × Int) (h : paper_Patch p p2 p3 = some r_) : Runs Tryz.prog 44 [(.agg [(.pv (.recs 3 (List.map E_card_Field.pv p) false)), (.pv (.recs 3 (List.map E_card_Field.pv p2) false)), (.pv (.ints .i64 p3 false))])] [] [] (paper_Patch_out p p2 p3 r_) := by
 unfold paper_Patch at h
 obtain ⟨z_, h1, h⟩ := bind_of h
 rcases z_ with r | r
 ·have q_1 := (Runs.coe (as' := [(.one (.pv (.recs 1 [[(.recs 3 (List.map E_card_Field.pv p) false)], [(.recs 3 (List.map E_card_Field.pv p2) false)]] true)))]) (objs' := []) (rows' := []) (slices_Concat_card_Field_runs [(E_L_card_Field.mk p), (E_L_card_Field.mk p2)] _ h1) ⟨.pv (.recs (.cons (.cons (.eq rfl) (.nil)) (.cons (.cons (.eq rfl) (.nil)) (.nil)))), trivial⟩ trivial trivial)
  rcases cond_of h with ⟨h2, h⟩ | ⟨h2, h⟩
  ·have h := some_of h
   subst h
   have t_ := tR q_1 <| tT h2 <| tT (rfl : true = true) <| tN
   have e_ : Runs Tryz.prog 44 [(.agg [(.pv (.recs 3 (List.map E_card_Field.pv p) false)), (.pv (.recs 3 (List.map E_card_Field.pv p2) false)), (.pv (.ints .i64 p3 false))])] [] [] ([(.one (.pv .nils)), (.one (.pv (.int .i64 9)))], [], []) := runs_of (C := cfg) (objs := []) (sc := t_.ev) (.k0 t_.pf (by kernel_rfl))
   exact e_.out ⟨.pv (.nilsI), .eq rfl, trivial⟩ trivial trivial rfl
  ·obtain ⟨b, h3, h⟩ := bind_of h
   have q_3 := (Runs.coe (as' := [(.one (.bor (.recs 3 (List.take 0 (List.map E_card_Field.pv r)) false))), (.one (.fn 82 []))]) (objs' := []) (rows' := []) (slices_ContainsFunc_card_Field_runs (List.take 0 r) _ h3) ⟨.bor (.recsT (.eq (by first | rfl | (simp only [List.take_length, List.drop_zero, List.map_take, List.nil_append]; done) | (simp; done) | (simp only [E_card_Field.upd, E_kinfolkref09_Field.upd, E_L_card_Field.upd, E_card_Card.upd, E_card_Field.upd, E_kinfolkref09_Field.upd, E_L_card_Field.upd, E_card_Card.upd]; done) | (simp [E_card_Field.pv, E_kinfolkref09_Field.pv, E_L_card_Field.pv, E_card_Card.pv, E_card_Field.pv, E_kinfolkref09_Field.pv, E_L_card_Field.pv, E_card_Card.pv]; done) | (simp only [List.length_map, List.take_length, List.length_append, List.map_append, List.map_cons, List.map_nil, List.append_nil, List.nil_append, E_card_Field.pv, E_kinfolkref09_Field.pv, E_L_card_Field.pv, E_card_Card.pv, E_card_Field.pv, E_kinfolkref09_Field.pv, E_L_card_Field.pv, E_card_Card.pv]; done)))), .eq rfl, trivial⟩ trivial trivial)
   rcases cond_of h with ⟨h4, h⟩ | ⟨h4, h⟩
   ·have h := some_of h
    subst h
    have t_ := tR q_1 <| tF h2 <| tR q_3 <| tT h4 <| tN
    have e_ : Runs Tryz.prog 44 [(.agg [(.pv (.recs 3 (List.map E_card_Field.pv p) false)), (.pv (.recs 3 (List.map E_card_Field.pv p2) false)), (.pv (.ints .i64 p3 false))])] [] [] ([(.one (.pv .nils)), (.one (.pv (.int .i64 9)))], [], []) := runs_of (C := cfg) (objs := []) (sc := t_.ev) (.k0 t_.pf (by kernel_rfl))
    exact e_.out ⟨.pv (.nilsI), .eq rfl, trivial⟩ trivial trivial rfl
   ·obtain ⟨b2, h5, h⟩ := bind_of h
    have q_5 := (Runs.coe (as' := [(.one (.bor (.recs 3 (List.take 0 (List.map E_card_Field.pv r)) false))), (.one (.fn 83 []))]) (objs' := []) (rows' := []) (slices_ContainsFunc_card_Field_2_runs (List.take 0 r) _ h5) ⟨.bor (.recsT (.eq (by first | rfl | (simp only [List.take_length, List.drop_zero, List.map_take, List.nil_append]; done) | (simp; done) | (simp only [E_card_Field.upd, E_kinfolkref09_Field.upd, E_L_card_Field.upd, E_card_Card.upd, E_card_Field.upd, E_kinfolkref09_Field.upd, E_L_card_Field.upd, E_card_Card.upd]; done) | (simp [E_card_Field.pv, E_kinfolkref09_Field.pv, E_L_card_Field.pv, E_card_Card.pv, E_card_Field.pv, E_kinfolkref09_Field.pv, E_L_card_Field.pv, E_card_Card.pv]; done) | (simp only [List.length_map, List.take_length, List.length_append, List.map_append, List.map_cons, List.map_nil, List.append_nil, List.nil_append, E_card_Field.pv, E_kinfolkref09_Field.pv, E_L_card_Field.pv, E_card_Card.pv, E_card_Field.pv, E_kinfolkref09_Field.pv, E_L_card_Field.pv, E_card_Card.pv]; done)))), .eq rfl, trivial⟩ trivial trivial)
    rcases cond_of h with ⟨h6, h⟩ | ⟨h6, h⟩
    ·have h := some_of h
     subst h
     have t_ := tR q_1 <| tF h2 <| tR q_3 <| tF h4 <| tR q_5 <| tT h6 <| tT (rfl : true = true) <| tN
     have e_ : Runs Tryz.prog 44 [(.agg [(.pv (.recs 3 (List.map E_card_Field.pv p) false)), (.pv (.recs 3 (List.map E_card_Field.pv p2) false)), (.pv (.ints .i64 p3 false))])] [] [] ([(.one (.pv .nils)), (.one (.pv (.int .i64 1)))], [], []) := runs_of (C := cfg) (objs := []) (sc := t_.ev) (.k0 t_.pf (by kernel_rfl))
     exact e_.out ⟨.pv (.nilsI), .eq rfl, trivial⟩ trivial trivial rfl
    ·obtain ⟨b3, h7, h⟩ := bind_of h
     rcases cond_of h with ⟨h8, h⟩ | ⟨h8, h⟩
     ·have h := some_of h
      subst h
      have t_ := tR q_1 <| tF h2 <| tR q_3 <| tF h4 <| tR q_5 <| tF h6 <| tR (slices_ContainsFunc_int_runs p3 _ h7) <| tT h8 <| tN
      have e_ : Runs Tryz.prog 44 [(.agg [(.pv (.recs 3 (List.map E_card_Field.pv p) false)), (.pv (.recs 3 (List.map E_card_Field.pv p2) false)), (.pv (.ints .i64 p3 false))])] [] [] ([(.one (.pv .nils)), (.one (.pv (.int .i64 1)))], [], []) := runs_of (C := cfg) (objs := []) (sc := t_.ev) (.k0 t_.pf (by kernel_rfl))
      exact e_.out ⟨.pv (.nilsI), .eq rfl, trivial⟩ trivial trivial rfl
     ·obtain ⟨l_, h9, h⟩ := bind_of h
      obtain ⟨l_2, h10, h⟩ := bind_of h
      obtain ⟨l_3, h11, h⟩ := bind_of h
      obtain ⟨l_4, h12, h⟩ := bind_of h
      have h := some_of h
      subst h
      have t_ := tR q_1 <| tF h2 <| tR q_3 <| tF h4 <| tR q_5 <| tF h6 <| tR (slices_ContainsFunc_int_runs p3 _ h7) <| tF h8 <| tR (Runs.coe (as' := [(.one (.pv .nils)), (.one (.pv (.recs 3 (List.map E_card_Field.pv p) false)))]) (objs' := []) (rows' := []) (paper_fields_runs [] p _ h9) ⟨.pv (.nilsI), .eq rfl, trivial⟩ trivial trivial) <| tR (Runs.coe (as' := [(.one (.pv .nils)), (.one (.pv (.recs 3 (List.map E_card_Field.pv p) false)))]) (objs' := []) (rows' := []) (paper_fields_runs [] p _ h9) ⟨.pv (.nilsI), .eq rfl, trivial⟩ trivial trivial) <| tR (Runs.coe (as' := [(.one (.pv (.ints .u8 (List.take (l_).length l_) false))), (.one (.pv (.recs 3 (List.map E_card_Field.pv p2) false)))]) (objs' := []) (rows' := []) (paper_fields_runs l_ p2 _ h10) ⟨.pv (.ints (by first | rfl | (simp only [List.take_length, List.drop_zero, List.map_take, List.nil_append]; done) | (simp; done) | (simp only [E_card_Field.upd, E_kinfolkref09_Field.upd, E_L_card_Field.upd, E_card_Card.upd, E_card_Field.upd, E_kinfolkref09_Field.upd, E_L_card_Field.upd, E_card_Card.upd]; done) | (simp [E_card_Field.pv, E_kinfolkref09_Field.pv, E_L_card_Field.pv, E_card_Card.pv, E_card_Field.pv, E_kinfolkref09_Field.pv, E_L_card_Field.pv, E_card_Card.pv]; done) | (simp only [List.length_map, List.take_length, List.length_append, List.map_append, List.map_cons, List.map_nil, List.append_nil, List.nil_append, E_card_Field.pv, E_kinfolkref09_Field.pv, E_L_card_Field.pv, E_card_Card.pv, E_card_Field.pv, E_kinfolkref09_Field.pv, E_L_card_Field.pv, E_card_Card.pv]; done))), .eq rfl, trivial⟩ trivial trivial) <| tR (Runs.coe (as' := [(.one (.pv .nils)), (.one (.pv (.recs 3 (List.map E_card_Field.pv p) false)))]) (objs' := []) (rows' := []) (paper_fields_runs [] p _ h9) ⟨.pv (.nilsI), .eq rfl, trivial⟩ trivial trivial) <| tR (Runs.coe (as' := [(.one (.pv .nils)), (.one (.pv (.recs 3 (List.map E_card_Field.pv p) false)))]) (objs' := []) (rows' := []) (paper_fields_runs [] p _ h9) ⟨.pv (.nilsI), .eq rfl, trivial⟩ trivial trivial) <| tR (Runs.coe (as' := [(.one (.pv (.ints .u8 (List.take (l_).length l_) false))), (.one (.pv (.recs 3 (List.map E_card_Field.pv p2) false)))]) (objs' := []) (rows' := []) (paper_fields_runs l_ p2 _ h10) ⟨.pv (.ints (by first | rfl | (simp only [List.take_length, List.drop_zero, List.map_take, List.nil_append]; done) | (simp; done) | (simp only [E_card_Field.upd, E_kinfolkref09_Field.upd, E_L_card_Field.upd, E_card_Card.upd, E_card_Field.upd, E_kinfolkref09_Field.upd, E_L_card_Field.upd, E_card_Card.upd]; done) | (simp [E_card_Field.pv, E_kinfolkref09_Field.pv, E_L_card_Field.pv, E_card_Card.pv, E_card_Field.pv, E_kinfolkref09_Field.pv, E_L_card_Field.pv, E_card_Card.pv]; done) | (simp only [List.length_map, List.take_length, List.length_append, List.map_append, List.map_cons, List.map_nil, List.append_nil, List.nil_append, E_card_Field.pv, E_kinfolkref09_Field.pv, E_L_card_Field.pv, E_card_Card.pv, E_card_Field.pv, E_kinfolkref09_Field.pv, E_L_card_Field.pv, E_card_Card.pv]; done))), .eq rfl, trivial⟩ trivial trivial) <| tR (Runs.coe (as' := [(.one (.pv (.ints .u8 (List.take (l_2).length l_2) false))), (.one (.pv (.int .u64 (IntKind.u64.wrap ((p3).length : Int)))))]) (objs' := []) (rows' := []) (wire_Num_runs l_2 (IntKind.u64.wrap ((p3).length : Int)) _ h11) ⟨.pv (.ints (by first | rfl | (simp only [List.take_length, List.drop_zero, List.map_take, List.nil_append]; done) | (simp; done) | (simp only [E_card_Field.upd, E_kinfolkref09_Field.upd, E_L_card_Field.upd, E_card_Card.upd, E_card_Field.upd, E_kinfolkref09_Field.upd, E_L_card_Field.upd, E_card_Card.upd]; done) | (simp [E_card_Field.pv, E_kinfolkref09_Field.pv, E_L_card_Field.pv, E_card_Card.pv, E_card_Field.pv, E_kinfolkref09_Field.pv, E_L_card_Field.pv, E_card_Card.pv]; done) | (simp only [List.length_map, List.take_length, List.length_append, List.map_append, List.map_cons, List.map_nil, List.append_nil, List.nil_append, E_card_Field.pv, E_kinfolkref09_Field.pv, E_L_card_Field.pv, E_card_Card.pv, E_card_Field.pv, E_kinfolkref09_Field.pv, E_L_card_Field.pv, E_card_Card.pv]; done))), .eq rfl, trivial⟩ trivial trivial) <| tL (paper_Patch_L0_runs p3 ((p3).length : Int) _ _ h12) <| tN
      have e_ : Runs Tryz.prog 44 [(.agg [(.pv (.recs 3 (List.map E_card_Field.pv p) false)), (.pv (.recs 3 (List.map E_card_Field.pv p2) false)), (.pv (.ints .i64 p3 false))])] [] [] ([(.one (.own 0 0 (l_4).length false)), (.one (.pv (.int .i64 0)))], [], [(.ints .u8 l_4)]) := runs_of (C := cfg) (objs := []) (sc := t_.ev) (.k1 t_.pf (by kernel_rfl) (by kernel_rfl))
      have e_ := e_.shut (res' := ([(.one (.pv (.ints .u8 (List.take (l_4).length l_4) false))), (.one (.pv (.int .i64 0)))], [], [])) [0] (by kernel_rfl)
      exact e_.out ⟨.pv (.ints (by first | rfl | (simp only [List.take_length, List.drop_zero, List.map_take, List.nil_append]; done) | (simp; done) | (simp only [E_card_Field.upd, E_kinfolkref09_Field.upd, E_L_card_Field.upd, E_card_Card.upd, E_card_Field.upd, E_kinfolkref09_Field.upd, E_L_card_Field.upd, E_card_Card.upd]; done) | (simp [E_card_Field.pv, E_kinfolkref09_Field.pv, E_L_card_Field.pv, E_card_Card.pv, E_card_Field.pv, E_kinfolkref09_Field.pv, E_L_card_Field.pv, E_card_Card.pv]; done) | (simp only [List.length_map, List.take_length, List.length_append, List.map_append, List.map_cons, List.map_nil, List.append_nil, List.nil_append, E_card_Field.pv, E_kinfolkref09_Field.pv, E_L_card_Field.pv, E_card_Card.pv, E_card_Field.pv, E_kinfolkref09_Field.pv, E_L_card_Field.pv, E_card_Card.pv]; done))), .eq rfl, trivial⟩ trivial trivial rfl
 ·have q_1 := (Runs.coe (as' := [(.one (.pv (.recs 1 [[(.recs 3 (List.map E_card_Field.pv p) false)], [(.recs 3 (List.map E_card_Field.pv p2) false)]] true)))]) (objs' := []) (rows' := []) (slices_Concat_card_Field_runs [(E_L_card_Field.mk p), (E_L_card_Field.mk p2)] _ h1) ⟨.pv (.recs (.cons (.cons (.eq rfl) (.nil)) (.cons (.cons (.eq rfl) (.nil)) (.nil)))), trivial⟩ trivial trivial)
  rcases cond_of h with ⟨h2, h⟩ | ⟨h2, h⟩
  ·have h := some_of h
   subst h
   have t_ := tR q_1 <| tT h2 <| tT (rfl : true = true) <| tN
   have e_ : Runs Tryz.prog 44 [(.agg [(.pv (.recs 3 (List.map E_card_Field.pv p) false)), (.pv (.recs 3 (List.map E_card_Field.pv p2) false)), (.pv (.ints .i64 p3 false))])] [] [] ([(.one (.pv .nils)), (.one (.pv (.int .i64 9)))], [], []) := runs_of (C := cfg) (objs := []) (sc := t_.ev) (.k0 t_.pf (by kernel_rfl))
   exact e_.out ⟨.pv (.nilsI), .eq rfl, trivial⟩ trivial trivial rfl
  ·obtain ⟨b, h3, h⟩ := bind_of h
   have q_3 := (Runs.coe (as' := [(.one (.bor (.recs 3 (List.take ((List.map E_card_Field.pv r)).length (List.map E_card_Field.pv r)) false))), (.one (.fn 82 []))]) (objs' := []) (rows' := []) (slices_ContainsFunc_card_Field_runs (List.take ((List.map E_card_Field.pv r)).length r) _ h3) ⟨.bor (.recsT (.eq (by first | rfl | (simp only [List.take_length, List.drop_zero, List.map_take, List.nil_append]; done) | (simp; done) | (simp only [E_card_Field.upd, E_kinfolkref09_Field.upd, E_L_card_Field.upd, E_card_Card.upd, E_card_Field.upd, E_kinfolkref09_Field.upd, E_L_card_Field.upd, E_card_Card.upd]; done) | (simp [E_card_Field.pv, E_kinfolkref09_Field.pv, E_L_card_Field.pv, E_card_Card.pv, E_card_Field.pv, E_kinfolkref09_Field.pv, E_L_card_Field.pv, E_card_Card.pv]; done) | (simp only [List.length_map, List.take_length, List.length_append, List.map_append, List.map_cons, List.map_nil, List.append_nil, List.nil_append, E_card_Field.pv, E_kinfolkref09_Field.pv, E_L_card_Field.pv, E_card_Card.pv, E_card_Field.pv, E_kinfolkref09_Field.pv, E_L_card_Field.pv, E_card_Card.pv]; done)))), .eq rfl, trivial⟩ trivial trivial)
   rcases cond_of h with ⟨h4, h⟩ | ⟨h4, h⟩
   ·have h := some_of h
    subst h
    have t_ := tR q_1 <| tF h2 <| tR q_3 <| tT h4 <| tN
    have e_ : Runs Tryz.prog 44 [(.agg [(.pv (.recs 3 (List.map E_card_Field.pv p) false)), (.pv (.recs 3 (List.map E_card_Field.pv p2) false)), (.pv (.ints .i64 p3 false))])] [] [] ([(.one (.pv .nils)), (.one (.pv (.int .i64 9)))], [], []) := runs_of (C := cfg) (objs := []) (sc := t_.ev) (.k0 t_.pf (by kernel_rfl))
    exact e_.out ⟨.pv (.nilsI), .eq rfl, trivial⟩ trivial trivial rfl
   ·obtain ⟨b2, h5, h⟩ := bind_of h
    have q_5 := (Runs.coe (as' := [(.one (.bor (.recs 3 (List.take ((List.map E_card_Field.pv r)).length (List.map E_card_Field.pv r)) false))), (.one (.fn 83 []))]) (objs' := []) (rows' := []) (slices_ContainsFunc_card_Field_2_runs (List.take ((List.map E_card_Field.pv r)).length r) _ h5) ⟨.bor (.recsT (.eq (by first | rfl | (simp only [List.take_length, List.drop_zero, List.map_take, List.nil_append]; done) | (simp; done) | (simp only [E_card_Field.upd, E_kinfolkref09_Field.upd, E_L_card_Field.upd, E_card_Card.upd, E_card_Field.upd, E_kinfolkref09_Field.upd, E_L_card_Field.upd, E_card_Card.upd]; done) | (simp [E_card_Field.pv, E_kinfolkref09_Field.pv, E_L_card_Field.pv, E_card_Card.pv, E_card_Field.pv, E_kinfolkref09_Field.pv, E_L_card_Field.pv, E_card_Card.pv]; done) | (simp only [List.length_map, List.take_length, List.length_append, List.map_append, List.map_cons, List.map_nil, List.append_nil, List.nil_append, E_card_Field.pv, E_kinfolkref09_Field.pv, E_L_card_Field.pv, E_card_Card.pv, E_card_Field.pv, E_kinfolkref09_Field.pv, E_L_card_Field.pv, E_card_Card.pv]; done)))), .eq rfl, trivial⟩ trivial trivial)
    rcases cond_of h with ⟨h6, h⟩ | ⟨h6, h⟩
    ·have h := some_of h
     subst h
     have t_ := tR q_1 <| tF h2 <| tR q_3 <| tF h4 <| tR q_5 <| tT h6 <| tT (rfl : true = true) <| tN
     have e_ : Runs Tryz.prog 44 [(.agg [(.pv (.recs 3 (List.map E_card_Field.pv p) false)), (.pv (.recs 3 (List.map E_card_Field.pv p2) false)), (.pv (.ints .i64 p3 false))])] [] [] ([(.one (.pv .nils)), (.one (.pv (.int .i64 1)))], [], []) := runs_of (C := cfg) (objs := []) (sc := t_.ev) (.k0 t_.pf (by kernel_rfl))
     exact e_.out ⟨.pv (.nilsI), .eq rfl, trivial⟩ trivial trivial rfl
    ·obtain ⟨b3, h7, h⟩ := bind_of h
     rcases cond_of h with ⟨h8, h⟩ | ⟨h8, h⟩
     ·have h := some_of h
      subst h
      have t_ := tR q_1 <| tF h2 <| tR q_3 <| tF h4 <| tR q_5 <| tF h6 <| tR (slices_ContainsFunc_int_runs p3 _ h7) <| tT h8 <| tN
      have e_ : Runs Tryz.prog 44 [(.agg [(.pv (.recs 3 (List.map E_card_Field.pv p) false)), (.pv (.recs 3 (List.map E_card_Field.pv p2) false)), (.pv (.ints .i64 p3 false))])] [] [] ([(.one (.pv .nils)), (.one (.pv (.int .i64 1)))], [], []) := runs_of (C := cfg) (objs := []) (sc := t_.ev) (.k0 t_.pf (by kernel_rfl))
      exact e_.out ⟨.pv (.nilsI), .eq rfl, trivial⟩ trivial trivial rfl
     ·obtain ⟨l_, h9, h⟩ := bind_of h
      obtain ⟨l_2, h10, h⟩ := bind_of h
      obtain ⟨l_3, h11, h⟩ := bind_of h
      obtain ⟨l_4, h12, h⟩ := bind_of h
      have h := some_of h
      subst h
      have t_ := tR q_1 <| tF h2 <| tR q_3 <| tF h4 <| tR q_5 <| tF h6 <| tR (slices_ContainsFunc_int_runs p3 _ h7) <| tF h8 <| tR (Runs.coe (as' := [(.one (.pv .nils)), (.one (.pv (.recs 3 (List.map E_card_Field.pv p) false)))]) (objs' := []) (rows' := []) (paper_fields_runs [] p _ h9) ⟨.pv (.nilsI), .eq rfl, trivial⟩ trivial trivial) <| tR (Runs.coe (as' := [(.one (.pv .nils)), (.one (.pv (.recs 3 (List.map E_card_Field.pv p) false)))]) (objs' := []) (rows' := []) (paper_fields_runs [] p _ h9) ⟨.pv (.nilsI), .eq rfl, trivial⟩ trivial trivial) <| tR (Runs.coe (as' := [(.one (.pv (.ints .u8 (List.take (l_).length l_) false))), (.one (.pv (.recs 3 (List.map E_card_Field.pv p2) false)))]) (objs' := []) (rows' := []) (paper_fields_runs l_ p2 _ h10) ⟨.pv (.ints (by first | rfl | (simp only [List.take_length, List.drop_zero, List.map_take, List.nil_append]; done) | (simp; done) | (simp only [E_card_Field.upd, E_kinfolkref09_Field.upd, E_L_card_Field.upd, E_card_Card.upd, E_card_Field.upd, E_kinfolkref09_Field.upd, E_L_card_Field.upd, E_card_Card.upd]; done) | (simp [E_card_Field.pv, E_kinfolkref09_Field.pv, E_L_card_Field.pv, E_card_Card.pv, E_card_Field.pv, E_kinfolkref09_Field.pv, E_L_card_Field.pv, E_card_Card.pv]; done) | (simp only [List.length_map, List.take_length, List.length_append, List.map_append, List.map_cons, List.map_nil, List.append_nil, List.nil_append, E_card_Field.pv, E_kinfolkref09_Field.pv, E_L_card_Field.pv, E_card_Card.pv, E_card_Field.pv, E_kinfolkref09_Field.pv, E_L_card_Field.pv, E_card_Card.pv]; done))), .eq rfl, trivial⟩ trivial trivial) <| tR (Runs.coe (as' := [(.one (.pv .nils)), (.one (.pv (.recs 3 (List.map E_card_Field.pv p) false)))]) (objs' := []) (rows' := []) (paper_fields_runs [] p _ h9) ⟨.pv (.nilsI), .eq rfl, trivial⟩ trivial trivial) <| tR (Runs.coe (as' := [(.one (.pv .nils)), (.one (.pv (.recs 3 (List.map E_card_Field.pv p) false)))]) (objs' := []) (rows' := []) (paper_fields_runs [] p _ h9) ⟨.pv (.nilsI), .eq rfl, trivial⟩ trivial trivial) <| tR (Runs.coe (as' := [(.one (.pv (.ints .u8 (List.take (l_).length l_) false))), (.one (.pv (.recs 3 (List.map E_card_Field.pv p2) false)))]) (objs' := []) (rows' := []) (paper_fields_runs l_ p2 _ h10) ⟨.pv (.ints (by first | rfl | (simp only [List.take_length, List.drop_zero, List.map_take, List.nil_append]; done) | (simp; done) | (simp only [E_card_Field.upd, E_kinfolkref09_Field.upd, E_L_card_Field.upd, E_card_Card.upd, E_card_Field.upd, E_kinfolkref09_Field.upd, E_L_card_Field.upd, E_card_Card.upd]; done) | (simp [E_card_Field.pv, E_kinfolkref09_Field.pv, E_L_card_Field.pv, E_card_Card.pv, E_card_Field.pv, E_kinfolkref09_Field.pv, E_L_card_Field.pv, E_card_Card.pv]; done) | (simp only [List.length_map, List.take_length, List.length_append, List.map_append, List.map_cons, List.map_nil, List.append_nil, List.nil_append, E_card_Field.pv, E_kinfolkref09_Field.pv, E_L_card_Field.pv, E_card_Card.pv, E_card_Field.pv, E_kinfolkref09_Field.pv, E_L_card_Field.pv, E_card_Card.pv]; done))), .eq rfl, trivial⟩ trivial trivial) <| tR (Runs.coe (as' := [(.one (.pv (.ints .u8 (List.take (l_2).length l_2) false))), (.one (.pv (.int .u64 (IntKind.u64.wrap ((p3).length : Int)))))]) (objs' := []) (rows' := []) (wire_Num_runs l_2 (IntKind.u64.wrap ((p3).length : Int)) _ h11) ⟨.pv (.ints (by first | rfl | (simp only [List.take_length, List.drop_zero, List.map_take, List.nil_append]; done) | (simp; done) | (simp only [E_card_Field.upd, E_kinfolkref09_Field.upd, E_L_card_Field.upd, E_card_Card.upd, E_card_Field.upd, E_kinfolkref09_Field.upd, E_L_card_Field.upd, E_card_Card.upd]; done) | (simp [E_card_Field.pv, E_kinfolkref09_Field.pv, E_L_card_Field.pv, E_card_Card.pv, E_card_Field.pv, E_kinfolkref09_Field.pv, E_L_card_Field.pv, E_card_Card.pv]; done) | (simp only [List.length_map, List.take_length, List.length_append, List.map_append, List.map_cons, List.map_nil, List.append_nil, List.nil_append, E_card_Field.pv, E_kinfolkref09_Field.pv, E_L_card_Field.pv, E_card_Card.pv, E_card_Field.pv, E_kinfolkref09_Field.pv, E_L_card_Field.pv, E_card_Card.pv]; done))), .eq rfl, trivial⟩ trivial trivial) <| tL (paper_Patch_L0_runs p3 ((p3).length : Int) _ _ h12) <| tN
      have e_ : Runs Tryz.prog 44 [(.agg [(.pv (.recs 3 (List.map E_card_Field.pv p) false)), (.pv (.recs 3 (List.map E_card_Field.pv p2) false)), (.pv (.ints .i64 p3 false))])] [] [] ([(.one (.own 0 0 (l_4).length false)), (.one (.pv (.int .i64 0)))], [], [(.ints .u8 l_4)]) := runs_of (C := cfg) (objs := []) (sc := t_.ev) (.k1 t_.pf (by kernel_rfl) (by kernel_rfl))
      have e_ := e_.shut (res' := ([(.one (.pv (.ints .u8 (List.take (l_4).length l_4) false))), (.one (.pv (.int .i64 0)))], [], [])) [0] (by kernel_rfl)
      exact e_.out ⟨.pv (.ints (by first | rfl | (simp only [List.take_length, List.drop_zero, List.map_take, List.nil_append]; done) | (simp; done) | (simp only [E_card_Field.upd, E_kinfolkref09_Field.upd, E_L_card_Field.upd, E_card_Card.upd, E_card_Field.upd, E_kinfolkref09_Field.upd, E_L_card_Field.upd, E_card_Card.upd]; done) | (simp [E_card_Field.pv, E_kinfolkref09_Field.pv, E_L_card_Field.pv, E_card_Card.pv, E_card_Field.pv, E_kinfolkref09_Field.pv, E_L_card_Field.pv, E_card_Card.pv]; done) | (simp only [List.length_map, List.take_length, List.length_append, List.map_append, List.map_cons, List.map_nil, List.append_nil, List.nil_append, E_card_Field.pv, E_kinfolkref09_Field.pv, E_L_card_Field.pv, E_card_Card.pv, E_card_Field.pv, E_kinfolkref09_Field.pv, E_L_card_Field.pv, E_card_Card.pv]; done))), .eq rfl, trivial⟩ trivial trivial rfl
noncomputable def kinfolklaw10_PaperTotal (b : List Int) : Option (Bool) :=
 (kinfolklaw10_awake).bind fun b2 =>
 bif b2 then
  bif decide ((0 : Int) ≤ 0) && decide ((0 : Int) ≤ (if (600 : Int) < ((b).length : Int) then 600 else ((b).length : Int))) && decide (((if (600 : Int) < ((b).length : Int) then 600 else ((b).length : Int)) : Int) ≤ ((b).length : Int)) && decide (((if (600 : Int) < ((b).length : Int) then 600 else ((b).length : Int)) : Int) = (if (600 : Int) < ((b).length : Int) then 600 else ((b).length : Int))) then
  bif Nat.beq ((List.take ((if (600 : Int) < ((b).length : Int) then 600 else ((b).length : Int)) - 0).toNat b)).length 0 then
   (paper_ReadPatch []).bind fun (r, r2, l_, n) =>
   (kinfolkref10_ReadPatch []).bind fun (r3, r4, l_2, n2) =>
   bif (decide ((n : Int) = n2)) then
    (kinfolklaw10_own r).bind fun r5 =>
    (kinfolkref09_Same (List.take ((List.map E_kinfolkref09_Field.pv r5)).length r5) r3).bind fun b3 =>
    bif b3 then
     (kinfolklaw10_own r2).bind fun r6 =>
     (kinfolkref09_Same (List.take ((List.map E_kinfolkref09_Field.pv r6)).length r6) r4).bind fun b4 =>
     bif b4 then
      (slices_Equal_int l_ l_2).bind fun b5 =>
      bif b5 then
       bif (decide ((n : Int) = 0)) then
        (paper_Patch r r2 l_).bind fun (l_3, n3) =>
        bif (decide ((n3 : Int) = 0)) then
         (kinfolkref06_Same l_3 []).bind fun b6 =>
         some b6
        else
         some false
       else
        some true
      else
       some false
     else
      some false
    else
     some false
   else
    some false
  else
   bif fits (([] ++ (List.take ((if (600 : Int) < ((b).length : Int) then 600 else ((b).length : Int)) - 0).toNat b))).length then
   (paper_ReadPatch ([] ++ (List.take ((if (600 : Int) < ((b).length : Int) then 600 else ((b).length : Int)) - 0).toNat b))).bind fun (r, r2, l_, n) =>
   (kinfolkref10_ReadPatch ([] ++ (List.take ((if (600 : Int) < ((b).length : Int) then 600 else ((b).length : Int)) - 0).toNat b))).bind fun (r3, r4, l_2, n2) =>
   bif (decide ((n : Int) = n2)) then
    (kinfolklaw10_own r).bind fun r5 =>
    (kinfolkref09_Same (List.take ((List.map E_kinfolkref09_Field.pv r5)).length r5) r3).bind fun b3 =>
    bif b3 then
     (kinfolklaw10_own r2).bind fun r6 =>
     (kinfolkref09_Same (List.take ((List.map E_kinfolkref09_Field.pv r6)).length r6) r4).bind fun b4 =>
     bif b4 then
      (slices_Equal_int l_ l_2).bind fun b5 =>
      bif b5 then
       bif (decide ((n : Int) = 0)) then
        (paper_Patch r r2 l_).bind fun (l_3, n3) =>
        bif (decide ((n3 : Int) = 0)) then
         (kinfolkref06_Same l_3 ([] ++ (List.take ((if (600 : Int) < ((b).length : Int) then 600 else ((b).length : Int)) - 0).toNat b))).bind fun b6 =>
         some b6
        else
         some false
       else
        some true
      else
       some false
     else
      some false
    else
     some false
   else
    some false
   else none
  else none
 else
  some false
theorem kinfolklaw10_PaperTotal_runs (b : List Int) (r_ : Bool) (h : kinfolklaw10_PaperTotal b = some r_) : Runs Tryz.prog 10 [(.one (.pv (.ints .u8 b false)))] [] [] (kinfolklaw10_PaperTotal_out b r_) := by
 unfold kinfolklaw10_PaperTotal at h
 obtain ⟨b2, h1, h⟩ := bind_of h
 rcases cond_of h with ⟨h2, h⟩ | ⟨h2, h⟩
 ·obtain ⟨h3, h⟩ := need_of h
  rcases cond_of h with ⟨h4, h⟩ | ⟨h4, h⟩
  ·obtain ⟨⟨r, r2, l_, n⟩, h5, h⟩ := bind_of h
   obtain ⟨⟨r3, r4, l_2, n2⟩, h6, h⟩ := bind_of h
   rcases cond_of h with ⟨h7, h⟩ | ⟨h7, h⟩
   ·obtain ⟨r5, h8, h⟩ := bind_of h
    obtain ⟨b3, h9, h⟩ := bind_of h
    have q_9 := (Runs.coe (as' := [(.one (.pv (.recs 3 (List.take ((List.map E_kinfolkref09_Field.pv r5)).length (List.map E_kinfolkref09_Field.pv r5)) false))), (.one (.pv (.recs 3 (List.map E_kinfolkref09_Field.pv r3) false)))]) (objs' := []) (rows' := []) (kinfolkref09_Same_runs (List.take ((List.map E_kinfolkref09_Field.pv r5)).length r5) r3 _ h9) ⟨.pv (.recsT (.eq (by first | rfl | (simp only [List.take_length, List.drop_zero, List.map_take, List.nil_append]; done) | (simp; done) | (simp only [E_card_Field.upd, E_kinfolkref09_Field.upd, E_L_card_Field.upd, E_card_Card.upd, E_card_Field.upd, E_kinfolkref09_Field.upd, E_L_card_Field.upd, E_card_Card.upd]; done) | (simp [E_card_Field.pv, E_kinfolkref09_Field.pv, E_L_card_Field.pv, E_card_Card.pv, E_card_Field.pv, E_kinfolkref09_Field.pv, E_L_card_Field.pv, E_card_Card.pv]; done) | (simp only [List.length_map, List.take_length, List.length_append, List.map_append, List.map_cons, List.map_nil, List.append_nil, List.nil_append, E_card_Field.pv, E_kinfolkref09_Field.pv, E_L_card_Field.pv, E_card_Card.pv, E_card_Field.pv, E_kinfolkref09_Field.pv, E_L_card_Field.pv, E_card_Card.pv]; done)))), .eq rfl, trivial⟩ trivial trivial)
    rcases cond_of h with ⟨h10, h⟩ | ⟨h10, h⟩
    ·obtain ⟨r6, h11, h⟩ := bind_of h
     obtain ⟨b4, h12, h⟩ := bind_of h
     have q_12 := (Runs.coe (as' := [(.one (.pv (.recs 3 (List.take ((List.map E_kinfolkref09_Field.pv r6)).length (List.map E_kinfolkref09_Field.pv r6)) false))), (.one (.pv (.recs 3 (List.map E_kinfolkref09_Field.pv r4) false)))]) (objs' := []) (rows' := []) (kinfolkref09_Same_runs (List.take ((List.map E_kinfolkref09_Field.pv r6)).length r6) r4 _ h12) ⟨.pv (.recsT (.eq (by first | rfl | (simp only [List.take_length, List.drop_zero, List.map_take, List.nil_append]; done) | (simp; done) | (simp only [E_card_Field.upd, E_kinfolkref09_Field.upd, E_L_card_Field.upd, E_card_Card.upd, E_card_Field.upd, E_kinfolkref09_Field.upd, E_L_card_Field.upd, E_card_Card.upd]; done) | (simp [E_card_Field.pv, E_kinfolkref09_Field.pv, E_L_card_Field.pv, E_card_Card.pv, E_card_Field.pv, E_kinfolkref09_Field.pv, E_L_card_Field.pv, E_card_Card.pv]; done) | (simp only [List.length_map, List.take_length, List.length_append, List.map_append, List.map_cons, List.map_nil, List.append_nil, List.nil_append, E_card_Field.pv, E_kinfolkref09_Field.pv, E_L_card_Field.pv, E_card_Card.pv, E_card_Field.pv, E_kinfolkref09_Field.pv, E_L_card_Field.pv, E_card_Card.pv]; done)))), .eq rfl, trivial⟩ trivial trivial)
     rcases cond_of h with ⟨h13, h⟩ | ⟨h13, h⟩
     ·obtain ⟨b5, h14, h⟩ := bind_of h
      have p14_ := fun {sc_ : List Ev} {Q_ : Prop} (t_ : Tell sc_ Q_) => tR (kinfolklaw10_awake_runs _ h1) <| tF (not_of2 h2) <| tO h3 <| tT h4 <| tR (paper_ReadPatch_runs [] _ h5) <| tR (kinfolkref10_ReadPatch_runs [] _ h6) <| tF (not_of2 h7) <| tR (kinfolklaw10_own_runs r _ h8) <| tR q_9 <| tF (not_of2 h10) <| tR (kinfolklaw10_own_runs r2 _ h11) <| tR q_12 <| tF (not_of2 h13) <| tR (slices_Equal_int_runs l_ l_2 _ h14) <| t_
      rcases cond_of h with ⟨h15, h⟩ | ⟨h15, h⟩
      ·rcases cond_of h with ⟨h16, h⟩ | ⟨h16, h⟩
       ·obtain ⟨⟨l_3, n3⟩, h17, h⟩ := bind_of h
        rcases cond_of h with ⟨h18, h⟩ | ⟨h18, h⟩
        ·obtain ⟨b6, h19, h⟩ := bind_of h
         have h := some_of h
         subst h
         have t_ := p14_ <| tF (not_of2 h15) <| tF (not_of2 h16) <| tR (paper_Patch_runs r r2 l_ _ h17) <| tT h18 <| tR (kinfolkref06_Same_runs l_3 [] _ h19) <| tN
         exact runs_of (C := cfg) (objs := []) (sc := t_.ev) (.k0 t_.pf (by kernel_rfl))
        ·have h := some_of h
         subst h
         have t_ := p14_ <| tF (not_of2 h15) <| tF (not_of2 h16) <| tR (paper_Patch_runs r r2 l_ _ h17) <| tF h18 <| tN
         exact runs_of (C := cfg) (objs := []) (sc := t_.ev) (.k0 t_.pf (by kernel_rfl))
       ·have h := some_of h
        subst h
        have t_ := p14_ <| tF (not_of2 h15) <| tT (not_of h16) <| tN
        exact runs_of (C := cfg) (objs := []) (sc := t_.ev) (.k0 t_.pf (by kernel_rfl))
      ·have h := some_of h
       subst h
       have t_ := p14_ <| tT (not_of h15) <| tN
       exact runs_of (C := cfg) (objs := []) (sc := t_.ev) (.k0 t_.pf (by kernel_rfl))
     ·have h := some_of h
      subst h
      have t_ := tR (kinfolklaw10_awake_runs _ h1) <| tF (not_of2 h2) <| tO h3 <| tT h4 <| tR (paper_ReadPatch_runs [] _ h5) <| tR (kinfolkref10_ReadPatch_runs [] _ h6) <| tF (not_of2 h7) <| tR (kinfolklaw10_own_runs r _ h8) <| tR q_9 <| tF (not_of2 h10) <| tR (kinfolklaw10_own_runs r2 _ h11) <| tR q_12 <| tT (not_of h13) <| tT (rfl : true = true) <| tN
      exact runs_of (C := cfg) (objs := []) (sc := t_.ev) (.k0 t_.pf (by kernel_rfl))
    ·have h := some_of h
     subst h
     have t_ := tR (kinfolklaw10_awake_runs _ h1) <| tF (not_of2 h2) <| tO h3 <| tT h4 <| tR (paper_ReadPatch_runs [] _ h5) <| tR (kinfolkref10_ReadPatch_runs [] _ h6) <| tF (not_of2 h7) <| tR (kinfolklaw10_own_runs r _ h8) <| tR q_9 <| tT (not_of h10) <| tT (rfl : true = true) <| tT (rfl : true = true) <| tN
     exact runs_of (C := cfg) (objs := []) (sc := t_.ev) (.k0 t_.pf (by kernel_rfl))
   ·have h := some_of h
    subst h
    have t_ := tR (kinfolklaw10_awake_runs _ h1) <| tF (not_of2 h2) <| tO h3 <| tT h4 <| tR (paper_ReadPatch_runs [] _ h5) <| tR (kinfolkref10_ReadPatch_runs [] _ h6) <| tT (not_of h7) <| tT (rfl : true = true) <| tT (rfl : true = true) <| tT (rfl : true = true) <| tN
    exact runs_of (C := cfg) (objs := []) (sc := t_.ev) (.k0 t_.pf (by kernel_rfl))
  ·obtain ⟨h5, h⟩ := need_of h
   obtain ⟨⟨r, r2, l_, n⟩, h6, h⟩ := bind_of h
   have q_6 := (Runs.coe (as' := [(.one (.pv (.ints .u8 (List.take (([] ++ (List.take ((if (600 : Int) < ((b).length : Int) then 600 else ((b).length : Int)) - 0).toNat b))).length ([] ++ (List.take ((if (600 : Int) < ((b).length : Int) then 600 else ((b).length : Int)) - 0).toNat b))) false)))]) (objs' := []) (rows' := []) (paper_ReadPatch_runs ([] ++ (List.take ((if (600 : Int) < ((b).length : Int) then 600 else ((b).length : Int)) - 0).toNat b)) _ h6) ⟨.pv (.ints (by first | rfl | (simp only [List.take_length, List.drop_zero, List.map_take, List.nil_append]; done) | (simp; done) | (simp only [E_card_Field.upd, E_kinfolkref09_Field.upd, E_L_card_Field.upd, E_card_Card.upd, E_card_Field.upd, E_kinfolkref09_Field.upd, E_L_card_Field.upd, E_card_Card.upd]; done) | (simp [E_card_Field.pv, E_kinfolkref09_Field.pv, E_L_card_Field.pv, E_card_Card.pv, E_card_Field.pv, E_kinfolkref09_Field.pv, E_L_card_Field.pv, E_card_Card.pv]; done) | (simp only [List.length_map, List.take_length, List.length_append, List.map_append, List.map_cons, List.map_nil, List.append_nil, List.nil_append, E_card_Field.pv, E_kinfolkref09_Field.pv, E_L_card_Field.pv, E_card_Card.pv, E_card_Field.pv, E_kinfolkref09_Field.pv, E_L_card_Field.pv, E_card_Card.pv]; done))), trivial⟩ trivial trivial)
   obtain ⟨⟨r3, r4, l_2, n2⟩, h7, h⟩ := bind_of h
   have q_7 := (Runs.coe (as' := [(.one (.pv (.ints .u8 (List.take (([] ++ (List.take ((if (600 : Int) < ((b).length : Int) then 600 else ((b).length : Int)) - 0).toNat b))).length ([] ++ (List.take ((if (600 : Int) < ((b).length : Int) then 600 else ((b).length : Int)) - 0).toNat b))) false)))]) (objs' := []) (rows' := []) (kinfolkref10_ReadPatch_runs ([] ++ (List.take ((if (600 : Int) < ((b).length : Int) then 600 else ((b).length : Int)) - 0).toNat b)) _ h7) ⟨.pv (.ints (by first | rfl | (simp only [List.take_length, List.drop_zero, List.map_take, List.nil_append]; done) | (simp; done) | (simp only [E_card_Field.upd, E_kinfolkref09_Field.upd, E_L_card_Field.upd, E_card_Card.upd, E_card_Field.upd, E_kinfolkref09_Field.upd, E_L_card_Field.upd, E_card_Card.upd]; done) | (simp [E_card_Field.pv, E_kinfolkref09_Field.pv, E_L_card_Field.pv, E_card_Card.pv, E_card_Field.pv, E_kinfolkref09_Field.pv, E_L_card_Field.pv, E_card_Card.pv]; done) | (simp only [List.length_map, List.take_length, List.length_append, List.map_append, List.map_cons, List.map_nil, List.append_nil, List.nil_append, E_card_Field.pv, E_kinfolkref09_Field.pv, E_L_card_Field.pv, E_card_Card.pv, E_card_Field.pv, E_kinfolkref09_Field.pv, E_L_card_Field.pv, E_card_Card.pv]; done))), trivial⟩ trivial trivial)
   rcases cond_of h with ⟨h8, h⟩ | ⟨h8, h⟩
   ·obtain ⟨r5, h9, h⟩ := bind_of h
    obtain ⟨b3, h10, h⟩ := bind_of h
    have q_10 := (Runs.coe (as' := [(.one (.pv (.recs 3 (List.take ((List.map E_kinfolkref09_Field.pv r5)).length (List.map E_kinfolkref09_Field.pv r5)) false))), (.one (.pv (.recs 3 (List.map E_kinfolkref09_Field.pv r3) false)))]) (objs' := []) (rows' := []) (kinfolkref09_Same_runs (List.take ((List.map E_kinfolkref09_Field.pv r5)).length r5) r3 _ h10) ⟨.pv (.recsT (.eq (by first | rfl | (simp only [List.take_length, List.drop_zero, List.map_take, List.nil_append]; done) | (simp; done) | (simp only [E_card_Field.upd, E_kinfolkref09_Field.upd, E_L_card_Field.upd, E_card_Card.upd, E_card_Field.upd, E_kinfolkref09_Field.upd, E_L_card_Field.upd, E_card_Card.upd]; done) | (simp [E_card_Field.pv, E_kinfolkref09_Field.pv, E_L_card_Field.pv, E_card_Card.pv, E_card_Field.pv, E_kinfolkref09_Field.pv, E_L_card_Field.pv, E_card_Card.pv]; done) | (simp only [List.length_map, List.take_length, List.length_append, List.map_append, List.map_cons, List.map_nil, List.append_nil, List.nil_append, E_card_Field.pv, E_kinfolkref09_Field.pv, E_L_card_Field.pv, E_card_Card.pv, E_card_Field.pv, E_kinfolkref09_Field.pv, E_L_card_Field.pv, E_card_Card.pv]; done)))), .eq rfl, trivial⟩ trivial trivial)
    rcases cond_of h with ⟨h11, h⟩ | ⟨h11, h⟩
    ·obtain ⟨r6, h12, h⟩ := bind_of h
     obtain ⟨b4, h13, h⟩ := bind_of h
     have q_13 := (Runs.coe (as' := [(.one (.pv (.recs 3 (List.take ((List.map E_kinfolkref09_Field.pv r6)).length (List.map E_kinfolkref09_Field.pv r6)) false))), (.one (.pv (.recs 3 (List.map E_kinfolkref09_Field.pv r4) false)))]) (objs' := []) (rows' := []) (kinfolkref09_Same_runs (List.take ((List.map E_kinfolkref09_Field.pv r6)).length r6) r4 _ h13) ⟨.pv (.recsT (.eq (by first | rfl | (simp only [List.take_length, List.drop_zero, List.map_take, List.nil_append]; done) | (simp; done) | (simp only [E_card_Field.upd, E_kinfolkref09_Field.upd, E_L_card_Field.upd, E_card_Card.upd, E_card_Field.upd, E_kinfolkref09_Field.upd, E_L_card_Field.upd, E_card_Card.upd]; done) | (simp [E_card_Field.pv, E_kinfolkref09_Field.pv, E_L_card_Field.pv, E_card_Card.pv, E_card_Field.pv, E_kinfolkref09_Field.pv, E_L_card_Field.pv, E_card_Card.pv]; done) | (simp only [List.length_map, List.take_length, List.length_append, List.map_append, List.map_cons, List.map_nil, List.append_nil, List.nil_append, E_card_Field.pv, E_kinfolkref09_Field.pv, E_L_card_Field.pv, E_card_Card.pv, E_card_Field.pv, E_kinfolkref09_Field.pv, E_L_card_Field.pv, E_card_Card.pv]; done)))), .eq rfl, trivial⟩ trivial trivial)
     rcases cond_of h with ⟨h14, h⟩ | ⟨h14, h⟩
     ·obtain ⟨b5, h15, h⟩ := bind_of h
      have p15_ := fun {sc_ : List Ev} {Q_ : Prop} (t_ : Tell sc_ Q_) => tR (kinfolklaw10_awake_runs _ h1) <| tF (not_of2 h2) <| tO h3 <| tF (not_of h4) <| tO h5 <| tR q_6 <| tR q_7 <| tF (not_of2 h8) <| tR (kinfolklaw10_own_runs r _ h9) <| tR q_10 <| tF (not_of2 h11) <| tR (kinfolklaw10_own_runs r2 _ h12) <| tR q_13 <| tF (not_of2 h14) <| tR (slices_Equal_int_runs l_ l_2 _ h15) <| t_
      rcases cond_of h with ⟨h16, h⟩ | ⟨h16, h⟩
      ·rcases cond_of h with ⟨h17, h⟩ | ⟨h17, h⟩
       ·obtain ⟨⟨l_3, n3⟩, h18, h⟩ := bind_of h
        rcases cond_of h with ⟨h19, h⟩ | ⟨h19, h⟩
        ·obtain ⟨b6, h20, h⟩ := bind_of h
         have h := some_of h
         subst h
         have t_ := p15_ <| tF (not_of2 h16) <| tF (not_of2 h17) <| tR (paper_Patch_runs r r2 l_ _ h18) <| tT h19 <| tR (Runs.coe (as' := [(.one (.pv (.ints .u8 l_3 false))), (.one (.pv (.ints .u8 (List.take (([] ++ (List.take ((if (600 : Int) < ((b).length : Int) then 600 else ((b).length : Int)) - 0).toNat b))).length ([] ++ (List.take ((if (600 : Int) < ((b).length : Int) then 600 else ((b).length : Int)) - 0).toNat b))) false)))]) (objs' := []) (rows' := []) (kinfolkref06_Same_runs l_3 ([] ++ (List.take ((if (600 : Int) < ((b).length : Int) then 600 else ((b).length : Int)) - 0).toNat b)) _ h20) ⟨.eq rfl, .pv (.ints (by first | rfl | (simp only [List.take_length, List.drop_zero, List.map_take, List.nil_append]; done) | (simp; done) | (simp only [E_card_Field.upd, E_kinfolkref09_Field.upd, E_L_card_Field.upd, E_card_Card.upd, E_card_Field.upd, E_kinfolkref09_Field.upd, E_L_card_Field.upd, E_card_Card.upd]; done) | (simp [E_card_Field.pv, E_kinfolkref09_Field.pv, E_L_card_Field.pv, E_card_Card.pv, E_card_Field.pv, E_kinfolkref09_Field.pv, E_L_card_Field.pv, E_card_Card.pv]; done) | (simp only [List.length_map, List.take_length, List.length_append, List.map_append, List.map_cons, List.map_nil, List.append_nil, List.nil_append, E_card_Field.pv, E_kinfolkref09_Field.pv, E_L_card_Field.pv, E_card_Card.pv, E_card_Field.pv, E_kinfolkref09_Field.pv, E_L_card_Field.pv, E_card_Card.pv]; done))), trivial⟩ trivial trivial) <| tN
         exact runs_of (C := cfg) (objs := []) (sc := t_.ev) (.k0 t_.pf (by kernel_rfl))
        ·have h := some_of h
         subst h
         have t_ := p15_ <| tF (not_of2 h16) <| tF (not_of2 h17) <| tR (paper_Patch_runs r r2 l_ _ h18) <| tF h19 <| tN
         exact runs_of (C := cfg) (objs := []) (sc := t_.ev) (.k0 t_.pf (by kernel_rfl))
       ·have h := some_of h
        subst h
        have t_ := p15_ <| tF (not_of2 h16) <| tT (not_of h17) <| tN
        exact runs_of (C := cfg) (objs := []) (sc := t_.ev) (.k0 t_.pf (by kernel_rfl))
      ·have h := some_of h
       subst h
       have t_ := p15_ <| tT (not_of h16) <| tN
       exact runs_of (C := cfg) (objs := []) (sc := t_.ev) (.k0 t_.pf (by kernel_rfl))
     ·have h := some_of h
      subst h
      have t_ := tR (kinfolklaw10_awake_runs _ h1) <| tF (not_of2 h2) <| tO h3 <| tF (not_of h4) <| tO h5 <| tR q_6 <| tR q_7 <| tF (not_of2 h8) <| tR (kinfolklaw10_own_runs r _ h9) <| tR q_10 <| tF (not_of2 h11) <| tR (kinfolklaw10_own_runs r2 _ h12) <| tR q_13 <| tT (not_of h14) <| tT (rfl : true = true) <| tN
      exact runs_of (C := cfg) (objs := []) (sc := t_.ev) (.k0 t_.pf (by kernel_rfl))
    ·have h := some_of h
     subst h
     have t_ := tR (kinfolklaw10_awake_runs _ h1) <| tF (not_of2 h2) <| tO h3 <| tF (not_of h4) <| tO h5 <| tR q_6 <| tR q_7 <| tF (not_of2 h8) <| tR (kinfolklaw10_own_runs r _ h9) <| tR q_10 <| tT (not_of h11) <| tT (rfl : true = true) <| tT (rfl : true = true) <| tN
     exact runs_of (C := cfg) (objs := []) (sc := t_.ev) (.k0 t_.pf (by kernel_rfl))
   ·have h := some_of h
    subst h
    have t_ := tR (kinfolklaw10_awake_runs _ h1) <| tF (not_of2 h2) <| tO h3 <| tF (not_of h4) <| tO h5 <| tR q_6 <| tR q_7 <| tT (not_of h8) <| tT (rfl : true = true) <| tT (rfl : true = true) <| tT (rfl : true = true) <| tN
    exact runs_of (C := cfg) (objs := []) (sc := t_.ev) (.k0 t_.pf (by kernel_rfl))
 ·have h := some_of h
  subst h
  have t_ := tR (kinfolklaw10_awake_runs _ h1) <| tT (not_of h2) <| tN
  exact runs_of (C := cfg) (objs := []) (sc := t_.ev) (.k0 t_.pf (by kernel_rfl))
def kinfolklaw10_PaperPatches_out (adds : List E_card_Field) (drops : List E_card_Field) (clear : List Int) (more : Int) : Bool → Res
 | r1 => ([(.one (.pv (.bool r1)))], [], [])
def kinfolkref10_Patch_out (adds : List E_kinfolkref09_Field) (drops : List E_kinfolkref09_Field) (clear : List Int) : List Int × Int → Res
 | (r1, r2) => ([(.one (.pv (.ints .u8 r1 false))), (.one (.pv (.int .i64 r2)))], [], [])
def kinfolkref10_Patch_L1_2_st (adds : List E_kinfolkref09_Field) (drops : List E_kinfolkref09_Field) (clear : List Int) (n : Int) (r : List E_kinfolkref09_Field) (n2 : Int) (r2 : List E_L_kinfolkref09_Field) : Bool × Int → St
 | (odd, n3) => ⟨[(0, (.av (.one (.pv (.recs 3 (List.map E_kinfolkref09_Field.pv adds) false))))), (1, (.av (.one (.pv (.recs 3 (List.map E_kinfolkref09_Field.pv drops) false))))), (2, (.av (.one (.pv (.ints .i64 clear false))))), (8, (.av (.one (.pv (.bool true))))), (9, (.av (.one (.pv (.bool odd))))), (34, (.av (.one (.own 0 0 ((List.map E_L_kinfolkref09_Field.pv r2)).length true)))), (35, (.av (.one (.pv (.int .i64 2))))), (36, (.av (.one (.pv (.int .i64 n))))), (40, (.av (.one (.pv (.recs 3 (List.map E_kinfolkref09_Field.pv r) false))))), (41, (.av (.one (.pv (.int .i64 n2))))), (42, (.av (.one (.pv (.int .i64 n3)))))], [], [(0, (.live (.recs 1 (List.map E_L_kinfolkref09_Field.pv r2))))]⟩
def kinfolkref10_Patch_L1_2_ex (adds : List E_kinfolkref09_Field) (drops : List E_kinfolkref09_Field) (clear : List Int) (n : Int) (r : List E_kinfolkref09_Field) (n2 : Int) (r2 : List E_L_kinfolkref09_Field) : Bool → Ex × St
 | r1 => ((.exit 2), ⟨[(0, (.av (.one (.pv (.recs 3 (List.map E_kinfolkref09_Field.pv adds) false))))), (1, (.av (.one (.pv (.recs 3 (List.map E_kinfolkref09_Field.pv drops) false))))), (2, (.av (.one (.pv (.ints .i64 clear false))))), (8, (.av (.one (.pv (.bool true))))), (9, (.av (.one (.pv (.bool r1))))), (34, (.av (.one (.own 0 0 ((List.map E_L_kinfolkref09_Field.pv r2)).length true)))), (35, (.av (.one (.pv (.int .i64 2))))), (36, (.av (.one (.pv (.int .i64 n)))))], [], [(0, (.live (.recs 1 (List.map E_L_kinfolkref09_Field.pv r2))))]⟩)
noncomputable def kinfolkref10_Patch_L1_2_step (adds : List E_kinfolkref09_Field) (drops : List E_kinfolkref09_Field) (clear : List Int) (n : Int) (r : List E_kinfolkref09_Field) (n2 : Int) (r2 : List E_L_kinfolkref09_Field) : Bool × Int → Option ((Bool × Int) ⊕ (Bool))
 | (odd, n3) =>
 bif (decide ((n3 : Int) < n2)) then
  bif decide ((0 : Int) ≤ n3) && decide ((n3 : Int) < (((List.map E_kinfolkref09_Field.pv r)).length : Int)) then
  (r[(n3).toNat]?).bind fun e_ => match e_ with
  | .mk n4 s s2 =>
  bif odd then
   some (.inl (true, (iadd .i64 n3 1)))
  else
   bif (decide ((n4 : Int) < 0)) then
    some (.inl (true, (iadd .i64 n3 1)))
   else
    some (.inl ((decide ((255 : Int) < n4)), (iadd .i64 n3 1)))
  else none
 else
  some (.inr odd)
theorem kinfolkref10_Patch_L1_2_ok (adds : List E_kinfolkref09_Field) (drops : List E_kinfolkref09_Field) (clear : List Int) (n : Int) (r : List E_kinfolkref09_Field) (n2 : Int) (r2 : List E_L_kinfolkref09_Field) (s_ : Bool × Int) (z_ : (Bool × Int) ⊕ (Bool)) (h : kinfolkref10_Patch_L1_2_step adds drops clear n r n2 r2 s_ = some z_) : RoundOk Tryz.prog cfg 45 0 (loopAt Tryz.prog 45 1) (kinfolkref10_Patch_L1_2_st adds drops clear n r n2 r2) (kinfolkref10_Patch_L1_2_ex adds drops clear n r n2 r2) s_ z_ := by
 rcases s_ with ⟨odd, n3⟩
 rcases cond_of h with ⟨h1, h⟩ | ⟨h1, h⟩
 ·obtain ⟨h2, h⟩ := need_of h
  obtain ⟨⟨n4, s, s2⟩, h3, h⟩ := bind_of h
  rcases cond_of h with ⟨h4, h⟩ | ⟨h4, h⟩
  ·have h := some_of h
   subst h
   have t_ := tT h1 <| tO h2 <| tE (.el [(.int .i64 n4), (.str s), (.str s2)]) <| tO (el_of (f := E_kinfolkref09_Field.pv) h3) <| tT (rfl : true = true) <| tT (rfl : true = true) <| tT h4 <| tT (rfl : true = true) <| tN
   exact ⟨t_.ev, kinfolkref10_Patch_L1_2_st adds drops clear n r n2 r2 (true, (iadd .i64 n3 1)), .k0 t_.pf (by kernel_rfl), .same (by kernel_rfl)⟩
  ·rcases cond_of h with ⟨h5, h⟩ | ⟨h5, h⟩
   ·have h := some_of h
    subst h
    have t_ := tT h1 <| tO h2 <| tE (.el [(.int .i64 n4), (.str s), (.str s2)]) <| tO (el_of (f := E_kinfolkref09_Field.pv) h3) <| tT (rfl : true = true) <| tT (rfl : true = true) <| tF h4 <| tT h5 <| tN
    exact ⟨t_.ev, kinfolkref10_Patch_L1_2_st adds drops clear n r n2 r2 (true, (iadd .i64 n3 1)), .k0 t_.pf (by kernel_rfl), .same (by kernel_rfl)⟩
   ·have h := some_of h
    subst h
    have t_ := tT h1 <| tO h2 <| tE (.el [(.int .i64 n4), (.str s), (.str s2)]) <| tO (el_of (f := E_kinfolkref09_Field.pv) h3) <| tT (rfl : true = true) <| tT (rfl : true = true) <| tF h4 <| tF h5 <| tN
    exact ⟨t_.ev, kinfolkref10_Patch_L1_2_st adds drops clear n r n2 r2 ((decide ((255 : Int) < n4)), (iadd .i64 n3 1)), .k0 t_.pf (by kernel_rfl), .same (by kernel_rfl)⟩
 ·have h := some_of h
  subst h
  have t_ := tF h1 <| tN
  exact ⟨t_.ev, ⟨[(43, (.av (.one (.pv (.bool false))))), (0, (.av (.one (.pv (.recs 3 (List.map E_kinfolkref09_Field.pv adds) false))))), (1, (.av (.one (.pv (.recs 3 (List.map E_kinfolkref09_Field.pv drops) false))))), (2, (.av (.one (.pv (.ints .i64 clear false))))), (8, (.av (.one (.pv (.bool true))))), (9, (.av (.one (.pv (.bool odd))))), (34, (.av (.one (.own 0 0 ((List.map E_L_kinfolkref09_Field.pv r2)).length true)))), (35, (.av (.one (.pv (.int .i64 2))))), (36, (.av (.one (.pv (.int .i64 n))))), (40, (.av (.one (.pv (.recs 3 (List.map E_kinfolkref09_Field.pv r) false))))), (41, (.av (.one (.pv (.int .i64 n2))))), (42, (.av (.one (.pv (.int .i64 n3))))), (43, (.av (.one (.pv (.bool (decide ((n3 : Int) < n2)))))))], [], [(0, (.live (.recs 1 (List.map E_L_kinfolkref09_Field.pv r2))))]⟩, .k0 t_.pf (by kernel_rfl), ⟨⟨⟨_, rfl, .eq rfl⟩, ⟨_, rfl, .eq rfl⟩, ⟨_, rfl, .eq rfl⟩, ⟨_, rfl, .eq rfl⟩, ⟨_, rfl, .eq rfl⟩, ⟨_, rfl, .eq rfl⟩, ⟨_, rfl, .eq rfl⟩, ⟨_, rfl, .eq rfl⟩, trivial⟩, trivial, ⟨⟨rfl, .eq rfl⟩, trivial⟩⟩⟩
theorem kinfolkref10_Patch_L1_2_runs (adds : List E_kinfolkref09_Field) (drops : List E_kinfolkref09_Field) (clear : List Int) (n : Int) (r : List E_kinfolkref09_Field) (n2 : Int) (r2 : List E_L_kinfolkref09_Field) (s_ : Bool × Int) (r_ : Bool) (h : runL (kinfolkref10_Patch_L1_2_step adds drops clear n r n2 r2) s_ = some r_) : LRuns Tryz.prog (lEnv Tryz.prog cfg 45 0).nt 0 (.loop (loopAt Tryz.prog 45 1)) (kinfolkref10_Patch_L1_2_st adds drops clear n r n2 r2 s_) (kinfolkref10_Patch_L1_2_ex adds drops clear n r n2 r2 r_).1 (kinfolkref10_Patch_L1_2_ex adds drops clear n r n2 r2 r_).2 :=
 loop_run h (kinfolkref10_Patch_L1_2_ok adds drops clear n r n2 r2) (by intro r_; rcases r_ with r1 <;> simp [kinfolkref10_Patch_L1_2_ex])
def kinfolkref10_Patch_L0_st (adds : List E_kinfolkref09_Field) (drops : List E_kinfolkref09_Field) (clear : List Int) (r : List E_L_kinfolkref09_Field) : Bool × Int → St
 | (odd, n) => ⟨[(0, (.av (.one (.pv (.recs 3 (List.map E_kinfolkref09_Field.pv adds) false))))), (1, (.av (.one (.pv (.recs 3 (List.map E_kinfolkref09_Field.pv drops) false))))), (2, (.av (.one (.pv (.ints .i64 clear false))))), (8, (.av (.one (.pv (.bool true))))), (9, (.av (.one (.pv (.bool odd))))), (34, (.av (.one (.own 0 0 ((List.map E_L_kinfolkref09_Field.pv r)).length true)))), (35, (.av (.one (.pv (.int .i64 2))))), (36, (.av (.one (.pv (.int .i64 n)))))], [], [(0, (.live (.recs 1 (List.map E_L_kinfolkref09_Field.pv r))))]⟩
def kinfolkref10_Patch_L0_ex (adds : List E_kinfolkref09_Field) (drops : List E_kinfolkref09_Field) (clear : List Int) (r : List E_L_kinfolkref09_Field) : Bool → Ex × St
 | r1 => ((.exit 0), ⟨[(0, (.av (.one (.pv (.recs 3 (List.map E_kinfolkref09_Field.pv adds) false))))), (1, (.av (.one (.pv (.recs 3 (List.map E_kinfolkref09_Field.pv drops) false))))), (2, (.av (.one (.pv (.ints .i64 clear false))))), (8, (.av (.one (.pv (.bool true))))), (9, (.av (.one (.pv (.bool r1)))))], [], [(0, (.live (.recs 1 (List.map E_L_kinfolkref09_Field.pv r))))]⟩)
noncomputable def kinfolkref10_Patch_L0_step (adds : List E_kinfolkref09_Field) (drops : List E_kinfolkref09_Field) (clear : List Int) (r : List E_L_kinfolkref09_Field) : Bool × Int → Option ((Bool × Int) ⊕ (Bool))
 | (odd, n) =>
 bif (decide ((n : Int) < 2)) then
  bif decide ((0 : Int) ≤ n) && decide ((n : Int) < (((List.map E_L_kinfolkref09_Field.pv r)).length : Int)) then
  (r[(0 + (n).toNat)]?).bind fun e_ => match e_ with
  | .mk r2 =>
  (runL (kinfolkref10_Patch_L1_2_step adds drops clear n r2 (((List.map E_kinfolkref09_Field.pv r2)).length : Int) r) (odd, 0)).bind fun b =>
  some (.inl (b, (iadd .i64 n 1)))
  else none
 else
  some (.inr odd)
theorem kinfolkref10_Patch_L0_ok (adds : List E_kinfolkref09_Field) (drops : List E_kinfolkref09_Field) (clear : List Int) (r : List E_L_kinfolkref09_Field) (s_ : Bool × Int) (z_ : (Bool × Int) ⊕ (Bool)) (h : kinfolkref10_Patch_L0_step adds drops clear r s_ = some z_) : RoundOk Tryz.prog cfg 45 0 (loopAt Tryz.prog 45 0) (kinfolkref10_Patch_L0_st adds drops clear r) (kinfolkref10_Patch_L0_ex adds drops clear r) s_ z_ := by
 rcases s_ with ⟨odd, n⟩
 rcases cond_of h with ⟨h1, h⟩ | ⟨h1, h⟩
 ·obtain ⟨h2, h⟩ := need_of h
  obtain ⟨⟨r2⟩, h3, h⟩ := bind_of h
  obtain ⟨b, h4, h⟩ := bind_of h
  have h := some_of h
  subst h
  have t_ := tT h1 <| tO h2 <| tE (.el [(.recs 3 (List.map E_kinfolkref09_Field.pv r2) false)]) <| tO (el_of (f := E_L_kinfolkref09_Field.pv) h3) <| tL (kinfolkref10_Patch_L1_2_runs adds drops clear n r2 (((List.map E_kinfolkref09_Field.pv r2)).length : Int) r _ _ h4) <| tN
  exact ⟨t_.ev, kinfolkref10_Patch_L0_st adds drops clear r (b, (iadd .i64 n 1)), .k0 t_.pf (by kernel_rfl), .same (by kernel_rfl)⟩
 ·have h := some_of h
  subst h
  have t_ := tF h1 <| tN
  exact ⟨t_.ev, ⟨[(37, (.av (.one (.pv (.bool false))))), (0, (.av (.one (.pv (.recs 3 (List.map E_kinfolkref09_Field.pv adds) false))))), (1, (.av (.one (.pv (.recs 3 (List.map E_kinfolkref09_Field.pv drops) false))))), (2, (.av (.one (.pv (.ints .i64 clear false))))), (8, (.av (.one (.pv (.bool true))))), (9, (.av (.one (.pv (.bool odd))))), (34, (.av (.one (.own 0 0 ((List.map E_L_kinfolkref09_Field.pv r)).length true)))), (35, (.av (.one (.pv (.int .i64 2))))), (36, (.av (.one (.pv (.int .i64 n))))), (37, (.av (.one (.pv (.bool (decide ((n : Int) < 2)))))))], [], [(0, (.live (.recs 1 (List.map E_L_kinfolkref09_Field.pv r))))]⟩, .k0 t_.pf (by kernel_rfl), ⟨⟨⟨_, rfl, .eq rfl⟩, ⟨_, rfl, .eq rfl⟩, ⟨_, rfl, .eq rfl⟩, ⟨_, rfl, .eq rfl⟩, ⟨_, rfl, .eq rfl⟩, trivial⟩, trivial, ⟨⟨rfl, .eq rfl⟩, trivial⟩⟩⟩
theorem kinfolkref10_Patch_L0_runs (adds : List E_kinfolkref09_Field) (drops : List E_kinfolkref09_Field) (clear : List Int) (r : List E_L_kinfolkref09_Field) (s_ : Bool × Int) (r_ : Bool) (h : runL (kinfolkref10_Patch_L0_step adds drops clear r) s_ = some r_) : LRuns Tryz.prog (lEnv Tryz.prog cfg 45 0).nt 0 (.loop (loopAt Tryz.prog 45 0)) (kinfolkref10_Patch_L0_st adds drops clear r s_) (kinfolkref10_Patch_L0_ex adds drops clear r r_).1 (kinfolkref10_Patch_L0_ex adds drops clear r r_).2 :=
 loop_run h (kinfolkref10_Patch_L0_ok adds drops clear r) (by intro r_; rcases r_ with r1 <;> simp [kinfolkref10_Patch_L0_ex])
def kinfolkref10_Patch_L2_st (adds : List E_kinfolkref09_Field) (drops : List E_kinfolkref09_Field) (clear : List Int) (l : List Int) (n : Int) : Bool × Int → St
 | (odd, n2) => ⟨[(0, (.av (.one (.pv (.recs 3 (List.map E_kinfolkref09_Field.pv adds) false))))), (1, (.av (.one (.pv (.recs 3 (List.map E_kinfolkref09_Field.pv drops) false))))), (2, (.av (.one (.pv (.ints .i64 clear false))))), (8, (.av (.one (.pv (.bool true))))), (9, (.av (.one (.pv (.bool odd))))), (72, (.av (.one (.pv (.ints .i64 l false))))), (73, (.av (.one (.pv (.int .i64 n))))), (74, (.av (.one (.pv (.int .i64 n2)))))], [], []⟩
def kinfolkref10_Patch_L2_ex (adds : List E_kinfolkref09_Field) (drops : List E_kinfolkref09_Field) (clear : List Int) (l : List Int) (n : Int) : Bool → Ex × St
 | r1 => ((.exit 4), ⟨[(0, (.av (.one (.pv (.recs 3 (List.map E_kinfolkref09_Field.pv adds) false))))), (1, (.av (.one (.pv (.recs 3 (List.map E_kinfolkref09_Field.pv drops) false))))), (2, (.av (.one (.pv (.ints .i64 clear false))))), (8, (.av (.one (.pv (.bool true))))), (9, (.av (.one (.pv (.bool r1)))))], [], []⟩)
noncomputable def kinfolkref10_Patch_L2_step (adds : List E_kinfolkref09_Field) (drops : List E_kinfolkref09_Field) (clear : List Int) (l : List Int) (n : Int) : Bool × Int → Option ((Bool × Int) ⊕ (Bool))
 | (odd, n2) =>
 bif (decide ((n2 : Int) < n)) then
  bif decide ((0 : Int) ≤ n2) && decide ((n2 : Int) < ((l).length : Int)) then
  bif odd then
   some (.inl (true, (iadd .i64 n2 1)))
  else
   bif (decide (((l.getD (n2).toNat 0) : Int) < 0)) then
    some (.inl (true, (iadd .i64 n2 1)))
   else
    some (.inl ((decide ((255 : Int) < (l.getD (n2).toNat 0))), (iadd .i64 n2 1)))
  else none
 else
  some (.inr odd)
theorem kinfolkref10_Patch_L2_ok (adds : List E_kinfolkref09_Field) (drops : List E_kinfolkref09_Field) (clear : List Int) (l : List Int) (n : Int) (s_ : Bool × Int) (z_ : (Bool × Int) ⊕ (Bool)) (h : kinfolkref10_Patch_L2_step adds drops clear l n s_ = some z_) : RoundOk Tryz.prog cfg 45 0 (loopAt Tryz.prog 45 2) (kinfolkref10_Patch_L2_st adds drops clear l n) (kinfolkref10_Patch_L2_ex adds drops clear l n) s_ z_ := by
 rcases s_ with ⟨odd, n2⟩
 rcases cond_of h with ⟨h1, h⟩ | ⟨h1, h⟩
 ·obtain ⟨h2, h⟩ := need_of h
  rcases cond_of h with ⟨h3, h⟩ | ⟨h3, h⟩
  ·have h := some_of h
   subst h
   have t_ := tT h1 <| tO h2 <| tT h3 <| tT (rfl : true = true) <| tN
   exact ⟨t_.ev, kinfolkref10_Patch_L2_st adds drops clear l n (true, (iadd .i64 n2 1)), .k0 t_.pf (by kernel_rfl), .same (by kernel_rfl)⟩
  ·rcases cond_of h with ⟨h4, h⟩ | ⟨h4, h⟩
   ·have h := some_of h
    subst h
    have t_ := tT h1 <| tO h2 <| tF h3 <| tT h4 <| tN
    exact ⟨t_.ev, kinfolkref10_Patch_L2_st adds drops clear l n (true, (iadd .i64 n2 1)), .k0 t_.pf (by kernel_rfl), .same (by kernel_rfl)⟩
   ·have h := some_of h
    subst h
    have t_ := tT h1 <| tO h2 <| tF h3 <| tF h4 <| tN
    exact ⟨t_.ev, kinfolkref10_Patch_L2_st adds drops clear l n ((decide ((255 : Int) < (l.getD (n2).toNat 0))), (iadd .i64 n2 1)), .k0 t_.pf (by kernel_rfl), .same (by kernel_rfl)⟩
 ·have h := some_of h
  subst h
  have t_ := tF h1 <| tN
  exact ⟨t_.ev, ⟨[(75, (.av (.one (.pv (.bool false))))), (0, (.av (.one (.pv (.recs 3 (List.map E_kinfolkref09_Field.pv adds) false))))), (1, (.av (.one (.pv (.recs 3 (List.map E_kinfolkref09_Field.pv drops) false))))), (2, (.av (.one (.pv (.ints .i64 clear false))))), (8, (.av (.one (.pv (.bool true))))), (9, (.av (.one (.pv (.bool odd))))), (72, (.av (.one (.pv (.ints .i64 l false))))), (73, (.av (.one (.pv (.int .i64 n))))), (74, (.av (.one (.pv (.int .i64 n2))))), (75, (.av (.one (.pv (.bool (decide ((n2 : Int) < n)))))))], [], []⟩, .k0 t_.pf (by kernel_rfl), ⟨⟨⟨_, rfl, .eq rfl⟩, ⟨_, rfl, .eq rfl⟩, ⟨_, rfl, .eq rfl⟩, ⟨_, rfl, .eq rfl⟩, ⟨_, rfl, .eq rfl⟩, trivial⟩, trivial, trivial⟩⟩
theorem kinfolkref10_Patch_L2_runs (adds : List E_kinfolkref09_Field) (drops : List E_kinfolkref09_Field) (clear : List Int) (l : List Int) (n : Int) (s_ : Bool × Int) (r_ : Bool) (h : runL (kinfolkref10_Patch_L2_step adds drops clear l n) s_ = some r_) : LRuns Tryz.prog (lEnv Tryz.prog cfg 45 0).nt 0 (.loop (loopAt Tryz.prog 45 2)) (kinfolkref10_Patch_L2_st adds drops clear l n s_) (kinfolkref10_Patch_L2_ex adds drops clear l n r_).1 (kinfolkref10_Patch_L2_ex adds drops clear l n r_).2 :=
 loop_run h (kinfolkref10_Patch_L2_ok adds drops clear l n) (by intro r_; rcases r_ with r1 <;> simp [kinfolkref10_Patch_L2_ex])
end Go.Proofs.YteiikkpajcggfaaGreatDoor
