/- What functions compute, and that they do. -/
import Derived.Test.YteiikkpajcggfaaGreatDoorA4
set_option linter.unusedVariables false
set_option linter.unusedSimpArgs false
set_option maxRecDepth 100000
namespace Go.Proofs.YteiikkpajcggfaaGreatDoor
open Go.Ev
def slices_Equal_card_Field_out (s1 : List E_card_Field) (s2 : List E_card_Field) : Bool → Res
 | r1 => ([(.one (.pv (.bool r1)))], [], [])
def slices_Equal_card_Field_L0_st (s1 : List E_card_Field) (s2 : List E_card_Field) (n : Int) : Int → St
 | n2 => ⟨[(0, (.av (.one (.pv (.recs 3 (List.map E_card_Field.pv s1) false))))), (1, (.av (.one (.pv (.recs 3 (List.map E_card_Field.pv s2) false))))), (12, (.av (.one (.pv (.int .i64 n))))), (13, (.av (.one (.pv (.int .i64 n2)))))], [], []⟩
def slices_Equal_card_Field_L0_ex (s1 : List E_card_Field) (s2 : List E_card_Field) (n : Int) : (Unit) ⊕ (Unit) → Ex × St
 | .inl _ => (.ret, ⟨[(4, (.av (.one (.pv (.bool false)))))], [], []⟩)
 | .inr _ => ((.exit 0), ⟨[], [], []⟩)
noncomputable def slices_Equal_card_Field_L0_step (s1 : List E_card_Field) (s2 : List E_card_Field) (n : Int) : Int → Option ((Int) ⊕ ((Unit) ⊕ (Unit)))
 | n2 =>
 bif (decide ((n2 : Int) < n)) then
  bif decide ((0 : Int) ≤ n2) && decide ((n2 : Int) < (((List.map E_card_Field.pv s1)).length : Int)) then
  (s1[(n2).toNat]?).bind fun e_ => match e_ with
  | .mk n3 s s3 =>
  bif decide ((0 : Int) ≤ n2) && decide ((n2 : Int) < (((List.map E_card_Field.pv s2)).length : Int)) then
  (s2[(n2).toNat]?).bind fun e_ => match e_ with
  | .mk n4 s4 s5 =>
  bif ((decide ((n3 : Int) = n4)) && ((decide ((s : ByteArray) = s4)) && ((decide ((s3 : ByteArray) = s5)) && true))) then
   some (.inl (iadd .i64 n2 1))
  else
   some (.inr (.inl ()))
  else none
  else none
 else
  some (.inr (.inr ()))
theorem slices_Equal_card_Field_L0_ok (s1 : List E_card_Field) (s2 : List E_card_Field) (n : Int) (n2 : Int) (z_ : (Int) ⊕ ((Unit) ⊕ (Unit))) (h : slices_Equal_card_Field_L0_step s1 s2 n n2 = some z_) : RoundOk Tryz.prog cfg 47 0 (loopAt Tryz.prog 47 0) (slices_Equal_card_Field_L0_st s1 s2 n) (slices_Equal_card_Field_L0_ex s1 s2 n) n2 z_ := by
 rcases cond_of h with ⟨h1, h⟩ | ⟨h1, h⟩
 ·obtain ⟨h2, h⟩ := need_of h
  obtain ⟨⟨n3, s, s3⟩, h3, h⟩ := bind_of h
  obtain ⟨h4, h⟩ := need_of h
  obtain ⟨⟨n4, s4, s5⟩, h5, h⟩ := bind_of h
  rcases cond_of h with ⟨h6, h⟩ | ⟨h6, h⟩
  ·have h := some_of h
   subst h
   have t_ := tT h1 <| tO h2 <| tE (.el [(.int .i64 n3), (.str s), (.str s3)]) <| tO (el_of (f := E_card_Field.pv) h3) <| tO h4 <| tE (.el [(.int .i64 n4), (.str s4), (.str s5)]) <| tO (el_of (f := E_card_Field.pv) h5) <| tF (not_of2 h6) <| tN
   exact ⟨t_.ev, slices_Equal_card_Field_L0_st s1 s2 n (iadd .i64 n2 1), .k0 t_.pf (by kernel_rfl), .same (by kernel_rfl)⟩
  ·have h := some_of h
   subst h
   have t_ := tT h1 <| tO h2 <| tE (.el [(.int .i64 n3), (.str s), (.str s3)]) <| tO (el_of (f := E_card_Field.pv) h3) <| tO h4 <| tE (.el [(.int .i64 n4), (.str s4), (.str s5)]) <| tO (el_of (f := E_card_Field.pv) h5) <| tT (not_of h6) <| tN
   exact ⟨t_.ev, (slices_Equal_card_Field_L0_ex s1 s2 n (.inl ())).2, .k0 t_.pf (by kernel_rfl), .same (by kernel_rfl)⟩
 ·have h := some_of h
  subst h
  have t_ := tF h1 <| tN
  exact ⟨t_.ev, ⟨[(14, (.av (.one (.pv (.bool false))))), (0, (.av (.one (.pv (.recs 3 (List.map E_card_Field.pv s1) false))))), (1, (.av (.one (.pv (.recs 3 (List.map E_card_Field.pv s2) false))))), (12, (.av (.one (.pv (.int .i64 n))))), (13, (.av (.one (.pv (.int .i64 n2))))), (14, (.av (.one (.pv (.bool (decide ((n2 : Int) < n)))))))], [], []⟩, .k0 t_.pf (by kernel_rfl), ⟨trivial, trivial, trivial⟩⟩
theorem slices_Equal_card_Field_L0_runs (s1 : List E_card_Field) (s2 : List E_card_Field) (n : Int) (s_ : Int) (r_ : (Unit) ⊕ (Unit)) (h : runL (slices_Equal_card_Field_L0_step s1 s2 n) s_ = some r_) : LRuns Tryz.prog (lEnv Tryz.prog cfg 47 0).nt 0 (.loop (loopAt Tryz.prog 47 0)) (slices_Equal_card_Field_L0_st s1 s2 n s_) (slices_Equal_card_Field_L0_ex s1 s2 n r_).1 (slices_Equal_card_Field_L0_ex s1 s2 n r_).2 :=
 loop_run h (slices_Equal_card_Field_L0_ok s1 s2 n) (by intro r_; rcases r_ with _ | _ <;> simp [slices_Equal_card_Field_L0_ex])
noncomputable def slices_Equal_card_Field (s1 : List E_card_Field) (s2 : List E_card_Field) : Option (Bool) :=
 bif (decide (((((List.map E_card_Field.pv s1)).length : Int) : Int) = (((List.map E_card_Field.pv s2)).length : Int))) then
  (runL (slices_Equal_card_Field_L0_step s1 s2 (((List.map E_card_Field.pv s1)).length : Int)) 0).bind fun z_ => match z_ with
  | .inl _ =>
   some false
  | .inr _ =>
   some true
 else
  some false
theorem slices_Equal_card_Field_runs (s1 : List E_card_Field) (s2 : List E_card_Field) (r_ : Bool) (h : slices_Equal_card_Field s1 s2 = some r_) : Runs Tryz.prog 47 [(.one (.pv (.recs 3 (List.map E_card_Field.pv s1) false))), (.one (.pv (.recs 3 (List.map E_card_Field.pv s2) false)))] [] [] (slices_Equal_card_Field_out s1 s2 r_) := by
 unfold slices_Equal_card_Field at h
 rcases cond_of h with ⟨h1, h⟩ | ⟨h1, h⟩
 ·obtain ⟨z_, h2, h⟩ := bind_of h
  rcases z_ with _ | _
  ·have h := some_of h
   subst h
   have t_ := tF (not_of2 h1) <| tL (slices_Equal_card_Field_L0_runs s1 s2 (((List.map E_card_Field.pv s1)).length : Int) _ _ h2) <| tN
   exact runs_of (C := cfg) (objs := []) (sc := t_.ev) (.k0 t_.pf (by kernel_rfl))
  ·have h := some_of h
   subst h
   have t_ := tF (not_of2 h1) <| tL (slices_Equal_card_Field_L0_runs s1 s2 (((List.map E_card_Field.pv s1)).length : Int) _ _ h2) <| tN
   exact runs_of (C := cfg) (objs := []) (sc := t_.ev) (.k0 t_.pf (by kernel_rfl))
 ·have h := some_of h
  subst h
  have t_ := tT (not_of h1) <| tN
  exact runs_of (C := cfg) (objs := []) (sc := t_.ev) (.k0 t_.pf (by kernel_rfl))
def kinfolklaw10_PaperTotal_out (b : List Int) : Bool → Res
 | r1 => ([(.one (.pv (.bool r1)))], [], [])
def paper_ReadPatch_out (b : List Int) : List E_card_Field × List E_card_Field × List Int × Int → Res
 | (r1, r2, r3, r4) => ([(.agg [(.pv (.recs 3 (List.map E_card_Field.pv r1) false)), (.pv (.recs 3 (List.map E_card_Field.pv r2) false)), (.pv (.ints .i64 r3 false))]), (.one (.pv (.int .i64 r4)))], [], [])
def paper_some_out (l : List Int) (n : Int) : List Int × Int × List E_card_Field → Res
 | (r1, r2, r3) => ([(.one (.own 0 0 ((List.map E_card_Field.pv r3)).length false))], [[(.pv (.ints .u8 r1 false)), (.pv (.int .i64 r2))]], [(.recs 3 (List.map E_card_Field.pv r3))])
def paper_count_out (l : List Int) (n : Int) : Int × List Int × Int → Res
 | (r1, r2, r3) => ([(.one (.pv (.int .u64 r1)))], [[(.pv (.ints .u8 r2 false)), (.pv (.int .i64 r3))]], [])
noncomputable def paper_count (l : List Int) (n : Int) : Option (Int × List Int × Int) :=
 (wire_In_Num l n).bind fun (n2, l_, n3) =>
 bif (decide ((255 : Int) < n2)) then
  (wire_In_Fail 9 l_ n3).bind fun n4 =>
  some (0, l_, n4)
 else
  some (n2, l_, n3)
theorem paper_count_runs (l : List Int) (n : Int) (r_ : Int × List Int × Int) (h : paper_count l n = some r_) : Runs Tryz.prog 88 [(.one (.ref 0 0))] [[(.pv (.ints .u8 l false)), (.pv (.int .i64 n))]] [] (paper_count_out l n r_) := by
 unfold paper_count at h
 obtain ⟨⟨n2, l_, n3⟩, h1, h⟩ := bind_of h
 rcases cond_of h with ⟨h2, h⟩ | ⟨h2, h⟩
 ·obtain ⟨n4, h3, h⟩ := bind_of h
  have h := some_of h
  subst h
  have t_ := tR (wire_In_Num_runs l n _ h1) <| tT h2 <| tR (wire_In_Fail_runs 9 l_ n3 _ h3) <| tN
  exact runs_of (C := cfg) (objs := [[(.pv (.ints .u8 l false)), (.pv (.int .i64 n))]]) (sc := t_.ev) (.k0 t_.pf (by kernel_rfl))
 ·have h := some_of h
  subst h
  have t_ := tR (wire_In_Num_runs l n _ h1) <| tF h2 <| tN
  exact runs_of (C := cfg) (objs := [[(.pv (.ints .u8 l false)), (.pv (.int .i64 n))]]) (sc := t_.ev) (.k0 t_.pf (by kernel_rfl))
def paper_some_L0_2_st (n : Int) : Int × List Int × Int × List E_card_Field → St
 | (n3, l, n2, r) => ⟨[(0, (.av (.one (.ref 0 0)))), (3, (.av (.one (.own 0 0 ((List.map E_card_Field.pv r)).length false)))), (5, (.av (.one (.pv (.int .u64 n))))), (6, (.av (.one (.pv (.int .u64 n3)))))], [(0, [(.pv (.ints .u8 l false)), (.pv (.int .i64 n2))])], [(0, (.live (.recs 3 (List.map E_card_Field.pv r))))]⟩
def paper_some_L0_2_ex (n : Int) : List Int × Int × List E_card_Field → Ex × St
 | (r1, r2, r3) => ((.exit 0), ⟨[(3, (.av (.one (.own 0 0 ((List.map E_card_Field.pv r3)).length false))))], [(0, [(.pv (.ints .u8 r1 false)), (.pv (.int .i64 r2))])], [(0, (.live (.recs 3 (List.map E_card_Field.pv r3))))]⟩)
noncomputable def paper_some_L0_2_step (n : Int) : Int × List Int × Int × List E_card_Field → Option ((Int × List Int × Int × List E_card_Field) ⊕ (List Int × Int × List E_card_Field))
 | (n3, l, n2, r) =>
 bif (decide ((n3 : Int) < n)) then
  (wire_In_Byte l n2).bind fun (n4, l_, n5) =>
  (wire_In_Text 255 l_ n5).bind fun (s, l_2, n6) =>
  (wire_In_Text 255 l_2 n6).bind fun (s2, l_3, n7) =>
  bif fits (((List.map E_card_Field.pv r) ++ ([[(.int .i64 (IntKind.i64.wrap n4)), (.str s), (.str s2)]] : List (List PV)))).length then
  some (.inl ((iadd .u64 n3 1), l_3, n7, (r ++ [(E_card_Field.mk (IntKind.i64.wrap n4) s s2)])))
  else none
 else
  some (.inr (l, n2, r))
theorem paper_some_L0_2_ok (n : Int) (s_ : Int × List Int × Int × List E_card_Field) (z_ : (Int × List Int × Int × List E_card_Field) ⊕ (List Int × Int × List E_card_Field)) (h : paper_some_L0_2_step n s_ = some z_) : RoundOk Tryz.prog cfg 87 1 (loopAt Tryz.prog 87 0) (paper_some_L0_2_st n) (paper_some_L0_2_ex n) s_ z_ := by
 rcases s_ with ⟨n3, l, n2, r⟩
 rcases cond_of h with ⟨h1, h⟩ | ⟨h1, h⟩
 ·obtain ⟨⟨n4, l_, n5⟩, h2, h⟩ := bind_of h
  obtain ⟨⟨s, l_2, n6⟩, h3, h⟩ := bind_of h
  obtain ⟨⟨s2, l_3, n7⟩, h4, h⟩ := bind_of h
  obtain ⟨h5, h⟩ := need_of h
  have h := some_of h
  subst h
  have t_ := tT h1 <| tR (wire_In_Byte_runs l n2 _ h2) <| tR (wire_In_Text_runs 255 l_ n5 _ h3) <| tR (wire_In_Text_runs 255 l_2 n6 _ h4) <| tO (show (Nat.beq ((List.map E_card_Field.pv r)).length ((List.map E_card_Field.pv r)).length) = true from Nat.beq_refl _) <| tO h5 <| tN
  exact ⟨t_.ev, ⟨[(0, (.av (.one (.ref 0 0)))), (3, (.av (.one (.own 0 0 (((List.map E_card_Field.pv r) ++ ([[(.int .i64 (IntKind.i64.wrap n4)), (.str s), (.str s2)]] : List (List PV)))).length false)))), (5, (.av (.one (.pv (.int .u64 n))))), (6, (.av (.one (.pv (.int .u64 (iadd .u64 n3 1))))))], [(0, [(.pv (.ints .u8 l_3 false)), (.pv (.int .i64 n7))])], [(0, (.live (.recs 3 ((List.map E_card_Field.pv r) ++ ([[(.int .i64 (IntKind.i64.wrap n4)), (.str s), (.str s2)]] : List (List PV))))))]⟩, .k0 t_.pf (by kernel_rfl), ⟨⟨⟨_, rfl, .eq rfl⟩, ⟨_, rfl, .own (by first | rfl | (simp only [List.take_length, List.drop_zero, List.map_take, List.nil_append]; done) | (simp; done) | (simp only [E_card_Field.upd, E_kinfolkref09_Field.upd, E_L_card_Field.upd, E_card_Card.upd, E_card_Field.upd, E_kinfolkref09_Field.upd, E_L_card_Field.upd, E_card_Card.upd]; done) | (simp [E_card_Field.pv, E_kinfolkref09_Field.pv, E_L_card_Field.pv, E_card_Card.pv, E_card_Field.pv, E_kinfolkref09_Field.pv, E_L_card_Field.pv, E_card_Card.pv]; done) | (simp only [List.length_map, List.take_length, List.length_append, List.map_append, List.map_cons, List.map_nil, List.append_nil, List.nil_append, E_card_Field.pv, E_kinfolkref09_Field.pv, E_L_card_Field.pv, E_card_Card.pv, E_card_Field.pv, E_kinfolkref09_Field.pv, E_L_card_Field.pv, E_card_Card.pv]; done))⟩, ⟨_, rfl, .eq rfl⟩, ⟨_, rfl, .eq rfl⟩, trivial⟩, ⟨⟨rfl, ⟨.eq rfl, .eq rfl, trivial⟩⟩, trivial⟩, ⟨⟨rfl, .recs (.app (.eq rfl) (.cons (.cons (.eq rfl) (.cons (.eq rfl) (.cons (.eq rfl) (.nil)))) (.nil)))⟩, trivial⟩⟩⟩
 ·have h := some_of h
  subst h
  have t_ := tF h1 <| tN
  exact ⟨t_.ev, ⟨[(7, (.av (.one (.pv (.bool false))))), (0, (.av (.one (.ref 0 0)))), (3, (.av (.one (.own 0 0 ((List.map E_card_Field.pv r)).length false)))), (5, (.av (.one (.pv (.int .u64 n))))), (6, (.av (.one (.pv (.int .u64 n3))))), (7, (.av (.one (.pv (.bool (decide ((n3 : Int) < n)))))))], [(0, [(.pv (.ints .u8 l false)), (.pv (.int .i64 n2))])], [(0, (.live (.recs 3 (List.map E_card_Field.pv r))))]⟩, .k0 t_.pf (by kernel_rfl), ⟨⟨⟨_, rfl, .eq rfl⟩, trivial⟩, ⟨⟨rfl, ⟨.eq rfl, .eq rfl, trivial⟩⟩, trivial⟩, ⟨⟨rfl, .eq rfl⟩, trivial⟩⟩⟩
theorem paper_some_L0_2_runs (n : Int) (s_ : Int × List Int × Int × List E_card_Field) (r_ : List Int × Int × List E_card_Field) (h : runL (paper_some_L0_2_step n) s_ = some r_) : LRuns Tryz.prog (lEnv Tryz.prog cfg 87 1).nt 1 (.loop (loopAt Tryz.prog 87 0)) (paper_some_L0_2_st n s_) (paper_some_L0_2_ex n r_).1 (paper_some_L0_2_ex n r_).2 :=
 loop_run h (paper_some_L0_2_ok n) (by intro r_; rcases r_ with ⟨r1, r2, r3⟩ <;> simp [paper_some_L0_2_ex])
noncomputable def paper_some (l : List Int) (n : Int) : Option (List Int × Int × List E_card_Field) :=
 (paper_count l n).bind fun (n2, l_, n3) =>
 (runL (paper_some_L0_2_step n2) (0, l_, n3, [])).bind fun (l_2, n4, r) =>
 some (l_2, n4, r)
theorem paper_some_runs (l : List Int) (n : Int) (r_ : List Int × Int × List E_card_Field) (h : paper_some l n = some r_) : Runs Tryz.prog 87 [(.one (.ref 0 0))] [[(.pv (.ints .u8 l false)), (.pv (.int .i64 n))]] [] (paper_some_out l n r_) := by
 unfold paper_some at h
 obtain ⟨⟨n2, l_, n3⟩, h1, h⟩ := bind_of h
 obtain ⟨⟨l_2, n4, r⟩, h2, h⟩ := bind_of h
 have h := some_of h
 subst h
 have t_ := tR (paper_count_runs l n _ h1) <| tL (LRuns.coe (s0 := ⟨[(0, (.av (.one (.ref 0 0)))), (3, (.av (.one (.own 0 0 0 false)))), (5, (.av (.one (.pv (.int .u64 n2))))), (6, (.av (.one (.pv (.int .u64 0)))))], [(0, [(.pv (.ints .u8 l_ false)), (.pv (.int .i64 n3))])], [(0, (.live (.recs 3 [])))]⟩) (paper_some_L0_2_runs n2 _ _ h2) ⟨⟨⟨_, rfl, .eq rfl⟩, ⟨_, rfl, .own (by first | rfl | (simp only [List.take_length, List.drop_zero, List.map_take, List.nil_append]; done) | (simp; done) | (simp only [E_card_Field.upd, E_kinfolkref09_Field.upd, E_L_card_Field.upd, E_card_Card.upd, E_card_Field.upd, E_kinfolkref09_Field.upd, E_L_card_Field.upd, E_card_Card.upd]; done) | (simp [E_card_Field.pv, E_kinfolkref09_Field.pv, E_L_card_Field.pv, E_card_Card.pv, E_card_Field.pv, E_kinfolkref09_Field.pv, E_L_card_Field.pv, E_card_Card.pv]; done) | (simp only [List.length_map, List.take_length, List.length_append, List.map_append, List.map_cons, List.map_nil, List.append_nil, List.nil_append, E_card_Field.pv, E_kinfolkref09_Field.pv, E_L_card_Field.pv, E_card_Card.pv, E_card_Field.pv, E_kinfolkref09_Field.pv, E_L_card_Field.pv, E_card_Card.pv]; done))⟩, ⟨_, rfl, .eq rfl⟩, ⟨_, rfl, .eq rfl⟩, trivial⟩, ⟨⟨rfl, ⟨.eq rfl, .eq rfl, trivial⟩⟩, trivial⟩, ⟨⟨rfl, .recs (.nil)⟩, trivial⟩⟩) <| tN
 exact runs_of (C := cfg) (objs := [[(.pv (.ints .u8 l false)), (.pv (.int .i64 n))]]) (sc := t_.ev) (.k0 t_.pf (by kernel_rfl))
def paper_ReadPatch_L0_2_st (n : Int) (r : List E_card_Field) (r2 : List E_card_Field) : Int × List Int × Int × List Int → St
 | (n3, l, n2, l2) => ⟨[(2, (.av (.one (.ref 0 0)))), (4, (.av (.one (.ref 1 0)))), (5, (.av (.one (.ref 2 0)))), (15, (.av (.one (.pv (.int .u64 n))))), (16, (.av (.one (.pv (.int .u64 n3)))))], [(0, [(.pv .nils), (.pv .nils), (.pv .nils)]), (1, [(.pv (.ints .u8 l false)), (.pv (.int .i64 n2))]), (2, [(.own 0 0 ((List.map E_card_Field.pv r)).length false), (.own 1 0 ((List.map E_card_Field.pv r2)).length false), (.own 2 0 (l2).length false)])], [(0, (.live (.recs 3 (List.map E_card_Field.pv r)))), (1, (.live (.recs 3 (List.map E_card_Field.pv r2)))), (2, (.live (.ints .i64 l2)))]⟩
def paper_ReadPatch_L0_2_ex (n : Int) (r : List E_card_Field) (r2 : List E_card_Field) : List Int × Int × List Int → Ex × St
 | (r1, r3, r4) => ((.exit 0), ⟨[(2, (.av (.one (.ref 0 0)))), (4, (.av (.one (.ref 1 0)))), (5, (.av (.one (.ref 2 0))))], [(0, [(.pv .nils), (.pv .nils), (.pv .nils)]), (1, [(.pv (.ints .u8 r1 false)), (.pv (.int .i64 r3))]), (2, [(.own 0 0 ((List.map E_card_Field.pv r)).length false), (.own 1 0 ((List.map E_card_Field.pv r2)).length false), (.own 2 0 (r4).length false)])], [(0, (.live (.recs 3 (List.map E_card_Field.pv r)))), (1, (.live (.recs 3 (List.map E_card_Field.pv r2)))), (2, (.live (.ints .i64 r4)))]⟩)
noncomputable def paper_ReadPatch_L0_2_step (n : Int) (r : List E_card_Field) (r2 : List E_card_Field) : Int × List Int × Int × List Int → Option ((Int × List Int × Int × List Int) ⊕ (List Int × Int × List Int))
 | (n3, l, n2, l2) =>
 bif (decide ((n3 : Int) < n)) then
  (wire_In_Byte l n2).bind fun (n4, l_, n5) =>
  bif fits ((l2 ++ [(IntKind.i64.wrap n4)])).length then
  some (.inl ((iadd .u64 n3 1), l_, n5, (l2 ++ [(IntKind.i64.wrap n4)])))
  else none
 else
  some (.inr (l, n2, l2))
theorem paper_ReadPatch_L0_2_ok (n : Int) (r : List E_card_Field) (r2 : List E_card_Field) (s_ : Int × List Int × Int × List Int) (z_ : (Int × List Int × Int × List Int) ⊕ (List Int × Int × List Int)) (h : paper_ReadPatch_L0_2_step n r r2 s_ = some z_) : RoundOk Tryz.prog cfg 46 0 (loopAt Tryz.prog 46 0) (paper_ReadPatch_L0_2_st n r r2) (paper_ReadPatch_L0_2_ex n r r2) s_ z_ := by
 rcases s_ with ⟨n3, l, n2, l2⟩
 rcases cond_of h with ⟨h1, h⟩ | ⟨h1, h⟩
 ·obtain ⟨⟨n4, l_, n5⟩, h2, h⟩ := bind_of h
  obtain ⟨h3, h⟩ := need_of h
  have h := some_of h
  subst h
  have t_ := tT h1 <| tR (wire_In_Byte_runs l n2 _ h2) <| tR (wire_In_Byte_runs l n2 _ h2) <| tO (show (Nat.beq (l2).length (l2).length) = true from Nat.beq_refl _) <| tO h3 <| tN
  exact ⟨t_.ev, paper_ReadPatch_L0_2_st n r r2 ((iadd .u64 n3 1), l_, n5, (l2 ++ [(IntKind.i64.wrap n4)])), .k1 t_.pf (by kernel_rfl) (by kernel_rfl), .same (by kernel_rfl)⟩
 ·have h := some_of h
  subst h
  have t_ := tF h1 <| tN
  exact ⟨t_.ev, ⟨[(17, (.av (.one (.pv (.bool false))))), (2, (.av (.one (.ref 0 0)))), (4, (.av (.one (.ref 1 0)))), (5, (.av (.one (.ref 2 0)))), (15, (.av (.one (.pv (.int .u64 n))))), (16, (.av (.one (.pv (.int .u64 n3))))), (17, (.av (.one (.pv (.bool (decide ((n3 : Int) < n)))))))], [(0, [(.pv .nils), (.pv .nils), (.pv .nils)]), (1, [(.pv (.ints .u8 l false)), (.pv (.int .i64 n2))]), (2, [(.own 0 0 ((List.map E_card_Field.pv r)).length false), (.own 1 0 ((List.map E_card_Field.pv r2)).length false), (.own 2 0 (l2).length false)])], [(0, (.live (.recs 3 (List.map E_card_Field.pv r)))), (1, (.live (.recs 3 (List.map E_card_Field.pv r2)))), (2, (.live (.ints .i64 l2)))]⟩, .k0 t_.pf (by kernel_rfl), ⟨⟨⟨_, rfl, .eq rfl⟩, ⟨_, rfl, .eq rfl⟩, ⟨_, rfl, .eq rfl⟩, trivial⟩, ⟨⟨rfl, ⟨.eq rfl, .eq rfl, .eq rfl, trivial⟩⟩, ⟨rfl, ⟨.eq rfl, .eq rfl, trivial⟩⟩, ⟨rfl, ⟨.eq rfl, .eq rfl, .eq rfl, trivial⟩⟩, trivial⟩, ⟨⟨rfl, .eq rfl⟩, ⟨rfl, .eq rfl⟩, ⟨rfl, .eq rfl⟩, trivial⟩⟩⟩
theorem paper_ReadPatch_L0_2_runs (n : Int) (r : List E_card_Field) (r2 : List E_card_Field) (s_ : Int × List Int × Int × List Int) (r_ : List Int × Int × List Int) (h : runL (paper_ReadPatch_L0_2_step n r r2) s_ = some r_) : LRuns Tryz.prog (lEnv Tryz.prog cfg 46 0).nt 0 (.loop (loopAt Tryz.prog 46 0)) (paper_ReadPatch_L0_2_st n r r2 s_) (paper_ReadPatch_L0_2_ex n r r2 r_).1 (paper_ReadPatch_L0_2_ex n r r2 r_).2 :=
 loop_run h (paper_ReadPatch_L0_2_ok n r r2) (by intro r_; rcases r_ with ⟨r1, r3, r4⟩ <;> simp [paper_ReadPatch_L0_2_ex])
noncomputable def paper_ReadPatch (b : List Int) : Option (List E_card_Field × List E_card_Field × List Int × Int) :=
 (wire_Of b).bind fun _ =>
 (paper_some b 0).bind fun (l_, n, r) =>
 (paper_some l_ n).bind fun (l_2, n2, r2) =>
 (paper_count l_2 n2).bind fun (n3, l_3, n4) =>
 (runL (paper_ReadPatch_L0_2_step n3 r r2) (0, l_3, n4, [])).bind fun (l_4, n5, l_5) =>
 (wire_In_End l_4 n5).bind fun (n6, n7) =>
 bif (decide ((n6 : Int) = 0)) then
  some ((List.take ((List.map E_card_Field.pv r)).length r), (List.take ((List.map E_card_Field.pv r2)).length r2), l_5, 0)
 else
  some ([], [], [], n6)
theorem paper_ReadPatch_runs (b : List Int) (r_ : List E_card_Field × List E_card_Field × List Int × Int) (h : paper_ReadPatch b = some r_) : Runs Tryz.prog 46 [(.one (.pv (.ints .u8 b false)))] [] [] (paper_ReadPatch_out b r_) := by
 unfold paper_ReadPatch at h
 obtain ⟨_, h1, h⟩ := bind_of h
 obtain ⟨⟨l_, n, r⟩, h2, h⟩ := bind_of h
 obtain ⟨⟨l_2, n2, r2⟩, h3, h⟩ := bind_of h
 obtain ⟨⟨n3, l_3, n4⟩, h4, h⟩ := bind_of h
 obtain ⟨⟨l_4, n5, l_5⟩, h5, h⟩ := bind_of h
 have q_5 := (LRuns.coe (s0 := ⟨[(2, (.av (.one (.ref 0 0)))), (4, (.av (.one (.ref 1 0)))), (5, (.av (.one (.ref 2 0)))), (15, (.av (.one (.pv (.int .u64 n3))))), (16, (.av (.one (.pv (.int .u64 0)))))], [(0, [(.pv .nils), (.pv .nils), (.pv .nils)]), (1, [(.pv (.ints .u8 l_3 false)), (.pv (.int .i64 n4))]), (2, [(.own 0 0 ((List.map E_card_Field.pv r)).length false), (.own 1 0 ((List.map E_card_Field.pv r2)).length false), (.own 2 0 0 false)])], [(0, (.live (.recs 3 (List.map E_card_Field.pv r)))), (1, (.live (.recs 3 (List.map E_card_Field.pv r2)))), (2, (.live (.ints .i64 [])))]⟩) (paper_ReadPatch_L0_2_runs n3 r r2 _ _ h5) ⟨⟨⟨_, rfl, .eq rfl⟩, ⟨_, rfl, .eq rfl⟩, ⟨_, rfl, .eq rfl⟩, ⟨_, rfl, .eq rfl⟩, ⟨_, rfl, .eq rfl⟩, trivial⟩, ⟨⟨rfl, ⟨.eq rfl, .eq rfl, .eq rfl, trivial⟩⟩, ⟨rfl, ⟨.eq rfl, .eq rfl, trivial⟩⟩, ⟨rfl, ⟨.eq rfl, .eq rfl, .own (by first | rfl | (simp only [List.take_length, List.drop_zero, List.map_take, List.nil_append]; done) | (simp; done) | (simp only [E_card_Field.upd, E_kinfolkref09_Field.upd, E_L_card_Field.upd, E_card_Card.upd, E_card_Field.upd, E_kinfolkref09_Field.upd, E_L_card_Field.upd, E_card_Card.upd]; done) | (simp [E_card_Field.pv, E_kinfolkref09_Field.pv, E_L_card_Field.pv, E_card_Card.pv, E_card_Field.pv, E_kinfolkref09_Field.pv, E_L_card_Field.pv, E_card_Card.pv]; done) | (simp only [List.length_map, List.take_length, List.length_append, List.map_append, List.map_cons, List.map_nil, List.append_nil, List.nil_append, E_card_Field.pv, E_kinfolkref09_Field.pv, E_L_card_Field.pv, E_card_Card.pv, E_card_Field.pv, E_kinfolkref09_Field.pv, E_L_card_Field.pv, E_card_Card.pv]; done)), trivial⟩⟩, trivial⟩, ⟨⟨rfl, .eq rfl⟩, ⟨rfl, .eq rfl⟩, ⟨rfl, .eq rfl⟩, trivial⟩⟩)
 obtain ⟨⟨n6, n7⟩, h6, h⟩ := bind_of h
 rcases cond_of h with ⟨h7, h⟩ | ⟨h7, h⟩
 ·have h := some_of h
  subst h
  have t_ := tR (wire_Of_runs b _ h1) <| tR (paper_some_runs b 0 _ h2) <| tR (paper_some_runs l_ n _ h3) <| tR (paper_count_runs l_2 n2 _ h4) <| tL q_5 <| tR (wire_In_End_runs l_4 n5 _ h6) <| tF (not_of2 h7) <| tN
  have e_ : Runs Tryz.prog 46 [(.one (.pv (.ints .u8 b false)))] [] [] ([(.agg [(.own 0 0 ((List.map E_card_Field.pv r)).length false), (.own 1 0 ((List.map E_card_Field.pv r2)).length false), (.own 2 0 (l_5).length false)]), (.one (.pv (.int .i64 0)))], [], [(.recs 3 (List.map E_card_Field.pv r)), (.recs 3 (List.map E_card_Field.pv r2)), (.ints .i64 l_5)]) := runs_of (C := cfg) (objs := []) (sc := t_.ev) (.k0 t_.pf (by kernel_rfl))
  have e_ := e_.shut (res' := ([(.agg [(.pv (.recs 3 (List.take ((List.map E_card_Field.pv r)).length (List.map E_card_Field.pv r)) false)), (.pv (.recs 3 (List.take ((List.map E_card_Field.pv r2)).length (List.map E_card_Field.pv r2)) false)), (.pv (.ints .i64 (List.take (l_5).length l_5) false))]), (.one (.pv (.int .i64 0)))], [], [])) [0, 1, 2] (by kernel_rfl)
  exact e_.out ⟨⟨.pv (.recsT (.eq (by first | rfl | (simp only [List.take_length, List.drop_zero, List.map_take, List.nil_append]; done) | (simp; done) | (simp only [E_card_Field.upd, E_kinfolkref09_Field.upd, E_L_card_Field.upd, E_card_Card.upd, E_card_Field.upd, E_kinfolkref09_Field.upd, E_L_card_Field.upd, E_card_Card.upd]; done) | (simp [E_card_Field.pv, E_kinfolkref09_Field.pv, E_L_card_Field.pv, E_card_Card.pv, E_card_Field.pv, E_kinfolkref09_Field.pv, E_L_card_Field.pv, E_card_Card.pv]; done) | (simp only [List.length_map, List.take_length, List.length_append, List.map_append, List.map_cons, List.map_nil, List.append_nil, List.nil_append, E_card_Field.pv, E_kinfolkref09_Field.pv, E_L_card_Field.pv, E_card_Card.pv, E_card_Field.pv, E_kinfolkref09_Field.pv, E_L_card_Field.pv, E_card_Card.pv]; done)))), .pv (.recsT (.eq (by first | rfl | (simp only [List.take_length, List.drop_zero, List.map_take, List.nil_append]; done) | (simp; done) | (simp only [E_card_Field.upd, E_kinfolkref09_Field.upd, E_L_card_Field.upd, E_card_Card.upd, E_card_Field.upd, E_kinfolkref09_Field.upd, E_L_card_Field.upd, E_card_Card.upd]; done) | (simp [E_card_Field.pv, E_kinfolkref09_Field.pv, E_L_card_Field.pv, E_card_Card.pv, E_card_Field.pv, E_kinfolkref09_Field.pv, E_L_card_Field.pv, E_card_Card.pv]; done) | (simp only [List.length_map, List.take_length, List.length_append, List.map_append, List.map_cons, List.map_nil, List.append_nil, List.nil_append, E_card_Field.pv, E_kinfolkref09_Field.pv, E_L_card_Field.pv, E_card_Card.pv, E_card_Field.pv, E_kinfolkref09_Field.pv, E_L_card_Field.pv, E_card_Card.pv]; done)))), .pv (.ints (by first | rfl | (simp only [List.take_length, List.drop_zero, List.map_take, List.nil_append]; done) | (simp; done) | (simp only [E_card_Field.upd, E_kinfolkref09_Field.upd, E_L_card_Field.upd, E_card_Card.upd, E_card_Field.upd, E_kinfolkref09_Field.upd, E_L_card_Field.upd, E_card_Card.upd]; done) | (simp [E_card_Field.pv, E_kinfolkref09_Field.pv, E_L_card_Field.pv, E_card_Card.pv, E_card_Field.pv, E_kinfolkref09_Field.pv, E_L_card_Field.pv, E_card_Card.pv]; done) | (simp only [List.length_map, List.take_length, List.length_append, List.map_append, List.map_cons, List.map_nil, List.append_nil, List.nil_append, E_card_Field.pv, E_kinfolkref09_Field.pv, E_L_card_Field.pv, E_card_Card.pv, E_card_Field.pv, E_kinfolkref09_Field.pv, E_L_card_Field.pv, E_card_Card.pv]; done))), trivial⟩, .eq rfl, trivial⟩ trivial trivial rfl
 ·have h := some_of h
  subst h
  have t_ := tR (wire_Of_runs b _ h1) <| tR (paper_some_runs b 0 _ h2) <| tR (paper_some_runs l_ n _ h3) <| tR (paper_count_runs l_2 n2 _ h4) <| tL q_5 <| tR (wire_In_End_runs l_4 n5 _ h6) <| tT (not_of h7) <| tN
  have e_ : Runs Tryz.prog 46 [(.one (.pv (.ints .u8 b false)))] [] [] ([(.agg [(.pv .nils), (.pv .nils), (.pv .nils)]), (.one (.pv (.int .i64 n6)))], [], []) := runs_of (C := cfg) (objs := []) (sc := t_.ev) (.k0 t_.pf (by kernel_rfl))
  exact e_.out ⟨⟨.pv (.nilsR), .pv (.nilsR), .pv (.nilsI), trivial⟩, .eq rfl, trivial⟩ trivial trivial rfl
def kinfolkref10_ReadPatch_out (p : List Int) : List E_kinfolkref09_Field × List E_kinfolkref09_Field × List Int × Int → Res
 | (r1, r2, r3, r4) => ([(.one (.pv (.recs 3 (List.map E_kinfolkref09_Field.pv r1) false))), (.one (.pv (.recs 3 (List.map E_kinfolkref09_Field.pv r2) false))), (.one (.pv (.ints .i64 r3 false))), (.one (.pv (.int .i64 r4)))], [], [])
def kinfolkref10_some_out (l : List Int) (n : Int) (n2 : Int) : Int × Int × List E_kinfolkref09_Field → Res
 | (r1, r2, r3) => ([(.one (.own 0 0 ((List.map E_kinfolkref09_Field.pv r3)).length false))], [[(.pv (.ints .u8 l false)), (.pv (.int .i64 r1)), (.pv (.int .i64 r2))]], [(.recs 3 (List.map E_kinfolkref09_Field.pv r3))])
def kinfolkref10_some_L0_2_st (n : Int) (l : List Int) : Int × Int × Int × List E_kinfolkref09_Field → St
 | (k, n2, n3, r) => ⟨[(0, (.av (.one (.ref 0 0)))), (3, (.av (.one (.pv (.int .u64 n))))), (4, (.av (.one (.own 0 0 ((List.map E_kinfolkref09_Field.pv r)).length false)))), (5, (.av (.one (.pv (.int .u64 k)))))], [(0, [(.pv (.ints .u8 l false)), (.pv (.int .i64 n2)), (.pv (.int .i64 n3))])], [(0, (.live (.recs 3 (List.map E_kinfolkref09_Field.pv r))))]⟩
def kinfolkref10_some_L0_2_ex (n : Int) (l : List Int) : Int × Int × List E_kinfolkref09_Field → Ex × St
 | (r1, r2, r3) => ((.exit 0), ⟨[(4, (.av (.one (.own 0 0 ((List.map E_kinfolkref09_Field.pv r3)).length false))))], [(0, [(.pv (.ints .u8 l false)), (.pv (.int .i64 r1)), (.pv (.int .i64 r2))])], [(0, (.live (.recs 3 (List.map E_kinfolkref09_Field.pv r3))))]⟩)
noncomputable def kinfolkref10_some_L0_2_step (n : Int) (l : List Int) : Int × Int × Int × List E_kinfolkref09_Field → Option ((Int × Int × Int × List E_kinfolkref09_Field) ⊕ (Int × Int × List E_kinfolkref09_Field))
 | (k, n2, n3, r) =>
 bif (decide ((k : Int) < n)) then
  bif (decide ((n3 : Int) = 0)) then
   (kinfolkref06_Byte l n2 n3).bind fun (n4, n5, n6) =>
   (kinfolkref06_GetText 255 l n5 n6).bind fun (s, n7, n8) =>
   (kinfolkref06_GetText 255 l n7 n8).bind fun (s2, n9, n10) =>
   bif fits (((List.map E_kinfolkref09_Field.pv r) ++ ([[(.int .i64 (IntKind.i64.wrap n4)), (.str s), (.str s2)]] : List (List PV)))).length then
   some (.inl ((iadd .u64 k 1), n9, n10, (r ++ [(E_kinfolkref09_Field.mk (IntKind.i64.wrap n4) s s2)])))
   else none
  else
   some (.inr (n2, n3, r))
 else
  some (.inr (n2, n3, r))
theorem kinfolkref10_some_L0_2_ok (n : Int) (l : List Int) (s_ : Int × Int × Int × List E_kinfolkref09_Field) (z_ : (Int × Int × Int × List E_kinfolkref09_Field) ⊕ (Int × Int × List E_kinfolkref09_Field)) (h : kinfolkref10_some_L0_2_step n l s_ = some z_) : RoundOk Tryz.prog cfg 89 1 (loopAt Tryz.prog 89 0) (kinfolkref10_some_L0_2_st n l) (kinfolkref10_some_L0_2_ex n l) s_ z_ := by
 rcases s_ with ⟨k, n2, n3, r⟩
 rcases cond_of h with ⟨h1, h⟩ | ⟨h1, h⟩
 ·rcases cond_of h with ⟨h2, h⟩ | ⟨h2, h⟩
  ·obtain ⟨⟨n4, n5, n6⟩, h3, h⟩ := bind_of h
   obtain ⟨⟨s, n7, n8⟩, h4, h⟩ := bind_of h
   obtain ⟨⟨s2, n9, n10⟩, h5, h⟩ := bind_of h
   obtain ⟨h6, h⟩ := need_of h
   have h := some_of h
   subst h
   have t_ := tT h1 <| tT h2 <| tR (kinfolkref06_Byte_runs l n2 n3 _ h3) <| tR (kinfolkref06_GetText_runs 255 l n5 n6 _ h4) <| tR (kinfolkref06_GetText_runs 255 l n7 n8 _ h5) <| tO (show (Nat.beq ((List.map E_kinfolkref09_Field.pv r)).length ((List.map E_kinfolkref09_Field.pv r)).length) = true from Nat.beq_refl _) <| tO h6 <| tN
   exact ⟨t_.ev, ⟨[(0, (.av (.one (.ref 0 0)))), (3, (.av (.one (.pv (.int .u64 n))))), (4, (.av (.one (.own 0 0 (((List.map E_kinfolkref09_Field.pv r) ++ ([[(.int .i64 (IntKind.i64.wrap n4)), (.str s), (.str s2)]] : List (List PV)))).length false)))), (5, (.av (.one (.pv (.int .u64 (iadd .u64 k 1))))))], [(0, [(.pv (.ints .u8 l false)), (.pv (.int .i64 n9)), (.pv (.int .i64 n10))])], [(0, (.live (.recs 3 ((List.map E_kinfolkref09_Field.pv r) ++ ([[(.int .i64 (IntKind.i64.wrap n4)), (.str s), (.str s2)]] : List (List PV))))))]⟩, .k0 t_.pf (by kernel_rfl), ⟨⟨⟨_, rfl, .eq rfl⟩, ⟨_, rfl, .eq rfl⟩, ⟨_, rfl, .own (by first | rfl | (simp only [List.take_length, List.drop_zero, List.map_take, List.nil_append]; done) | (simp; done) | (simp only [E_card_Field.upd, E_kinfolkref09_Field.upd, E_L_card_Field.upd, E_card_Card.upd, E_card_Field.upd, E_kinfolkref09_Field.upd, E_L_card_Field.upd, E_card_Card.upd]; done) | (simp [E_card_Field.pv, E_kinfolkref09_Field.pv, E_L_card_Field.pv, E_card_Card.pv, E_card_Field.pv, E_kinfolkref09_Field.pv, E_L_card_Field.pv, E_card_Card.pv]; done) | (simp only [List.length_map, List.take_length, List.length_append, List.map_append, List.map_cons, List.map_nil, List.append_nil, List.nil_append, E_card_Field.pv, E_kinfolkref09_Field.pv, E_L_card_Field.pv, E_card_Card.pv, E_card_Field.pv, E_kinfolkref09_Field.pv, E_L_card_Field.pv, E_card_Card.pv]; done))⟩, ⟨_, rfl, .eq rfl⟩, trivial⟩, ⟨⟨rfl, ⟨.eq rfl, .eq rfl, .eq rfl, trivial⟩⟩, trivial⟩, ⟨⟨rfl, .recs (.app (.eq rfl) (.cons (.cons (.eq rfl) (.cons (.eq rfl) (.cons (.eq rfl) (.nil)))) (.nil)))⟩, trivial⟩⟩⟩
  ·have h := some_of h
   subst h
   have t_ := tT h1 <| tF h2 <| tN
   exact ⟨t_.ev, ⟨[(23, (.av (.one (.pv (.bool false))))), (0, (.av (.one (.ref 0 0)))), (3, (.av (.one (.pv (.int .u64 n))))), (4, (.av (.one (.own 0 0 ((List.map E_kinfolkref09_Field.pv r)).length false)))), (5, (.av (.one (.pv (.int .u64 k))))), (23, (.av (.one (.pv (.bool (decide ((n3 : Int) = 0)))))))], [(0, [(.pv (.ints .u8 l false)), (.pv (.int .i64 n2)), (.pv (.int .i64 n3))])], [(0, (.live (.recs 3 (List.map E_kinfolkref09_Field.pv r))))]⟩, .k0 t_.pf (by kernel_rfl), ⟨⟨⟨_, rfl, .eq rfl⟩, trivial⟩, ⟨⟨rfl, ⟨.eq rfl, .eq rfl, .eq rfl, trivial⟩⟩, trivial⟩, ⟨⟨rfl, .eq rfl⟩, trivial⟩⟩⟩
 ·have h := some_of h
  subst h
  have t_ := tF h1 <| tF (rfl : false = false) <| tN
  exact ⟨t_.ev, ⟨[(23, (.av (.one (.pv (.bool false))))), (0, (.av (.one (.ref 0 0)))), (3, (.av (.one (.pv (.int .u64 n))))), (4, (.av (.one (.own 0 0 ((List.map E_kinfolkref09_Field.pv r)).length false)))), (5, (.av (.one (.pv (.int .u64 k))))), (23, (.av (.one (.pv (.bool false)))))], [(0, [(.pv (.ints .u8 l false)), (.pv (.int .i64 n2)), (.pv (.int .i64 n3))])], [(0, (.live (.recs 3 (List.map E_kinfolkref09_Field.pv r))))]⟩, .k0 t_.pf (by kernel_rfl), ⟨⟨⟨_, rfl, .eq rfl⟩, trivial⟩, ⟨⟨rfl, ⟨.eq rfl, .eq rfl, .eq rfl, trivial⟩⟩, trivial⟩, ⟨⟨rfl, .eq rfl⟩, trivial⟩⟩⟩
theorem kinfolkref10_some_L0_2_runs (n : Int) (l : List Int) (s_ : Int × Int × Int × List E_kinfolkref09_Field) (r_ : Int × Int × List E_kinfolkref09_Field) (h : runL (kinfolkref10_some_L0_2_step n l) s_ = some r_) : LRuns Tryz.prog (lEnv Tryz.prog cfg 89 1).nt 1 (.loop (loopAt Tryz.prog 89 0)) (kinfolkref10_some_L0_2_st n l s_) (kinfolkref10_some_L0_2_ex n l r_).1 (kinfolkref10_some_L0_2_ex n l r_).2 :=
 loop_run h (kinfolkref10_some_L0_2_ok n l) (by intro r_; rcases r_ with ⟨r1, r2, r3⟩ <;> simp [kinfolkref10_some_L0_2_ex])
noncomputable def kinfolkref10_some (l : List Int) (n : Int) (n2 : Int) : Option (Int × Int × List E_kinfolkref09_Field) :=
 (kinfolkref06_GetNum l n n2).bind fun (n3, n4, n5) =>
 bif (decide ((255 : Int) < n3)) then
  (kinfolkref06_Fail 9 l n4 n5).bind fun n6 =>
  (runL (kinfolkref10_some_L0_2_step n3 l) (0, n4, n6, [])).bind fun (n7, n8, r) =>
  some (n7, n8, r)
 else
  (runL (kinfolkref10_some_L0_2_step n3 l) (0, n4, n5, [])).bind fun (n6, n7, r) =>
  some (n6, n7, r)
theorem kinfolkref10_some_runs (l : List Int) (n : Int) (n2 : Int) (r_ : Int × Int × List E_kinfolkref09_Field) (h : kinfolkref10_some l n n2 = some r_) : Runs Tryz.prog 89 [(.one (.ref 0 0))] [[(.pv (.ints .u8 l false)), (.pv (.int .i64 n)), (.pv (.int .i64 n2))]] [] (kinfolkref10_some_out l n n2 r_) := by
 unfold kinfolkref10_some at h
 obtain ⟨⟨n3, n4, n5⟩, h1, h⟩ := bind_of h
 rcases cond_of h with ⟨h2, h⟩ | ⟨h2, h⟩
 ·obtain ⟨n6, h3, h⟩ := bind_of h
  obtain ⟨⟨n7, n8, r⟩, h4, h⟩ := bind_of h
  have h := some_of h
  subst h
  have t_ := tR (kinfolkref06_GetNum_runs l n n2 _ h1) <| tT h2 <| tR (kinfolkref06_Fail_runs 9 l n4 n5 _ h3) <| tL (LRuns.coe (s0 := ⟨[(0, (.av (.one (.ref 0 0)))), (3, (.av (.one (.pv (.int .u64 n3))))), (4, (.av (.one (.own 0 0 0 false)))), (5, (.av (.one (.pv (.int .u64 0)))))], [(0, [(.pv (.ints .u8 l false)), (.pv (.int .i64 n4)), (.pv (.int .i64 n6))])], [(0, (.live (.recs 3 [])))]⟩) (kinfolkref10_some_L0_2_runs n3 l _ _ h4) ⟨⟨⟨_, rfl, .eq rfl⟩, ⟨_, rfl, .eq rfl⟩, ⟨_, rfl, .own (by first | rfl | (simp only [List.take_length, List.drop_zero, List.map_take, List.nil_append]; done) | (simp; done) | (simp only [E_card_Field.upd, E_kinfolkref09_Field.upd, E_L_card_Field.upd, E_card_Card.upd, E_card_Field.upd, E_kinfolkref09_Field.upd, E_L_card_Field.upd, E_card_Card.upd]; done) | (simp [E_card_Field.pv, E_kinfolkref09_Field.pv, E_L_card_Field.pv, E_card_Card.pv, E_card_Field.pv, E_kinfolkref09_Field.pv, E_L_card_Field.pv, E_card_Card.pv]; done) | (simp only [List.length_map, List.take_length, List.length_append, List.map_append, List.map_cons, List.map_nil, List.append_nil, List.nil_append, E_card_Field.pv, E_kinfolkref09_Field.pv, E_L_card_Field.pv, E_card_Card.pv, E_card_Field.pv, E_kinfolkref09_Field.pv, E_L_card_Field.pv, E_card_Card.pv]; done))⟩, ⟨_, rfl, .eq rfl⟩, trivial⟩, ⟨⟨rfl, ⟨.eq rfl, .eq rfl, .eq rfl, trivial⟩⟩, trivial⟩, ⟨⟨rfl, .recs (.nil)⟩, trivial⟩⟩) <| tN
  exact runs_of (C := cfg) (objs := [[(.pv (.ints .u8 l false)), (.pv (.int .i64 n)), (.pv (.int .i64 n2))]]) (sc := t_.ev) (.k0 t_.pf (by kernel_rfl))
 ·obtain ⟨⟨n6, n7, r⟩, h3, h⟩ := bind_of h
  have h := some_of h
  subst h
  have t_ := tR (kinfolkref06_GetNum_runs l n n2 _ h1) <| tF h2 <| tL (LRuns.coe (s0 := ⟨[(0, (.av (.one (.ref 0 0)))), (3, (.av (.one (.pv (.int .u64 n3))))), (4, (.av (.one (.own 0 0 0 false)))), (5, (.av (.one (.pv (.int .u64 0)))))], [(0, [(.pv (.ints .u8 l false)), (.pv (.int .i64 n4)), (.pv (.int .i64 n5))])], [(0, (.live (.recs 3 [])))]⟩) (kinfolkref10_some_L0_2_runs n3 l _ _ h3) ⟨⟨⟨_, rfl, .eq rfl⟩, ⟨_, rfl, .eq rfl⟩, ⟨_, rfl, .own (by first | rfl | (simp only [List.take_length, List.drop_zero, List.map_take, List.nil_append]; done) | (simp; done) | (simp only [E_card_Field.upd, E_kinfolkref09_Field.upd, E_L_card_Field.upd, E_card_Card.upd, E_card_Field.upd, E_kinfolkref09_Field.upd, E_L_card_Field.upd, E_card_Card.upd]; done) | (simp [E_card_Field.pv, E_kinfolkref09_Field.pv, E_L_card_Field.pv, E_card_Card.pv, E_card_Field.pv, E_kinfolkref09_Field.pv, E_L_card_Field.pv, E_card_Card.pv]; done) | (simp only [List.length_map, List.take_length, List.length_append, List.map_append, List.map_cons, List.map_nil, List.append_nil, List.nil_append, E_card_Field.pv, E_kinfolkref09_Field.pv, E_L_card_Field.pv, E_card_Card.pv, E_card_Field.pv, E_kinfolkref09_Field.pv, E_L_card_Field.pv, E_card_Card.pv]; done))⟩, ⟨_, rfl, .eq rfl⟩, trivial⟩, ⟨⟨rfl, ⟨.eq rfl, .eq rfl, .eq rfl, trivial⟩⟩, trivial⟩, ⟨⟨rfl, .recs (.nil)⟩, trivial⟩⟩) <| tN
  exact runs_of (C := cfg) (objs := [[(.pv (.ints .u8 l false)), (.pv (.int .i64 n)), (.pv (.int .i64 n2))]]) (sc := t_.ev) (.k0 t_.pf (by kernel_rfl))
def kinfolkref10_ReadPatch_L0_2_st (n : Int) (l : List Int) (r : List E_kinfolkref09_Field) (r2 : List E_kinfolkref09_Field) : Int × Int × Int × List Int → St
 | (k, n2, n3, l2) => ⟨[(6, (.av (.one (.ref 0 0)))), (7, (.av (.one (.own 0 0 ((List.map E_kinfolkref09_Field.pv r)).length false)))), (8, (.av (.one (.own 1 0 ((List.map E_kinfolkref09_Field.pv r2)).length false)))), (9, (.av (.one (.pv (.int .u64 n))))), (10, (.av (.one (.own 2 0 (l2).length false)))), (11, (.av (.one (.pv (.int .u64 k)))))], [(0, [(.pv (.ints .u8 l false)), (.pv (.int .i64 n2)), (.pv (.int .i64 n3))])], [(0, (.live (.recs 3 (List.map E_kinfolkref09_Field.pv r)))), (1, (.live (.recs 3 (List.map E_kinfolkref09_Field.pv r2)))), (2, (.live (.ints .i64 l2)))]⟩
def kinfolkref10_ReadPatch_L0_2_ex (n : Int) (l : List Int) (r : List E_kinfolkref09_Field) (r2 : List E_kinfolkref09_Field) : Int × Int × List Int → Ex × St
 | (r1, r3, r4) => ((.exit 0), ⟨[(6, (.av (.one (.ref 0 0)))), (7, (.av (.one (.own 0 0 ((List.map E_kinfolkref09_Field.pv r)).length false)))), (8, (.av (.one (.own 1 0 ((List.map E_kinfolkref09_Field.pv r2)).length false)))), (10, (.av (.one (.own 2 0 (r4).length false))))], [(0, [(.pv (.ints .u8 l false)), (.pv (.int .i64 r1)), (.pv (.int .i64 r3))])], [(0, (.live (.recs 3 (List.map E_kinfolkref09_Field.pv r)))), (1, (.live (.recs 3 (List.map E_kinfolkref09_Field.pv r2)))), (2, (.live (.ints .i64 r4)))]⟩)
noncomputable def kinfolkref10_ReadPatch_L0_2_step (n : Int) (l : List Int) (r : List E_kinfolkref09_Field) (r2 : List E_kinfolkref09_Field) : Int × Int × Int × List Int → Option ((Int × Int × Int × List Int) ⊕ (Int × Int × List Int))
 | (k, n2, n3, l2) =>
 bif (decide ((k : Int) < n)) then
  bif (decide ((n3 : Int) = 0)) then
   (kinfolkref06_Byte l n2 n3).bind fun (n4, n5, n6) =>
   bif fits ((l2 ++ [(IntKind.i64.wrap n4)])).length then
   some (.inl ((iadd .u64 k 1), n5, n6, (l2 ++ [(IntKind.i64.wrap n4)])))
   else none
  else
   some (.inr (n2, n3, l2))
 else
  some (.inr (n2, n3, l2))
theorem kinfolkref10_ReadPatch_L0_2_ok (n : Int) (l : List Int) (r : List E_kinfolkref09_Field) (r2 : List E_kinfolkref09_Field) (s_ : Int × Int × Int × List Int) (z_ : (Int × Int × Int × List Int) ⊕ (Int × Int × List Int)) (h : kinfolkref10_ReadPatch_L0_2_step n l r r2 s_ = some z_) : RoundOk Tryz.prog cfg 49 0 (loopAt Tryz.prog 49 0) (kinfolkref10_ReadPatch_L0_2_st n l r r2) (kinfolkref10_ReadPatch_L0_2_ex n l r r2) s_ z_ := by
 rcases s_ with ⟨k, n2, n3, l2⟩
 rcases cond_of h with ⟨h1, h⟩ | ⟨h1, h⟩
 ·rcases cond_of h with ⟨h2, h⟩ | ⟨h2, h⟩
  ·obtain ⟨⟨n4, n5, n6⟩, h3, h⟩ := bind_of h
   obtain ⟨h4, h⟩ := need_of h
   have h := some_of h
   subst h
   have t_ := tT h1 <| tT h2 <| tR (kinfolkref06_Byte_runs l n2 n3 _ h3) <| tO (show (Nat.beq (l2).length (l2).length) = true from Nat.beq_refl _) <| tO h4 <| tN
   exact ⟨t_.ev, kinfolkref10_ReadPatch_L0_2_st n l r r2 ((iadd .u64 k 1), n5, n6, (l2 ++ [(IntKind.i64.wrap n4)])), .k0 t_.pf (by kernel_rfl), .same (by kernel_rfl)⟩
  ·have h := some_of h
   subst h
   have t_ := tT h1 <| tF h2 <| tN
   exact ⟨t_.ev, ⟨[(35, (.av (.one (.pv (.bool false))))), (6, (.av (.one (.ref 0 0)))), (7, (.av (.one (.own 0 0 ((List.map E_kinfolkref09_Field.pv r)).length false)))), (8, (.av (.one (.own 1 0 ((List.map E_kinfolkref09_Field.pv r2)).length false)))), (9, (.av (.one (.pv (.int .u64 n))))), (10, (.av (.one (.own 2 0 (l2).length false)))), (11, (.av (.one (.pv (.int .u64 k))))), (35, (.av (.one (.pv (.bool (decide ((n3 : Int) = 0)))))))], [(0, [(.pv (.ints .u8 l false)), (.pv (.int .i64 n2)), (.pv (.int .i64 n3))])], [(0, (.live (.recs 3 (List.map E_kinfolkref09_Field.pv r)))), (1, (.live (.recs 3 (List.map E_kinfolkref09_Field.pv r2)))), (2, (.live (.ints .i64 l2)))]⟩, .k0 t_.pf (by kernel_rfl), ⟨⟨⟨_, rfl, .eq rfl⟩, ⟨_, rfl, .eq rfl⟩, ⟨_, rfl, .eq rfl⟩, ⟨_, rfl, .eq rfl⟩, trivial⟩, ⟨⟨rfl, ⟨.eq rfl, .eq rfl, .eq rfl, trivial⟩⟩, trivial⟩, ⟨⟨rfl, .eq rfl⟩, ⟨rfl, .eq rfl⟩, ⟨rfl, .eq rfl⟩, trivial⟩⟩⟩
 ·have h := some_of h
  subst h
  have t_ := tF h1 <| tF (rfl : false = false) <| tN
  exact ⟨t_.ev, ⟨[(35, (.av (.one (.pv (.bool false))))), (6, (.av (.one (.ref 0 0)))), (7, (.av (.one (.own 0 0 ((List.map E_kinfolkref09_Field.pv r)).length false)))), (8, (.av (.one (.own 1 0 ((List.map E_kinfolkref09_Field.pv r2)).length false)))), (9, (.av (.one (.pv (.int .u64 n))))), (10, (.av (.one (.own 2 0 (l2).length false)))), (11, (.av (.one (.pv (.int .u64 k))))), (35, (.av (.one (.pv (.bool false)))))], [(0, [(.pv (.ints .u8 l false)), (.pv (.int .i64 n2)), (.pv (.int .i64 n3))])], [(0, (.live (.recs 3 (List.map E_kinfolkref09_Field.pv r)))), (1, (.live (.recs 3 (List.map E_kinfolkref09_Field.pv r2)))), (2, (.live (.ints .i64 l2)))]⟩, .k0 t_.pf (by kernel_rfl), ⟨⟨⟨_, rfl, .eq rfl⟩, ⟨_, rfl, .eq rfl⟩, ⟨_, rfl, .eq rfl⟩, ⟨_, rfl, .eq rfl⟩, trivial⟩, ⟨⟨rfl, ⟨.eq rfl, .eq rfl, .eq rfl, trivial⟩⟩, trivial⟩, ⟨⟨rfl, .eq rfl⟩, ⟨rfl, .eq rfl⟩, ⟨rfl, .eq rfl⟩, trivial⟩⟩⟩
theorem kinfolkref10_ReadPatch_L0_2_runs (n : Int) (l : List Int) (r : List E_kinfolkref09_Field) (r2 : List E_kinfolkref09_Field) (s_ : Int × Int × Int × List Int) (r_ : Int × Int × List Int) (h : runL (kinfolkref10_ReadPatch_L0_2_step n l r r2) s_ = some r_) : LRuns Tryz.prog (lEnv Tryz.prog cfg 49 0).nt 0 (.loop (loopAt Tryz.prog 49 0)) (kinfolkref10_ReadPatch_L0_2_st n l r r2 s_) (kinfolkref10_ReadPatch_L0_2_ex n l r r2 r_).1 (kinfolkref10_ReadPatch_L0_2_ex n l r r2 r_).2 :=
 loop_run h (kinfolkref10_ReadPatch_L0_2_ok n l r r2) (by intro r_; rcases r_ with ⟨r1, r3, r4⟩ <;> simp [kinfolkref10_ReadPatch_L0_2_ex])
noncomputable def kinfolkref10_ReadPatch (p : List Int) : Option (List E_kinfolkref09_Field × List E_kinfolkref09_Field × List Int × Int) :=
 (kinfolkref10_some p 0 0).bind fun (n, n2, r) =>
 (kinfolkref10_some p n n2).bind fun (n3, n4, r2) =>
 (kinfolkref06_GetNum p n3 n4).bind fun (n5, n6, n7) =>
 bif (decide ((255 : Int) < n5)) then
  (kinfolkref06_Fail 9 p n6 n7).bind fun n8 =>
  (runL (kinfolkref10_ReadPatch_L0_2_step n5 p r r2) (0, n6, n8, [])).bind fun (n9, n10, l_) =>
  (kinfolkref06_End p n9 n10).bind fun (n11, n12) =>
  bif (decide ((n11 : Int) = 0)) then
   some ((List.take ((List.map E_kinfolkref09_Field.pv r)).length r), (List.take ((List.map E_kinfolkref09_Field.pv r2)).length r2), l_, 0)
  else
   some ([], [], [], n11)
 else
  (runL (kinfolkref10_ReadPatch_L0_2_step n5 p r r2) (0, n6, n7, [])).bind fun (n8, n9, l_) =>
  (kinfolkref06_End p n8 n9).bind fun (n10, n11) =>
  bif (decide ((n10 : Int) = 0)) then
   some ((List.take ((List.map E_kinfolkref09_Field.pv r)).length r), (List.take ((List.map E_kinfolkref09_Field.pv r2)).length r2), l_, 0)
  else
   some ([], [], [], n10)
theorem kinfolkref10_ReadPatch_runs (p : List Int) (r_ : List E_kinfolkref09_Field × List E_kinfolkref09_Field × List Int × Int) (h : kinfolkref10_ReadPatch p = some r_) : Runs Tryz.prog 49 [(.one (.pv (.ints .u8 p false)))] [] [] (kinfolkref10_ReadPatch_out p r_) := by
 unfold kinfolkref10_ReadPatch at h
 obtain ⟨⟨n, n2, r⟩, h1, h⟩ := bind_of h
 obtain ⟨⟨n3, n4, r2⟩, h2, h⟩ := bind_of h
 obtain ⟨⟨n5, n6, n7⟩, h3, h⟩ := bind_of h
 rcases cond_of h with ⟨h4, h⟩ | ⟨h4, h⟩
 ·obtain ⟨n8, h5, h⟩ := bind_of h
  obtain ⟨⟨n9, n10, l_⟩, h6, h⟩ := bind_of h
  have q_6 := (LRuns.coe (s0 := ⟨[(6, (.av (.one (.ref 0 0)))), (7, (.av (.one (.own 0 0 ((List.map E_kinfolkref09_Field.pv r)).length false)))), (8, (.av (.one (.own 1 0 ((List.map E_kinfolkref09_Field.pv r2)).length false)))), (9, (.av (.one (.pv (.int .u64 n5))))), (10, (.av (.one (.own 2 0 0 false)))), (11, (.av (.one (.pv (.int .u64 0)))))], [(0, [(.pv (.ints .u8 p false)), (.pv (.int .i64 n6)), (.pv (.int .i64 n8))])], [(0, (.live (.recs 3 (List.map E_kinfolkref09_Field.pv r)))), (1, (.live (.recs 3 (List.map E_kinfolkref09_Field.pv r2)))), (2, (.live (.ints .i64 [])))]⟩) (kinfolkref10_ReadPatch_L0_2_runs n5 p r r2 _ _ h6) ⟨⟨⟨_, rfl, .eq rfl⟩, ⟨_, rfl, .eq rfl⟩, ⟨_, rfl, .eq rfl⟩, ⟨_, rfl, .eq rfl⟩, ⟨_, rfl, .own (by first | rfl | (simp only [List.take_length, List.drop_zero, List.map_take, List.nil_append]; done) | (simp; done) | (simp only [E_card_Field.upd, E_kinfolkref09_Field.upd, E_L_card_Field.upd, E_card_Card.upd, E_card_Field.upd, E_kinfolkref09_Field.upd, E_L_card_Field.upd, E_card_Card.upd]; done) | (simp [E_card_Field.pv, E_kinfolkref09_Field.pv, E_L_card_Field.pv, E_card_Card.pv, E_card_Field.pv, E_kinfolkref09_Field.pv, E_L_card_Field.pv, E_card_Card.pv]; done) | (simp only [List.length_map, List.take_length, List.length_append, List.map_append, List.map_cons, List.map_nil, List.append_nil, List.nil_append, E_card_Field.pv, E_kinfolkref09_Field.pv, E_L_card_Field.pv, E_card_Card.pv, E_card_Field.pv, E_kinfolkref09_Field.pv, E_L_card_Field.pv, E_card_Card.pv]; done))⟩, ⟨_, rfl, .eq rfl⟩, trivial⟩, ⟨⟨rfl, ⟨.eq rfl, .eq rfl, .eq rfl, trivial⟩⟩, trivial⟩, ⟨⟨rfl, .eq rfl⟩, ⟨rfl, .eq rfl⟩, ⟨rfl, .eq rfl⟩, trivial⟩⟩)
  obtain ⟨⟨n11, n12⟩, h7, h⟩ := bind_of h
  rcases cond_of h with ⟨h8, h⟩ | ⟨h8, h⟩
  ·have h := some_of h
   subst h
   have t_ := tR (kinfolkref10_some_runs p 0 0 _ h1) <| tR (kinfolkref10_some_runs p n n2 _ h2) <| tR (kinfolkref06_GetNum_runs p n3 n4 _ h3) <| tT h4 <| tR (kinfolkref06_Fail_runs 9 p n6 n7 _ h5) <| tL q_6 <| tR (kinfolkref06_End_runs p n9 n10 _ h7) <| tF (not_of2 h8) <| tN
   have e_ : Runs Tryz.prog 49 [(.one (.pv (.ints .u8 p false)))] [] [] ([(.one (.own 0 0 ((List.map E_kinfolkref09_Field.pv r)).length false)), (.one (.own 1 0 ((List.map E_kinfolkref09_Field.pv r2)).length false)), (.one (.own 2 0 (l_).length false)), (.one (.pv (.int .i64 0)))], [], [(.recs 3 (List.map E_kinfolkref09_Field.pv r)), (.recs 3 (List.map E_kinfolkref09_Field.pv r2)), (.ints .i64 l_)]) := runs_of (C := cfg) (objs := []) (sc := t_.ev) (.k0 t_.pf (by kernel_rfl))
   have e_ := e_.shut (res' := ([(.one (.pv (.recs 3 (List.take ((List.map E_kinfolkref09_Field.pv r)).length (List.map E_kinfolkref09_Field.pv r)) false))), (.one (.pv (.recs 3 (List.take ((List.map E_kinfolkref09_Field.pv r2)).length (List.map E_kinfolkref09_Field.pv r2)) false))), (.one (.pv (.ints .i64 (List.take (l_).length l_) false))), (.one (.pv (.int .i64 0)))], [], [])) [0, 1, 2] (by kernel_rfl)
   exact e_.out ⟨.pv (.recsT (.eq (by first | rfl | (simp only [List.take_length, List.drop_zero, List.map_take, List.nil_append]; done) | (simp; done) | (simp only [E_card_Field.upd, E_kinfolkref09_Field.upd, E_L_card_Field.upd, E_card_Card.upd, E_card_Field.upd, E_kinfolkref09_Field.upd, E_L_card_Field.upd, E_card_Card.upd]; done) | (simp [E_card_Field.pv, E_kinfolkref09_Field.pv, E_L_card_Field.pv, E_card_Card.pv, E_card_Field.pv, E_kinfolkref09_Field.pv, E_L_card_Field.pv, E_card_Card.pv]; done) | (simp only [List.length_map, List.take_length, List.length_append, List.map_append, List.map_cons, List.map_nil, List.append_nil, List.nil_append, E_card_Field.pv, E_kinfolkref09_Field.pv, E_L_card_Field.pv, E_card_Card.pv, E_card_Field.pv, E_kinfolkref09_Field.pv, E_L_card_Field.pv, E_card_Card.pv]; done)))), .pv (.recsT (.eq (by first | rfl | (simp only [List.take_length, List.drop_zero, List.map_take, List.nil_append]; done) | (simp; done) | (simp only [E_card_Field.upd, E_kinfolkref09_Field.upd, E_L_card_Field.upd, E_card_Card.upd, E_card_Field.upd, E_kinfolkref09_Field.upd, E_L_card_Field.upd, E_card_Card.upd]; done) | (simp [E_card_Field.pv, E_kinfolkref09_Field.pv, E_L_card_Field.pv, E_card_Card.pv, E_card_Field.pv, E_kinfolkref09_Field.pv, E_L_card_Field.pv, E_card_Card.pv]; done) | (simp only [List.length_map, List.take_length, List.length_append, List.map_append, List.map_cons, List.map_nil, List.append_nil, List.nil_append, E_card_Field.pv, E_kinfolkref09_Field.pv, E_L_card_Field.pv, E_card_Card.pv, E_card_Field.pv, E_kinfolkref09_Field.pv, E_L_card_Field.pv, E_card_Card.pv]; done)))), .pv (.ints (by first | rfl | (simp only [List.take_length, List.drop_zero, List.map_take, List.nil_append]; done) | (simp; done) | (simp only [E_card_Field.upd, E_kinfolkref09_Field.upd, E_L_card_Field.upd, E_card_Card.upd, E_card_Field.upd, E_kinfolkref09_Field.upd, E_L_card_Field.upd, E_card_Card.upd]; done) | (simp [E_card_Field.pv, E_kinfolkref09_Field.pv, E_L_card_Field.pv, E_card_Card.pv, E_card_Field.pv, E_kinfolkref09_Field.pv, E_L_card_Field.pv, E_card_Card.pv]; done) | (simp only [List.length_map, List.take_length, List.length_append, List.map_append, List.map_cons, List.map_nil, List.append_nil, List.nil_append, E_card_Field.pv, E_kinfolkref09_Field.pv, E_L_card_Field.pv, E_card_Card.pv, E_card_Field.pv, E_kinfolkref09_Field.pv, E_L_card_Field.pv, E_card_Card.pv]; done))), .eq rfl, trivial⟩ trivial trivial rfl
  ·have h := some_of h
   subst h
   have t_ := tR (kinfolkref10_some_runs p 0 0 _ h1) <| tR (kinfolkref10_some_runs p n n2 _ h2) <| tR (kinfolkref06_GetNum_runs p n3 n4 _ h3) <| tT h4 <| tR (kinfolkref06_Fail_runs 9 p n6 n7 _ h5) <| tL q_6 <| tR (kinfolkref06_End_runs p n9 n10 _ h7) <| tT (not_of h8) <| tN
   have e_ : Runs Tryz.prog 49 [(.one (.pv (.ints .u8 p false)))] [] [] ([(.one (.pv .nils)), (.one (.pv .nils)), (.one (.pv .nils)), (.one (.pv (.int .i64 n11)))], [], []) := runs_of (C := cfg) (objs := []) (sc := t_.ev) (.k0 t_.pf (by kernel_rfl))
   exact e_.out ⟨.pv (.nilsR), .pv (.nilsR), .pv (.nilsI), .eq rfl, trivial⟩ trivial trivial rfl
 ·obtain ⟨⟨n8, n9, l_⟩, h5, h⟩ := bind_of h
  have q_5 := (LRuns.coe (s0 := ⟨[(6, (.av (.one (.ref 0 0)))), (7, (.av (.one (.own 0 0 ((List.map E_kinfolkref09_Field.pv r)).length false)))), (8, (.av (.one (.own 1 0 ((List.map E_kinfolkref09_Field.pv r2)).length false)))), (9, (.av (.one (.pv (.int .u64 n5))))), (10, (.av (.one (.own 2 0 0 false)))), (11, (.av (.one (.pv (.int .u64 0)))))], [(0, [(.pv (.ints .u8 p false)), (.pv (.int .i64 n6)), (.pv (.int .i64 n7))])], [(0, (.live (.recs 3 (List.map E_kinfolkref09_Field.pv r)))), (1, (.live (.recs 3 (List.map E_kinfolkref09_Field.pv r2)))), (2, (.live (.ints .i64 [])))]⟩) (kinfolkref10_ReadPatch_L0_2_runs n5 p r r2 _ _ h5) ⟨⟨⟨_, rfl, .eq rfl⟩, ⟨_, rfl, .eq rfl⟩, ⟨_, rfl, .eq rfl⟩, ⟨_, rfl, .eq rfl⟩, ⟨_, rfl, .own (by first | rfl | (simp only [List.take_length, List.drop_zero, List.map_take, List.nil_append]; done) | (simp; done) | (simp only [E_card_Field.upd, E_kinfolkref09_Field.upd, E_L_card_Field.upd, E_card_Card.upd, E_card_Field.upd, E_kinfolkref09_Field.upd, E_L_card_Field.upd, E_card_Card.upd]; done) | (simp [E_card_Field.pv, E_kinfolkref09_Field.pv, E_L_card_Field.pv, E_card_Card.pv, E_card_Field.pv, E_kinfolkref09_Field.pv, E_L_card_Field.pv, E_card_Card.pv]; done) | (simp only [List.length_map, List.take_length, List.length_append, List.map_append, List.map_cons, List.map_nil, List.append_nil, List.nil_append, E_card_Field.pv, E_kinfolkref09_Field.pv, E_L_card_Field.pv, E_card_Card.pv, E_card_Field.pv, E_kinfolkref09_Field.pv, E_L_card_Field.pv, E_card_Card.pv]; done))⟩, ⟨_, rfl, .eq rfl⟩, trivial⟩, ⟨⟨rfl, ⟨.eq rfl, .eq rfl, .eq rfl, trivial⟩⟩, trivial⟩, ⟨⟨rfl, .eq rfl⟩, ⟨rfl, .eq rfl⟩, ⟨rfl, .eq rfl⟩, trivial⟩⟩)
  obtain ⟨⟨n10, n11⟩, h6, h⟩ := bind_of h
  rcases cond_of h with ⟨h7, h⟩ | ⟨h7, h⟩
  ·have h := some_of h
   subst h
   have t_ := tR (kinfolkref10_some_runs p 0 0 _ h1) <| tR (kinfolkref10_some_runs p n n2 _ h2) <| tR (kinfolkref06_GetNum_runs p n3 n4 _ h3) <| tF h4 <| tL q_5 <| tR (kinfolkref06_End_runs p n8 n9 _ h6) <| tF (not_of2 h7) <| tN
   have e_ : Runs Tryz.prog 49 [(.one (.pv (.ints .u8 p false)))] [] [] ([(.one (.own 0 0 ((List.map E_kinfolkref09_Field.pv r)).length false)), (.one (.own 1 0 ((List.map E_kinfolkref09_Field.pv r2)).length false)), (.one (.own 2 0 (l_).length false)), (.one (.pv (.int .i64 0)))], [], [(.recs 3 (List.map E_kinfolkref09_Field.pv r)), (.recs 3 (List.map E_kinfolkref09_Field.pv r2)), (.ints .i64 l_)]) := runs_of (C := cfg) (objs := []) (sc := t_.ev) (.k0 t_.pf (by kernel_rfl))
   have e_ := e_.shut (res' := ([(.one (.pv (.recs 3 (List.take ((List.map E_kinfolkref09_Field.pv r)).length (List.map E_kinfolkref09_Field.pv r)) false))), (.one (.pv (.recs 3 (List.take ((List.map E_kinfolkref09_Field.pv r2)).length (List.map E_kinfolkref09_Field.pv r2)) false))), (.one (.pv (.ints .i64 (List.take (l_).length l_) false))), (.one (.pv (.int .i64 0)))], [], [])) [0, 1, 2] (by kernel_rfl)
   exact e_.out ⟨.pv (.recsT (.eq (by first | rfl | (simp only [List.take_length, List.drop_zero, List.map_take, List.nil_append]; done) | (simp; done) | (simp only [E_card_Field.upd, E_kinfolkref09_Field.upd, E_L_card_Field.upd, E_card_Card.upd, E_card_Field.upd, E_kinfolkref09_Field.upd, E_L_card_Field.upd, E_card_Card.upd]; done) | (simp [E_card_Field.pv, E_kinfolkref09_Field.pv, E_L_card_Field.pv, E_card_Card.pv, E_card_Field.pv, E_kinfolkref09_Field.pv, E_L_card_Field.pv, E_card_Card.pv]; done) | (simp only [List.length_map, List.take_length, List.length_append, List.map_append, List.map_cons, List.map_nil, List.append_nil, List.nil_append, E_card_Field.pv, E_kinfolkref09_Field.pv, E_L_card_Field.pv, E_card_Card.pv, E_card_Field.pv, E_kinfolkref09_Field.pv, E_L_card_Field.pv, E_card_Card.pv]; done)))), .pv (.recsT (.eq (by first | rfl | (simp only [List.take_length, List.drop_zero, List.map_take, List.nil_append]; done) | (simp; done) | (simp only [E_card_Field.upd, E_kinfolkref09_Field.upd, E_L_card_Field.upd, E_card_Card.upd, E_card_Field.upd, E_kinfolkref09_Field.upd, E_L_card_Field.upd, E_card_Card.upd]; done) | (simp [E_card_Field.pv, E_kinfolkref09_Field.pv, E_L_card_Field.pv, E_card_Card.pv, E_card_Field.pv, E_kinfolkref09_Field.pv, E_L_card_Field.pv, E_card_Card.pv]; done) | (simp only [List.length_map, List.take_length, List.length_append, List.map_append, List.map_cons, List.map_nil, List.append_nil, List.nil_append, E_card_Field.pv, E_kinfolkref09_Field.pv, E_L_card_Field.pv, E_card_Card.pv, E_card_Field.pv, E_kinfolkref09_Field.pv, E_L_card_Field.pv, E_card_Card.pv]; done)))), .pv (.ints (by first | rfl | (simp only [List.take_length, List.drop_zero, List.map_take, List.nil_append]; done) | (simp; done) | (simp only [E_card_Field.upd, E_kinfolkref09_Field.upd, E_L_card_Field.upd, E_card_Card.upd, E_card_Field.upd, E_kinfolkref09_Field.upd, E_L_card_Field.upd, E_card_Card.upd]; done) | (simp [E_card_Field.pv, E_kinfolkref09_Field.pv, E_L_card_Field.pv, E_card_Card.pv, E_card_Field.pv, E_kinfolkref09_Field.pv, E_L_card_Field.pv, E_card_Card.pv]; done) | (simp only [List.length_map, List.take_length, List.length_append, List.map_append, List.map_cons, List.map_nil, List.append_nil, List.nil_append, E_card_Field.pv, E_kinfolkref09_Field.pv, E_L_card_Field.pv, E_card_Card.pv, E_card_Field.pv, E_kinfolkref09_Field.pv, E_L_card_Field.pv, E_card_Card.pv]; done))), .eq rfl, trivial⟩ trivial trivial rfl
  ·have h := some_of h
   subst h
   have t_ := tR (kinfolkref10_some_runs p 0 0 _ h1) <| tR (kinfolkref10_some_runs p n n2 _ h2) <| tR (kinfolkref06_GetNum_runs p n3 n4 _ h3) <| tF h4 <| tL q_5 <| tR (kinfolkref06_End_runs p n8 n9 _ h6) <| tT (not_of h7) <| tN
   have e_ : Runs Tryz.prog 49 [(.one (.pv (.ints .u8 p false)))] [] [] ([(.one (.pv .nils)), (.one (.pv .nils)), (.one (.pv .nils)), (.one (.pv (.int .i64 n10)))], [], []) := runs_of (C := cfg) (objs := []) (sc := t_.ev) (.k0 t_.pf (by kernel_rfl))
   exact e_.out ⟨.pv (.nilsR), .pv (.nilsR), .pv (.nilsI), .eq rfl, trivial⟩ trivial trivial rfl
def slices_Equal_int_out (s1 : List Int) (s2 : List Int) : Bool → Res
 | r1 => ([(.one (.pv (.bool r1)))], [], [])
end Go.Proofs.YteiikkpajcggfaaGreatDoor
