/- What functions compute, and that they do. -/
import Derived.Test.YteiikkpajcggfaaGreatDoorA3
set_option linter.unusedVariables false
set_option linter.unusedSimpArgs false
set_option maxRecDepth 100000
namespace Go.Proofs.YteiikkpajcggfaaGreatDoor
open Go.Ev
def kinfolkref06_End_out (l : List Int) (n : Int) (n2 : Int) : Int × Int → Res
 | (r1, r2) => ([(.one (.pv (.int .i64 r1)))], [[(.pv (.ints .u8 l false)), (.pv (.int .i64 n)), (.pv (.int .i64 r2))]], [])
noncomputable def kinfolkref06_End (l : List Int) (n : Int) (n2 : Int) : Option (Int × Int) :=
 bif (decide ((n : Int) < ((l).length : Int))) then
  (kinfolkref06_Fail 6 l n n2).bind fun n3 =>
  some (n3, n3)
 else
  some (n2, n2)
theorem kinfolkref06_End_runs (l : List Int) (n : Int) (n2 : Int) (r_ : Int × Int) (h : kinfolkref06_End l n n2 = some r_) : Runs Tryz.prog 70 [(.one (.ref 0 0))] [[(.pv (.ints .u8 l false)), (.pv (.int .i64 n)), (.pv (.int .i64 n2))]] [] (kinfolkref06_End_out l n n2 r_) := by
 unfold kinfolkref06_End at h
 rcases cond_of h with ⟨h1, h⟩ | ⟨h1, h⟩
 ·obtain ⟨n3, h2, h⟩ := bind_of h
  have h := some_of h
  subst h
  have t_ := tT h1 <| tR (kinfolkref06_Fail_runs 6 l n n2 _ h2) <| tN
  exact runs_of (C := cfg) (objs := [[(.pv (.ints .u8 l false)), (.pv (.int .i64 n)), (.pv (.int .i64 n2))]]) (sc := t_.ev) (.k1 t_.pf (by kernel_rfl) (by kernel_rfl))
 ·have h := some_of h
  subst h
  have t_ := tF h1 <| tN
  exact runs_of (C := cfg) (objs := [[(.pv (.ints .u8 l false)), (.pv (.int .i64 n)), (.pv (.int .i64 n2))]]) (sc := t_.ev) (.k1 t_.pf (by kernel_rfl) (by kernel_rfl))
def kinfolklaw10_own_out (l : List E_card_Field) : List E_kinfolkref09_Field → Res
 | r1 => ([(.one (.own 0 0 ((List.map E_kinfolkref09_Field.pv r1)).length false))], [], [(.recs 3 (List.map E_kinfolkref09_Field.pv r1))])
def kinfolklaw10_own_L0_2_st (r : List E_card_Field) (n : Int) : Int × List E_kinfolkref09_Field → St
 | (n2, r2) => ⟨[(3, (.av (.one (.own 0 0 ((List.map E_kinfolkref09_Field.pv r2)).length false)))), (6, (.av (.one (.pv (.recs 3 (List.map E_card_Field.pv r) false))))), (7, (.av (.one (.pv (.int .i64 n))))), (8, (.av (.one (.pv (.int .i64 n2)))))], [], [(0, (.live (.recs 3 (List.map E_kinfolkref09_Field.pv r2))))]⟩
def kinfolklaw10_own_L0_2_ex (r : List E_card_Field) (n : Int) : List E_kinfolkref09_Field → Ex × St
 | r1 => ((.exit 0), ⟨[(3, (.av (.one (.own 0 0 ((List.map E_kinfolkref09_Field.pv r1)).length false))))], [], [(0, (.live (.recs 3 (List.map E_kinfolkref09_Field.pv r1))))]⟩)
noncomputable def kinfolklaw10_own_L0_2_step (r : List E_card_Field) (n : Int) : Int × List E_kinfolkref09_Field → Option ((Int × List E_kinfolkref09_Field) ⊕ (List E_kinfolkref09_Field))
 | (n2, r2) =>
 bif (decide ((n2 : Int) < n)) then
  bif decide ((0 : Int) ≤ n2) && decide ((n2 : Int) < (((List.map E_card_Field.pv r)).length : Int)) then
  (r[(n2).toNat]?).bind fun e_ => match e_ with
  | .mk n3 s s2 =>
  bif fits (((List.map E_kinfolkref09_Field.pv r2) ++ ([[(.int .i64 n3), (.str s), (.str s2)]] : List (List PV)))).length then
  some (.inl ((iadd .i64 n2 1), (r2 ++ [(E_kinfolkref09_Field.mk n3 s s2)])))
  else none
  else none
 else
  some (.inr r2)
theorem kinfolklaw10_own_L0_2_ok (r : List E_card_Field) (n : Int) (s_ : Int × List E_kinfolkref09_Field) (z_ : (Int × List E_kinfolkref09_Field) ⊕ (List E_kinfolkref09_Field)) (h : kinfolklaw10_own_L0_2_step r n s_ = some z_) : RoundOk Tryz.prog cfg 28 0 (loopAt Tryz.prog 28 0) (kinfolklaw10_own_L0_2_st r n) (kinfolklaw10_own_L0_2_ex r n) s_ z_ := by
 rcases s_ with ⟨n2, r2⟩
 rcases cond_of h with ⟨h1, h⟩ | ⟨h1, h⟩
 ·obtain ⟨h2, h⟩ := need_of h
  obtain ⟨⟨n3, s, s2⟩, h3, h⟩ := bind_of h
  obtain ⟨h4, h⟩ := need_of h
  have h := some_of h
  subst h
  have t_ := tT h1 <| tO h2 <| tE (.el [(.int .i64 n3), (.str s), (.str s2)]) <| tO (el_of (f := E_card_Field.pv) h3) <| tO (show (Nat.beq ((List.map E_kinfolkref09_Field.pv r2)).length ((List.map E_kinfolkref09_Field.pv r2)).length) = true from Nat.beq_refl _) <| tO h4 <| tN
  exact ⟨t_.ev, ⟨[(3, (.av (.one (.own 0 0 (((List.map E_kinfolkref09_Field.pv r2) ++ ([[(.int .i64 n3), (.str s), (.str s2)]] : List (List PV)))).length false)))), (6, (.av (.one (.pv (.recs 3 (List.map E_card_Field.pv r) false))))), (7, (.av (.one (.pv (.int .i64 n))))), (8, (.av (.one (.pv (.int .i64 (iadd .i64 n2 1))))))], [], [(0, (.live (.recs 3 ((List.map E_kinfolkref09_Field.pv r2) ++ ([[(.int .i64 n3), (.str s), (.str s2)]] : List (List PV))))))]⟩, .k0 t_.pf (by kernel_rfl), ⟨⟨⟨_, rfl, .own (by first | rfl | (simp only [List.take_length, List.drop_zero, List.map_take, List.nil_append]; done) | (simp; done) | (simp only [E_card_Field.upd, E_kinfolkref09_Field.upd, E_card_Field.upd, E_kinfolkref09_Field.upd]; done) | (simp [E_card_Field.pv, E_kinfolkref09_Field.pv, E_card_Field.pv, E_kinfolkref09_Field.pv]; done) | (simp only [List.length_map, List.take_length, List.length_append, List.map_append, List.map_cons, List.map_nil, List.append_nil, List.nil_append, E_card_Field.pv, E_kinfolkref09_Field.pv, E_card_Field.pv, E_kinfolkref09_Field.pv]; done))⟩, ⟨_, rfl, .eq rfl⟩, ⟨_, rfl, .eq rfl⟩, ⟨_, rfl, .eq rfl⟩, trivial⟩, trivial, ⟨⟨rfl, .recs (.app (.eq rfl) (.cons (.cons (.eq rfl) (.cons (.eq rfl) (.cons (.eq rfl) (.nil)))) (.nil)))⟩, trivial⟩⟩⟩
 ·have h := some_of h
  subst h
  have t_ := tF h1 <| tN
  exact ⟨t_.ev, ⟨[(9, (.av (.one (.pv (.bool false))))), (3, (.av (.one (.own 0 0 ((List.map E_kinfolkref09_Field.pv r2)).length false)))), (6, (.av (.one (.pv (.recs 3 (List.map E_card_Field.pv r) false))))), (7, (.av (.one (.pv (.int .i64 n))))), (8, (.av (.one (.pv (.int .i64 n2))))), (9, (.av (.one (.pv (.bool (decide ((n2 : Int) < n)))))))], [], [(0, (.live (.recs 3 (List.map E_kinfolkref09_Field.pv r2))))]⟩, .k0 t_.pf (by kernel_rfl), ⟨⟨⟨_, rfl, .eq rfl⟩, trivial⟩, trivial, ⟨⟨rfl, .eq rfl⟩, trivial⟩⟩⟩
theorem kinfolklaw10_own_L0_2_runs (r : List E_card_Field) (n : Int) (s_ : Int × List E_kinfolkref09_Field) (r_ : List E_kinfolkref09_Field) (h : runL (kinfolklaw10_own_L0_2_step r n) s_ = some r_) : LRuns Tryz.prog (lEnv Tryz.prog cfg 28 0).nt 0 (.loop (loopAt Tryz.prog 28 0)) (kinfolklaw10_own_L0_2_st r n s_) (kinfolklaw10_own_L0_2_ex r n r_).1 (kinfolklaw10_own_L0_2_ex r n r_).2 :=
 loop_run h (kinfolklaw10_own_L0_2_ok r n) (by intro r_; rcases r_ with r1 <;> simp [kinfolklaw10_own_L0_2_ex])
noncomputable def kinfolklaw10_own (l : List E_card_Field) : Option (List E_kinfolkref09_Field) :=
 (runL (kinfolklaw10_own_L0_2_step l (((List.map E_card_Field.pv l)).length : Int)) (0, [])).bind fun r =>
 some r
theorem kinfolklaw10_own_runs (l : List E_card_Field) (r_ : List E_kinfolkref09_Field) (h : kinfolklaw10_own l = some r_) : Runs Tryz.prog 28 [(.one (.pv (.recs 3 (List.map E_card_Field.pv l) false)))] [] [] (kinfolklaw10_own_out l r_) := by
 unfold kinfolklaw10_own at h
 obtain ⟨r, h1, h⟩ := bind_of h
 have h := some_of h
 subst h
 have t_ := tL (LRuns.coe (s0 := ⟨[(3, (.av (.one (.own 0 0 0 false)))), (6, (.av (.one (.pv (.recs 3 (List.map E_card_Field.pv l) false))))), (7, (.av (.one (.pv (.int .i64 (((List.map E_card_Field.pv l)).length : Int)))))), (8, (.av (.one (.pv (.int .i64 0)))))], [], [(0, (.live (.recs 3 [])))]⟩) (kinfolklaw10_own_L0_2_runs l (((List.map E_card_Field.pv l)).length : Int) _ _ h1) ⟨⟨⟨_, rfl, .own (by first | rfl | (simp only [List.take_length, List.drop_zero, List.map_take, List.nil_append]; done) | (simp; done) | (simp only [E_card_Field.upd, E_kinfolkref09_Field.upd, E_card_Field.upd, E_kinfolkref09_Field.upd]; done) | (simp [E_card_Field.pv, E_kinfolkref09_Field.pv, E_card_Field.pv, E_kinfolkref09_Field.pv]; done) | (simp only [List.length_map, List.take_length, List.length_append, List.map_append, List.map_cons, List.map_nil, List.append_nil, List.nil_append, E_card_Field.pv, E_kinfolkref09_Field.pv, E_card_Field.pv, E_kinfolkref09_Field.pv]; done))⟩, ⟨_, rfl, .eq rfl⟩, ⟨_, rfl, .eq rfl⟩, ⟨_, rfl, .eq rfl⟩, trivial⟩, trivial, ⟨⟨rfl, .recs (.nil)⟩, trivial⟩⟩) <| tN
 exact runs_of (C := cfg) (objs := []) (sc := t_.ev) (.k0 t_.pf (by kernel_rfl))
def kinfolkref09_Same_out (a : List E_kinfolkref09_Field) (b : List E_kinfolkref09_Field) : Bool → Res
 | r1 => ([(.one (.pv (.bool r1)))], [], [])
def kinfolkref09_Same_L0_st (a : List E_kinfolkref09_Field) (b : List E_kinfolkref09_Field) (n : Int) : Int → St
 | n2 => ⟨[(0, (.av (.one (.pv (.recs 3 (List.map E_kinfolkref09_Field.pv a) false))))), (1, (.av (.one (.pv (.recs 3 (List.map E_kinfolkref09_Field.pv b) false))))), (12, (.av (.one (.pv (.int .i64 n))))), (13, (.av (.one (.pv (.int .i64 n2)))))], [], []⟩
def kinfolkref09_Same_L0_ex (a : List E_kinfolkref09_Field) (b : List E_kinfolkref09_Field) (n : Int) : (Unit) ⊕ (Unit) → Ex × St
 | .inl _ => (.ret, ⟨[(4, (.av (.one (.pv (.bool false)))))], [], []⟩)
 | .inr _ => ((.exit 0), ⟨[], [], []⟩)
noncomputable def kinfolkref09_Same_L0_step (a : List E_kinfolkref09_Field) (b : List E_kinfolkref09_Field) (n : Int) : Int → Option ((Int) ⊕ ((Unit) ⊕ (Unit)))
 | n2 =>
 bif (decide ((n2 : Int) < n)) then
  bif decide ((0 : Int) ≤ n2) && decide ((n2 : Int) < (((List.map E_kinfolkref09_Field.pv a)).length : Int)) then
  (a[(n2).toNat]?).bind fun e_ => match e_ with
  | .mk n3 s s2 =>
  bif decide ((0 : Int) ≤ n2) && decide ((n2 : Int) < (((List.map E_kinfolkref09_Field.pv b)).length : Int)) then
  (b[(n2).toNat]?).bind fun e_ => match e_ with
  | .mk n4 s3 s4 =>
  bif ((decide ((n3 : Int) = n4)) && ((decide ((s : ByteArray) = s3)) && ((decide ((s2 : ByteArray) = s4)) && true))) then
   some (.inl (iadd .i64 n2 1))
  else
   some (.inr (.inl ()))
  else none
  else none
 else
  some (.inr (.inr ()))
theorem kinfolkref09_Same_L0_ok (a : List E_kinfolkref09_Field) (b : List E_kinfolkref09_Field) (n : Int) (n2 : Int) (z_ : (Int) ⊕ ((Unit) ⊕ (Unit))) (h : kinfolkref09_Same_L0_step a b n n2 = some z_) : RoundOk Tryz.prog cfg 18 0 (loopAt Tryz.prog 18 0) (kinfolkref09_Same_L0_st a b n) (kinfolkref09_Same_L0_ex a b n) n2 z_ := by
 rcases cond_of h with ⟨h1, h⟩ | ⟨h1, h⟩
 ·obtain ⟨h2, h⟩ := need_of h
  obtain ⟨⟨n3, s, s2⟩, h3, h⟩ := bind_of h
  obtain ⟨h4, h⟩ := need_of h
  obtain ⟨⟨n4, s3, s4⟩, h5, h⟩ := bind_of h
  rcases cond_of h with ⟨h6, h⟩ | ⟨h6, h⟩
  ·have h := some_of h
   subst h
   have t_ := tT h1 <| tO h2 <| tE (.el [(.int .i64 n3), (.str s), (.str s2)]) <| tO (el_of (f := E_kinfolkref09_Field.pv) h3) <| tO h4 <| tE (.el [(.int .i64 n4), (.str s3), (.str s4)]) <| tO (el_of (f := E_kinfolkref09_Field.pv) h5) <| tF (not_of2 h6) <| tN
   exact ⟨t_.ev, kinfolkref09_Same_L0_st a b n (iadd .i64 n2 1), .k0 t_.pf (by kernel_rfl), .same (by kernel_rfl)⟩
  ·have h := some_of h
   subst h
   have t_ := tT h1 <| tO h2 <| tE (.el [(.int .i64 n3), (.str s), (.str s2)]) <| tO (el_of (f := E_kinfolkref09_Field.pv) h3) <| tO h4 <| tE (.el [(.int .i64 n4), (.str s3), (.str s4)]) <| tO (el_of (f := E_kinfolkref09_Field.pv) h5) <| tT (not_of h6) <| tN
   exact ⟨t_.ev, (kinfolkref09_Same_L0_ex a b n (.inl ())).2, .k0 t_.pf (by kernel_rfl), .same (by kernel_rfl)⟩
 ·have h := some_of h
  subst h
  have t_ := tF h1 <| tN
  exact ⟨t_.ev, ⟨[(14, (.av (.one (.pv (.bool false))))), (0, (.av (.one (.pv (.recs 3 (List.map E_kinfolkref09_Field.pv a) false))))), (1, (.av (.one (.pv (.recs 3 (List.map E_kinfolkref09_Field.pv b) false))))), (12, (.av (.one (.pv (.int .i64 n))))), (13, (.av (.one (.pv (.int .i64 n2))))), (14, (.av (.one (.pv (.bool (decide ((n2 : Int) < n)))))))], [], []⟩, .k0 t_.pf (by kernel_rfl), ⟨trivial, trivial, trivial⟩⟩
theorem kinfolkref09_Same_L0_runs (a : List E_kinfolkref09_Field) (b : List E_kinfolkref09_Field) (n : Int) (s_ : Int) (r_ : (Unit) ⊕ (Unit)) (h : runL (kinfolkref09_Same_L0_step a b n) s_ = some r_) : LRuns Tryz.prog (lEnv Tryz.prog cfg 18 0).nt 0 (.loop (loopAt Tryz.prog 18 0)) (kinfolkref09_Same_L0_st a b n s_) (kinfolkref09_Same_L0_ex a b n r_).1 (kinfolkref09_Same_L0_ex a b n r_).2 :=
 loop_run h (kinfolkref09_Same_L0_ok a b n) (by intro r_; rcases r_ with _ | _ <;> simp [kinfolkref09_Same_L0_ex])
noncomputable def kinfolkref09_Same (a : List E_kinfolkref09_Field) (b : List E_kinfolkref09_Field) : Option (Bool) :=
 bif (decide (((((List.map E_kinfolkref09_Field.pv a)).length : Int) : Int) = (((List.map E_kinfolkref09_Field.pv b)).length : Int))) then
  (runL (kinfolkref09_Same_L0_step a b (((List.map E_kinfolkref09_Field.pv a)).length : Int)) 0).bind fun z_ => match z_ with
  | .inl _ =>
   some false
  | .inr _ =>
   some true
 else
  some false
theorem kinfolkref09_Same_runs (a : List E_kinfolkref09_Field) (b : List E_kinfolkref09_Field) (r_ : Bool) (h : kinfolkref09_Same a b = some r_) : Runs Tryz.prog 18 [(.one (.pv (.recs 3 (List.map E_kinfolkref09_Field.pv a) false))), (.one (.pv (.recs 3 (List.map E_kinfolkref09_Field.pv b) false)))] [] [] (kinfolkref09_Same_out a b r_) := by
 unfold kinfolkref09_Same at h
 rcases cond_of h with ⟨h1, h⟩ | ⟨h1, h⟩
 ·obtain ⟨z_, h2, h⟩ := bind_of h
  rcases z_ with _ | _
  ·have h := some_of h
   subst h
   have t_ := tF (not_of2 h1) <| tL (kinfolkref09_Same_L0_runs a b (((List.map E_kinfolkref09_Field.pv a)).length : Int) _ _ h2) <| tN
   exact runs_of (C := cfg) (objs := []) (sc := t_.ev) (.k0 t_.pf (by kernel_rfl))
  ·have h := some_of h
   subst h
   have t_ := tF (not_of2 h1) <| tL (kinfolkref09_Same_L0_runs a b (((List.map E_kinfolkref09_Field.pv a)).length : Int) _ _ h2) <| tN
   exact runs_of (C := cfg) (objs := []) (sc := t_.ev) (.k0 t_.pf (by kernel_rfl))
 ·have h := some_of h
  subst h
  have t_ := tT (not_of h1) <| tN
  exact runs_of (C := cfg) (objs := []) (sc := t_.ev) (.k0 t_.pf (by kernel_rfl))
def kinfolklaw10_few_out (l : List E_card_Field) : List E_card_Field → Res
 | r1 => ([(.one (.own 0 0 ((List.map E_card_Field.pv r1)).length false))], [], [(.recs 3 (List.map E_card_Field.pv r1))])
def kinfolklaw10_few_L0_2_st (r : List E_card_Field) (n : Int) : Int × List E_card_Field → St
 | (n2, r2) => ⟨[(3, (.av (.one (.own 0 0 ((List.map E_card_Field.pv r2)).length false)))), (6, (.av (.one (.pv (.recs 3 (List.map E_card_Field.pv r) false))))), (7, (.av (.one (.pv (.int .i64 n))))), (8, (.av (.one (.pv (.int .i64 n2)))))], [], [(0, (.live (.recs 3 (List.map E_card_Field.pv r2))))]⟩
def kinfolklaw10_few_L0_2_ex (r : List E_card_Field) (n : Int) : List E_card_Field → Ex × St
 | r1 => ((.exit 0), ⟨[(3, (.av (.one (.own 0 0 ((List.map E_card_Field.pv r1)).length false))))], [], [(0, (.live (.recs 3 (List.map E_card_Field.pv r1))))]⟩)
noncomputable def kinfolklaw10_few_L0_2_step (r : List E_card_Field) (n : Int) : Int × List E_card_Field → Option ((Int × List E_card_Field) ⊕ (List E_card_Field))
 | (n2, r2) =>
 bif (decide ((n2 : Int) < n)) then
  bif decide ((0 : Int) ≤ n2) && decide ((n2 : Int) < (((List.map E_card_Field.pv r)).length : Int)) then
  (r[(n2).toNat]?).bind fun e_ => match e_ with
  | .mk n3 s s2 =>
  bif (decide ((n2 : Int) < 14)) then
   bif decide ((0 : Int) ≤ 0) && decide ((0 : Int) ≤ (if (60 : Int) < (s.size : Int) then 60 else (s.size : Int))) && decide (((if (60 : Int) < (s.size : Int) then 60 else (s.size : Int)) : Int) ≤ (s.size : Int)) then
   bif decide ((0 : Int) ≤ 0) && decide ((0 : Int) ≤ (if (60 : Int) < (s2.size : Int) then 60 else (s2.size : Int))) && decide (((if (60 : Int) < (s2.size : Int) then 60 else (s2.size : Int)) : Int) ≤ (s2.size : Int)) then
   bif fits (((List.map E_card_Field.pv r2) ++ ([[(.int .i64 n3), (.str (s.extract 0 ((if (60 : Int) < (s.size : Int) then 60 else (s.size : Int))).toNat)), (.str (s2.extract 0 ((if (60 : Int) < (s2.size : Int) then 60 else (s2.size : Int))).toNat))]] : List (List PV)))).length then
   some (.inl ((iadd .i64 n2 1), (r2 ++ [(E_card_Field.mk n3 (s.extract 0 ((if (60 : Int) < (s.size : Int) then 60 else (s.size : Int))).toNat) (s2.extract 0 ((if (60 : Int) < (s2.size : Int) then 60 else (s2.size : Int))).toNat))])))
   else none
   else none
   else none
  else
   some (.inl ((iadd .i64 n2 1), r2))
  else none
 else
  some (.inr r2)
theorem kinfolklaw10_few_L0_2_ok (r : List E_card_Field) (n : Int) (s_ : Int × List E_card_Field) (z_ : (Int × List E_card_Field) ⊕ (List E_card_Field)) (h : kinfolklaw10_few_L0_2_step r n s_ = some z_) : RoundOk Tryz.prog cfg 43 0 (loopAt Tryz.prog 43 0) (kinfolklaw10_few_L0_2_st r n) (kinfolklaw10_few_L0_2_ex r n) s_ z_ := by
 rcases s_ with ⟨n2, r2⟩
 rcases cond_of h with ⟨h1, h⟩ | ⟨h1, h⟩
 ·obtain ⟨h2, h⟩ := need_of h
  obtain ⟨⟨n3, s, s2⟩, h3, h⟩ := bind_of h
  rcases cond_of h with ⟨h4, h⟩ | ⟨h4, h⟩
  ·obtain ⟨h5, h⟩ := need_of h
   obtain ⟨h6, h⟩ := need_of h
   obtain ⟨h7, h⟩ := need_of h
   have h := some_of h
   subst h
   have t_ := tT h1 <| tO h2 <| tE (.el [(.int .i64 n3), (.str s), (.str s2)]) <| tO (el_of (f := E_card_Field.pv) h3) <| tT h4 <| tO h5 <| tO h6 <| tO h6 <| tO h5 <| tO h5 <| tO h6 <| tO h5 <| tO h6 <| tO (show (Nat.beq ((List.map E_card_Field.pv r2)).length ((List.map E_card_Field.pv r2)).length) = true from Nat.beq_refl _) <| tO h7 <| tN
   exact ⟨t_.ev, ⟨[(3, (.av (.one (.own 0 0 (((List.map E_card_Field.pv r2) ++ ([[(.int .i64 n3), (.str (s.extract 0 ((if (60 : Int) < (s.size : Int) then 60 else (s.size : Int))).toNat)), (.str (s2.extract 0 ((if (60 : Int) < (s2.size : Int) then 60 else (s2.size : Int))).toNat))]] : List (List PV)))).length false)))), (6, (.av (.one (.pv (.recs 3 (List.map E_card_Field.pv r) false))))), (7, (.av (.one (.pv (.int .i64 n))))), (8, (.av (.one (.pv (.int .i64 (iadd .i64 n2 1))))))], [], [(0, (.live (.recs 3 ((List.map E_card_Field.pv r2) ++ ([[(.int .i64 n3), (.str (s.extract 0 ((if (60 : Int) < (s.size : Int) then 60 else (s.size : Int))).toNat)), (.str (s2.extract 0 ((if (60 : Int) < (s2.size : Int) then 60 else (s2.size : Int))).toNat))]] : List (List PV))))))]⟩, .k1 t_.pf (by kernel_rfl) (by kernel_rfl), ⟨⟨⟨_, rfl, .own (by first | rfl | (simp only [List.take_length, List.drop_zero, List.map_take, List.nil_append]; done) | (simp; done) | (simp only [E_card_Field.upd, E_kinfolkref09_Field.upd, E_L_card_Field.upd, E_card_Card.upd, E_card_Field.upd, E_kinfolkref09_Field.upd, E_L_card_Field.upd, E_card_Card.upd]; done) | (simp [E_card_Field.pv, E_kinfolkref09_Field.pv, E_L_card_Field.pv, E_card_Card.pv, E_card_Field.pv, E_kinfolkref09_Field.pv, E_L_card_Field.pv, E_card_Card.pv]; done) | (simp only [List.length_map, List.take_length, List.length_append, List.map_append, List.map_cons, List.map_nil, List.append_nil, List.nil_append, E_card_Field.pv, E_kinfolkref09_Field.pv, E_L_card_Field.pv, E_card_Card.pv, E_card_Field.pv, E_kinfolkref09_Field.pv, E_L_card_Field.pv, E_card_Card.pv]; done))⟩, ⟨_, rfl, .eq rfl⟩, ⟨_, rfl, .eq rfl⟩, ⟨_, rfl, .eq rfl⟩, trivial⟩, trivial, ⟨⟨rfl, .recs (.app (.eq rfl) (.cons (.cons (.eq rfl) (.cons (.eq rfl) (.cons (.eq rfl) (.nil)))) (.nil)))⟩, trivial⟩⟩⟩
  ·have h := some_of h
   subst h
   have t_ := tT h1 <| tO h2 <| tE (.el [(.int .i64 n3), (.str s), (.str s2)]) <| tO (el_of (f := E_card_Field.pv) h3) <| tF h4 <| tN
   exact ⟨t_.ev, kinfolklaw10_few_L0_2_st r n ((iadd .i64 n2 1), r2), .k0 t_.pf (by kernel_rfl), .same (by kernel_rfl)⟩
 ·have h := some_of h
  subst h
  have t_ := tF h1 <| tN
  exact ⟨t_.ev, ⟨[(9, (.av (.one (.pv (.bool false))))), (3, (.av (.one (.own 0 0 ((List.map E_card_Field.pv r2)).length false)))), (6, (.av (.one (.pv (.recs 3 (List.map E_card_Field.pv r) false))))), (7, (.av (.one (.pv (.int .i64 n))))), (8, (.av (.one (.pv (.int .i64 n2))))), (9, (.av (.one (.pv (.bool (decide ((n2 : Int) < n)))))))], [], [(0, (.live (.recs 3 (List.map E_card_Field.pv r2))))]⟩, .k0 t_.pf (by kernel_rfl), ⟨⟨⟨_, rfl, .eq rfl⟩, trivial⟩, trivial, ⟨⟨rfl, .eq rfl⟩, trivial⟩⟩⟩
theorem kinfolklaw10_few_L0_2_runs (r : List E_card_Field) (n : Int) (s_ : Int × List E_card_Field) (r_ : List E_card_Field) (h : runL (kinfolklaw10_few_L0_2_step r n) s_ = some r_) : LRuns Tryz.prog (lEnv Tryz.prog cfg 43 0).nt 0 (.loop (loopAt Tryz.prog 43 0)) (kinfolklaw10_few_L0_2_st r n s_) (kinfolklaw10_few_L0_2_ex r n r_).1 (kinfolklaw10_few_L0_2_ex r n r_).2 :=
 loop_run h (kinfolklaw10_few_L0_2_ok r n) (by intro r_; rcases r_ with r1 <;> simp [kinfolklaw10_few_L0_2_ex])
noncomputable def kinfolklaw10_few (l : List E_card_Field) : Option (List E_card_Field) :=
 (runL (kinfolklaw10_few_L0_2_step l (((List.map E_card_Field.pv l)).length : Int)) (0, [])).bind fun r =>
 some r
theorem kinfolklaw10_few_runs (l : List E_card_Field) (r_ : List E_card_Field) (h : kinfolklaw10_few l = some r_) : Runs Tryz.prog 43 [(.one (.pv (.recs 3 (List.map E_card_Field.pv l) false)))] [] [] (kinfolklaw10_few_out l r_) := by
 unfold kinfolklaw10_few at h
 obtain ⟨r, h1, h⟩ := bind_of h
 have h := some_of h
 subst h
 have t_ := tL (LRuns.coe (s0 := ⟨[(3, (.av (.one (.own 0 0 0 false)))), (6, (.av (.one (.pv (.recs 3 (List.map E_card_Field.pv l) false))))), (7, (.av (.one (.pv (.int .i64 (((List.map E_card_Field.pv l)).length : Int)))))), (8, (.av (.one (.pv (.int .i64 0)))))], [], [(0, (.live (.recs 3 [])))]⟩) (kinfolklaw10_few_L0_2_runs l (((List.map E_card_Field.pv l)).length : Int) _ _ h1) ⟨⟨⟨_, rfl, .own (by first | rfl | (simp only [List.take_length, List.drop_zero, List.map_take, List.nil_append]; done) | (simp; done) | (simp only [E_card_Field.upd, E_kinfolkref09_Field.upd, E_L_card_Field.upd, E_card_Card.upd, E_card_Field.upd, E_kinfolkref09_Field.upd, E_L_card_Field.upd, E_card_Card.upd]; done) | (simp [E_card_Field.pv, E_kinfolkref09_Field.pv, E_L_card_Field.pv, E_card_Card.pv, E_card_Field.pv, E_kinfolkref09_Field.pv, E_L_card_Field.pv, E_card_Card.pv]; done) | (simp only [List.length_map, List.take_length, List.length_append, List.map_append, List.map_cons, List.map_nil, List.append_nil, List.nil_append, E_card_Field.pv, E_kinfolkref09_Field.pv, E_L_card_Field.pv, E_card_Card.pv, E_card_Field.pv, E_kinfolkref09_Field.pv, E_L_card_Field.pv, E_card_Card.pv]; done))⟩, ⟨_, rfl, .eq rfl⟩, ⟨_, rfl, .eq rfl⟩, ⟨_, rfl, .eq rfl⟩, trivial⟩, trivial, ⟨⟨rfl, .recs (.nil)⟩, trivial⟩⟩) <| tN
 exact runs_of (C := cfg) (objs := []) (sc := t_.ev) (.k0 t_.pf (by kernel_rfl))
end Go.Proofs.YteiikkpajcggfaaGreatDoor
