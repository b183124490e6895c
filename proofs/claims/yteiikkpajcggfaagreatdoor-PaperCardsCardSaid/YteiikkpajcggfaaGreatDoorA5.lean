/- What functions compute, and that they do. -/
import Derived.Test.YteiikkpajcggfaaGreatDoorA4
set_option linter.unusedVariables false
set_option linter.unusedSimpArgs false
set_option maxRecDepth 100000
namespace Go.Proofs.YteiikkpajcggfaaGreatDoor
open Go.Ev
noncomputable def kinfolkref09_Put (l : List E_kinfolkref09_Field) (f : Int) (f2 : ByteArray) (f3 : ByteArray) : Option (List E_kinfolkref09_Field) :=
 (kinfolkref09_Has l f f2 f3).bind fun b =>
 bif b then
  some l
 else
  (runL (kinfolkref09_Put_L0_2_step l (((List.map E_kinfolkref09_Field.pv l)).length : Int) f f2 f3) (false, 0, [])).bind fun (b2, r) =>
  bif b2 then
   some (List.take ((List.map E_kinfolkref09_Field.pv r)).length r)
  else
   bif fits (((List.map E_kinfolkref09_Field.pv r) ++ ([[(.int .i64 f), (.str f2), (.str f3)]] : List (List PV)))).length then
   some (List.take (((List.map E_kinfolkref09_Field.pv r) ++ ([[(.int .i64 f), (.str f2), (.str f3)]] : List (List PV)))).length (r ++ [(E_kinfolkref09_Field.mk f f2 f3)]))
   else none
theorem kinfolkref09_Put_runs (l : List E_kinfolkref09_Field) (f : Int) (f2 : ByteArray) (f3 : ByteArray) (r_ : List E_kinfolkref09_Field) (h : kinfolkref09_Put l f f2 f3 = some r_) : Runs Tryz.prog 60 [(.one (.pv (.recs 3 (List.map E_kinfolkref09_Field.pv l) false))), (.agg [(.pv (.int .i64 f)), (.pv (.str f2)), (.pv (.str f3))])] [] [] (kinfolkref09_Put_out l f f2 f3 r_) := by
 unfold kinfolkref09_Put at h
 obtain ⟨b, h1, h⟩ := bind_of h
 rcases cond_of h with ⟨h2, h⟩ | ⟨h2, h⟩
 ·have h := some_of h
  subst h
  have t_ := tR (kinfolkref09_Has_runs l f f2 f3 _ h1) <| tT h2 <| tN
  exact runs_of (C := cfg) (objs := []) (sc := t_.ev) (.k0 t_.pf (by kernel_rfl))
 ·obtain ⟨⟨b2, r⟩, h3, h⟩ := bind_of h
  have q_3 := (LRuns.coe (s0 := ⟨[(3, (.av (.one (.ref 0 0)))), (5, (.av (.one (.own 0 0 0 false)))), (6, (.av (.one (.pv (.bool false))))), (13, (.av (.one (.pv (.recs 3 (List.map E_kinfolkref09_Field.pv l) false))))), (14, (.av (.one (.pv (.int .i64 (((List.map E_kinfolkref09_Field.pv l)).length : Int)))))), (15, (.av (.one (.pv (.int .i64 0)))))], [(0, [(.pv (.int .i64 f)), (.pv (.str f2)), (.pv (.str f3))])], [(0, (.live (.recs 3 [])))]⟩) (kinfolkref09_Put_L0_2_runs l (((List.map E_kinfolkref09_Field.pv l)).length : Int) f f2 f3 _ _ h3) ⟨⟨⟨_, rfl, .eq rfl⟩, ⟨_, rfl, .own (by first | rfl | (simp only [List.take_length, List.drop_zero, List.map_take, List.nil_append]; done) | (simp; done) | (simp only [E_card_Field.upd, E_kinfolkref09_Field.upd, E_L_card_Field.upd, E_card_Card.upd]; done) | (simp [E_card_Field.pv, E_kinfolkref09_Field.pv, E_L_card_Field.pv, E_card_Card.pv]; done))⟩, ⟨_, rfl, .eq rfl⟩, ⟨_, rfl, .eq rfl⟩, ⟨_, rfl, .eq rfl⟩, ⟨_, rfl, .eq rfl⟩, trivial⟩, ⟨⟨rfl, ⟨.eq rfl, .eq rfl, .eq rfl, trivial⟩⟩, trivial⟩, ⟨⟨rfl, .recs (.nil)⟩, trivial⟩⟩)
  rcases cond_of h with ⟨h4, h⟩ | ⟨h4, h⟩
  ·have h := some_of h
   subst h
   have t_ := tR (kinfolkref09_Has_runs l f f2 f3 _ h1) <| tF h2 <| tL q_3 <| tF (not_of2 h4) <| tN
   have e_ : Runs Tryz.prog 60 [(.one (.pv (.recs 3 (List.map E_kinfolkref09_Field.pv l) false))), (.agg [(.pv (.int .i64 f)), (.pv (.str f2)), (.pv (.str f3))])] [] [] ([(.one (.own 0 0 ((List.map E_kinfolkref09_Field.pv r)).length false))], [], [(.recs 3 (List.map E_kinfolkref09_Field.pv r))]) := runs_of (C := cfg) (objs := []) (sc := t_.ev) (.k0 t_.pf (by kernel_rfl))
   have e_ := e_.shut (res' := ([(.one (.pv (.recs 3 (List.take ((List.map E_kinfolkref09_Field.pv r)).length (List.map E_kinfolkref09_Field.pv r)) false)))], [], [])) [0] (by kernel_rfl)
   exact e_.out ⟨.pv (.recsT (.eq (by first | rfl | (simp only [List.take_length, List.drop_zero, List.map_take, List.nil_append]; done) | (simp; done) | (simp only [E_card_Field.upd, E_kinfolkref09_Field.upd, E_L_card_Field.upd, E_card_Card.upd]; done) | (simp [E_card_Field.pv, E_kinfolkref09_Field.pv, E_L_card_Field.pv, E_card_Card.pv]; done)))), trivial⟩ trivial trivial rfl
  ·obtain ⟨h5, h⟩ := need_of h
   have h := some_of h
   subst h
   have t_ := tR (kinfolkref09_Has_runs l f f2 f3 _ h1) <| tF h2 <| tL q_3 <| tT (not_of h4) <| tO (show (Nat.beq ((List.map E_kinfolkref09_Field.pv r)).length ((List.map E_kinfolkref09_Field.pv r)).length) = true from Nat.beq_refl _) <| tO h5 <| tN
   have e_ : Runs Tryz.prog 60 [(.one (.pv (.recs 3 (List.map E_kinfolkref09_Field.pv l) false))), (.agg [(.pv (.int .i64 f)), (.pv (.str f2)), (.pv (.str f3))])] [] [] ([(.one (.own 0 0 (((List.map E_kinfolkref09_Field.pv r) ++ ([[(.int .i64 f), (.str f2), (.str f3)]] : List (List PV)))).length false))], [], [(.recs 3 ((List.map E_kinfolkref09_Field.pv r) ++ ([[(.int .i64 f), (.str f2), (.str f3)]] : List (List PV))))]) := runs_of (C := cfg) (objs := []) (sc := t_.ev) (.k0 t_.pf (by kernel_rfl))
   have e_ := e_.shut (res' := ([(.one (.pv (.recs 3 (List.take (((List.map E_kinfolkref09_Field.pv r) ++ ([[(.int .i64 f), (.str f2), (.str f3)]] : List (List PV)))).length ((List.map E_kinfolkref09_Field.pv r) ++ ([[(.int .i64 f), (.str f2), (.str f3)]] : List (List PV)))) false)))], [], [])) [0] (by kernel_rfl)
   exact e_.out ⟨.pv (.recsT (.eq (by first | rfl | (simp only [List.take_length, List.drop_zero, List.map_take, List.nil_append]; done) | (simp; done) | (simp only [E_card_Field.upd, E_kinfolkref09_Field.upd, E_L_card_Field.upd, E_card_Card.upd]; done) | (simp [E_card_Field.pv, E_kinfolkref09_Field.pv, E_L_card_Field.pv, E_card_Card.pv]; done)))), trivial⟩ trivial trivial rfl
def kinfolkref09_Make_L0_st (r : List E_kinfolkref09_Field) (n : Int) : (Unit) ⊕ (List E_kinfolkref09_Field × Int) → St
 | .inl _ => ⟨[(4, (.av (.one (.pv .nils)))), (8, (.av (.one (.pv (.recs 3 (List.map E_kinfolkref09_Field.pv r) false))))), (9, (.av (.one (.pv (.int .i64 n))))), (10, (.av (.one (.pv (.int .i64 0)))))], [], []⟩
 | .inr (r2, n2) => ⟨[(4, (.av (.one (.pv (.recs 3 (List.map E_kinfolkref09_Field.pv r2) false))))), (8, (.av (.one (.pv (.recs 3 (List.map E_kinfolkref09_Field.pv r) false))))), (9, (.av (.one (.pv (.int .i64 n))))), (10, (.av (.one (.pv (.int .i64 n2)))))], [], []⟩
def kinfolkref09_Make_L0_ex (r : List E_kinfolkref09_Field) (n : Int) : (Int) ⊕ ((Unit) ⊕ (List E_kinfolkref09_Field)) → Ex × St
 | .inl r1 => (.ret, ⟨[(2, (.av (.one (.pv .nils)))), (3, (.av (.one (.pv (.int .i64 r1)))))], [], []⟩)
 | .inr (.inl _) => ((.exit 0), ⟨[(4, (.av (.one (.pv .nils))))], [], []⟩)
 | .inr (.inr r1) => ((.exit 0), ⟨[(4, (.av (.one (.pv (.recs 3 (List.map E_kinfolkref09_Field.pv r1) false)))))], [], []⟩)
noncomputable def kinfolkref09_Make_L0_step (N : Nat) (r : List E_kinfolkref09_Field) (n : Int) : (Unit) ⊕ (List E_kinfolkref09_Field × Int) → Option (((Unit) ⊕ (List E_kinfolkref09_Field × Int)) ⊕ ((Int) ⊕ ((Unit) ⊕ (List E_kinfolkref09_Field))))
 | .inl _ =>
  bif (decide ((0 : Int) < n)) then
   bif decide ((0 : Int) ≤ 0) && decide ((0 : Int) < (((List.map E_kinfolkref09_Field.pv r)).length : Int)) then
   (r[0]?).bind fun e_ => match e_ with
   | .mk n2 s s2 =>
   (kinfolkref09_Right N n2 s s2).bind fun n3 =>
   bif (decide ((n3 : Int) = 0)) then
    (kinfolkref09_Put [] n2 s s2).bind fun r2 =>
    some (.inl (.inr (r2, 1)))
   else
    some (.inr (.inl n3))
   else none
  else
   some (.inr (.inr (.inl ())))
 | .inr (r2, n2) =>
  bif (decide ((n2 : Int) < n)) then
   bif decide ((0 : Int) ≤ n2) && decide ((n2 : Int) < (((List.map E_kinfolkref09_Field.pv r)).length : Int)) then
   (r[(n2).toNat]?).bind fun e_ => match e_ with
   | .mk n3 s s2 =>
   (kinfolkref09_Right N n3 s s2).bind fun n4 =>
   bif (decide ((n4 : Int) = 0)) then
    (kinfolkref09_Put r2 n3 s s2).bind fun r3 =>
    some (.inl (.inr (r3, (iadd .i64 n2 1))))
   else
    some (.inr (.inl n4))
   else none
  else
   some (.inr (.inr (.inr r2)))
theorem kinfolkref09_Make_L0_ok (N : Nat) (r : List E_kinfolkref09_Field) (n : Int) (s_ : (Unit) ⊕ (List E_kinfolkref09_Field × Int)) (z_ : ((Unit) ⊕ (List E_kinfolkref09_Field × Int)) ⊕ ((Int) ⊕ ((Unit) ⊕ (List E_kinfolkref09_Field)))) (h : kinfolkref09_Make_L0_step N r n s_ = some z_) : RoundOk Tryz.prog cfg 53 0 (loopAt Tryz.prog 53 0) (kinfolkref09_Make_L0_st r n) (kinfolkref09_Make_L0_ex r n) s_ z_ := by
 rcases s_ with _ | ⟨r2, n2⟩
 ·rcases cond_of h with ⟨h1, h⟩ | ⟨h1, h⟩
  ·obtain ⟨h2, h⟩ := need_of h
   obtain ⟨⟨n2, s, s2⟩, h3, h⟩ := bind_of h
   obtain ⟨n3, h4, h⟩ := bind_of h
   rcases cond_of h with ⟨h5, h⟩ | ⟨h5, h⟩
   ·obtain ⟨r2, h6, h⟩ := bind_of h
    have h := some_of h
    subst h
    have t_ := tT h1 <| tO h2 <| tE (.el [(.int .i64 n2), (.str s), (.str s2)]) <| tO (el_of (f := E_kinfolkref09_Field.pv) h3) <| tR (kinfolkref09_Right_runs N n2 s s2 _ h4) <| tF (not_of2 h5) <| tR (Runs.coe (as' := [(.one (.pv .nils)), (.agg [(.pv (.int .i64 n2)), (.pv (.str s)), (.pv (.str s2))])]) (objs' := []) (rows' := []) (kinfolkref09_Put_runs [] n2 s s2 _ h6) ⟨.pv (.nilsR), ⟨.eq rfl, .eq rfl, .eq rfl, trivial⟩, trivial⟩ trivial trivial) <| tN
    exact ⟨t_.ev, kinfolkref09_Make_L0_st r n (.inr (r2, 1)), .k0 t_.pf (by kernel_rfl), .same (by kernel_rfl)⟩
   ·have h := some_of h
    subst h
    have t_ := tT h1 <| tO h2 <| tE (.el [(.int .i64 n2), (.str s), (.str s2)]) <| tO (el_of (f := E_kinfolkref09_Field.pv) h3) <| tR (kinfolkref09_Right_runs N n2 s s2 _ h4) <| tT (not_of h5) <| tN
    exact ⟨t_.ev, (kinfolkref09_Make_L0_ex r n (.inl n3)).2, .k0 t_.pf (by kernel_rfl), .same (by kernel_rfl)⟩
  ·have h := some_of h
   subst h
   have t_ := tF h1 <| tN
   exact ⟨t_.ev, ⟨[(11, (.av (.one (.pv (.bool false))))), (4, (.av (.one (.pv .nils)))), (8, (.av (.one (.pv (.recs 3 (List.map E_kinfolkref09_Field.pv r) false))))), (9, (.av (.one (.pv (.int .i64 n))))), (10, (.av (.one (.pv (.int .i64 0))))), (11, (.av (.one (.pv (.bool (decide ((0 : Int) < n)))))))], [], []⟩, .k0 t_.pf (by kernel_rfl), ⟨⟨⟨_, rfl, .eq rfl⟩, trivial⟩, trivial, trivial⟩⟩
 ·rcases cond_of h with ⟨h1, h⟩ | ⟨h1, h⟩
  ·obtain ⟨h2, h⟩ := need_of h
   obtain ⟨⟨n3, s, s2⟩, h3, h⟩ := bind_of h
   obtain ⟨n4, h4, h⟩ := bind_of h
   rcases cond_of h with ⟨h5, h⟩ | ⟨h5, h⟩
   ·obtain ⟨r3, h6, h⟩ := bind_of h
    have h := some_of h
    subst h
    have t_ := tT h1 <| tO h2 <| tE (.el [(.int .i64 n3), (.str s), (.str s2)]) <| tO (el_of (f := E_kinfolkref09_Field.pv) h3) <| tR (kinfolkref09_Right_runs N n3 s s2 _ h4) <| tF (not_of2 h5) <| tR (kinfolkref09_Put_runs r2 n3 s s2 _ h6) <| tN
    exact ⟨t_.ev, kinfolkref09_Make_L0_st r n (.inr (r3, (iadd .i64 n2 1))), .k0 t_.pf (by kernel_rfl), .same (by kernel_rfl)⟩
   ·have h := some_of h
    subst h
    have t_ := tT h1 <| tO h2 <| tE (.el [(.int .i64 n3), (.str s), (.str s2)]) <| tO (el_of (f := E_kinfolkref09_Field.pv) h3) <| tR (kinfolkref09_Right_runs N n3 s s2 _ h4) <| tT (not_of h5) <| tN
    exact ⟨t_.ev, (kinfolkref09_Make_L0_ex r n (.inl n4)).2, .k0 t_.pf (by kernel_rfl), .same (by kernel_rfl)⟩
  ·have h := some_of h
   subst h
   have t_ := tF h1 <| tN
   exact ⟨t_.ev, ⟨[(11, (.av (.one (.pv (.bool false))))), (4, (.av (.one (.pv (.recs 3 (List.map E_kinfolkref09_Field.pv r2) false))))), (8, (.av (.one (.pv (.recs 3 (List.map E_kinfolkref09_Field.pv r) false))))), (9, (.av (.one (.pv (.int .i64 n))))), (10, (.av (.one (.pv (.int .i64 n2))))), (11, (.av (.one (.pv (.bool (decide ((n2 : Int) < n)))))))], [], []⟩, .k0 t_.pf (by kernel_rfl), ⟨⟨⟨_, rfl, .eq rfl⟩, trivial⟩, trivial, trivial⟩⟩
theorem kinfolkref09_Make_L0_runs (N : Nat) (r : List E_kinfolkref09_Field) (n : Int) (s_ : (Unit) ⊕ (List E_kinfolkref09_Field × Int)) (r_ : (Int) ⊕ ((Unit) ⊕ (List E_kinfolkref09_Field))) (h : runL (kinfolkref09_Make_L0_step N r n) s_ = some r_) : LRuns Tryz.prog (lEnv Tryz.prog cfg 53 0).nt 0 (.loop (loopAt Tryz.prog 53 0)) (kinfolkref09_Make_L0_st r n s_) (kinfolkref09_Make_L0_ex r n r_).1 (kinfolkref09_Make_L0_ex r n r_).2 :=
 loop_run h (kinfolkref09_Make_L0_ok N r n) (by intro r_; rcases r_ with r1 | (_ | r1) <;> simp [kinfolkref09_Make_L0_ex])
noncomputable def kinfolkref09_Make (N : Nat) (l : List E_kinfolkref09_Field) : Option (List E_kinfolkref09_Field × Int) :=
 (runL (kinfolkref09_Make_L0_step N l (((List.map E_kinfolkref09_Field.pv l)).length : Int)) (.inl ())).bind fun z_ => match z_ with
 | .inl n =>
  some ([], n)
 | .inr (.inl _) =>
  some ([], 0)
 | .inr (.inr r) =>
  bif (decide ((8 : Int) < (((List.map E_kinfolkref09_Field.pv r)).length : Int))) then
   some ([], 8)
  else
   some (r, 0)
theorem kinfolkref09_Make_runs (N : Nat) (l : List E_kinfolkref09_Field) (r_ : List E_kinfolkref09_Field × Int) (h : kinfolkref09_Make N l = some r_) : Runs Tryz.prog 53 [(.one (.pv (.recs 3 (List.map E_kinfolkref09_Field.pv l) false)))] [] [] (kinfolkref09_Make_out l r_) := by
 unfold kinfolkref09_Make at h
 obtain ⟨z_, h1, h⟩ := bind_of h
 rcases z_ with n | (_ | r)
 ·have h := some_of h
  subst h
  have t_ := tL (kinfolkref09_Make_L0_runs N l (((List.map E_kinfolkref09_Field.pv l)).length : Int) _ _ h1) <| tN
  have e_ : Runs Tryz.prog 53 [(.one (.pv (.recs 3 (List.map E_kinfolkref09_Field.pv l) false)))] [] [] ([(.one (.pv .nils)), (.one (.pv (.int .i64 n)))], [], []) := runs_of (C := cfg) (objs := []) (sc := t_.ev) (.k0 t_.pf (by kernel_rfl))
  exact e_.out ⟨.pv (.nilsR), .eq rfl, trivial⟩ trivial trivial rfl
 ·have h := some_of h
  subst h
  have t_ := tL (kinfolkref09_Make_L0_runs N l (((List.map E_kinfolkref09_Field.pv l)).length : Int) _ _ h1) <| tF (rfl : false = false) <| tN
  have e_ : Runs Tryz.prog 53 [(.one (.pv (.recs 3 (List.map E_kinfolkref09_Field.pv l) false)))] [] [] ([(.one (.pv .nils)), (.one (.pv (.int .i64 0)))], [], []) := runs_of (C := cfg) (objs := []) (sc := t_.ev) (.k0 t_.pf (by kernel_rfl))
  exact e_.out ⟨.pv (.nilsR), .eq rfl, trivial⟩ trivial trivial rfl
 ·have q_1 := (kinfolkref09_Make_L0_runs N l (((List.map E_kinfolkref09_Field.pv l)).length : Int) _ _ h1)
  rcases cond_of h with ⟨h2, h⟩ | ⟨h2, h⟩
  ·have h := some_of h
   subst h
   have t_ := tL q_1 <| tT h2 <| tN
   have e_ : Runs Tryz.prog 53 [(.one (.pv (.recs 3 (List.map E_kinfolkref09_Field.pv l) false)))] [] [] ([(.one (.pv .nils)), (.one (.pv (.int .i64 8)))], [], []) := runs_of (C := cfg) (objs := []) (sc := t_.ev) (.k0 t_.pf (by kernel_rfl))
   exact e_.out ⟨.pv (.nilsR), .eq rfl, trivial⟩ trivial trivial rfl
  ·have h := some_of h
   subst h
   have t_ := tL q_1 <| tF h2 <| tN
   exact runs_of (C := cfg) (objs := []) (sc := t_.ev) (.k0 t_.pf (by kernel_rfl))
noncomputable def kinfolklaw10_made (N : Nat) (l : List E_card_Field) : Option (List E_card_Field × List E_kinfolkref09_Field) :=
 (kinfolklaw10_few l).bind fun r =>
 (runL (kinfolklaw10_made_L0_2_step (((List.map E_card_Field.pv r)).length : Int) r) (0, [])).bind fun r2 =>
 (card_Make (List.take ((List.map E_card_Field.pv r2)).length r2)).bind fun (r3, n) =>
 (kinfolklaw10_own (List.take ((List.map E_card_Field.pv r2)).length r2)).bind fun r4 =>
 (kinfolkref09_Make N (List.take ((List.map E_kinfolkref09_Field.pv r4)).length r4)).bind fun (r5, n2) =>
 some (r3, r5)
theorem kinfolklaw10_made_runs (N : Nat) (l : List E_card_Field) (r_ : List E_card_Field × List E_kinfolkref09_Field) (h : kinfolklaw10_made N l = some r_) : Runs Tryz.prog 31 [(.one (.pv (.recs 3 (List.map E_card_Field.pv l) false)))] [] [] (kinfolklaw10_made_out l r_) := by
 unfold kinfolklaw10_made at h
 obtain ⟨r, h1, h⟩ := bind_of h
 obtain ⟨r2, h2, h⟩ := bind_of h
 obtain ⟨⟨r3, n⟩, h3, h⟩ := bind_of h
 obtain ⟨r4, h4, h⟩ := bind_of h
 obtain ⟨⟨r5, n2⟩, h5, h⟩ := bind_of h
 have h := some_of h
 subst h
 have t_ := tR (kinfolklaw10_few_runs l _ h1) <| tL (LRuns.coe (s0 := ⟨[(2, (.av (.one (.ref 0 0)))), (4, (.av (.one (.own 0 0 0 false)))), (12, (.av (.one (.own 1 0 ((List.map E_card_Field.pv r)).length false)))), (13, (.av (.one (.pv (.int .i64 (((List.map E_card_Field.pv r)).length : Int)))))), (14, (.av (.one (.pv (.int .i64 0)))))], [(0, [(.pv .nils)])], [(0, (.live (.recs 3 []))), (1, (.live (.recs 3 (List.map E_card_Field.pv r))))]⟩) (kinfolklaw10_made_L0_2_runs (((List.map E_card_Field.pv r)).length : Int) r _ _ h2) ⟨⟨⟨_, rfl, .eq rfl⟩, ⟨_, rfl, .own (by first | rfl | (simp only [List.take_length, List.drop_zero, List.map_take, List.nil_append]; done) | (simp; done) | (simp only [E_card_Field.upd, E_kinfolkref09_Field.upd, E_L_card_Field.upd, E_card_Card.upd]; done) | (simp [E_card_Field.pv, E_kinfolkref09_Field.pv, E_L_card_Field.pv, E_card_Card.pv]; done))⟩, ⟨_, rfl, .eq rfl⟩, ⟨_, rfl, .eq rfl⟩, ⟨_, rfl, .eq rfl⟩, trivial⟩, ⟨⟨rfl, ⟨.eq rfl, trivial⟩⟩, trivial⟩, ⟨⟨rfl, .recs (.nil)⟩, ⟨rfl, .eq rfl⟩, trivial⟩⟩) <| tR (Runs.coe (as' := [(.one (.pv (.recs 3 (List.take ((List.map E_card_Field.pv r2)).length (List.map E_card_Field.pv r2)) false)))]) (objs' := []) (rows' := []) (card_Make_runs (List.take ((List.map E_card_Field.pv r2)).length r2) _ h3) ⟨.pv (.recsT (.eq (by first | rfl | (simp only [List.take_length, List.drop_zero, List.map_take, List.nil_append]; done) | (simp; done) | (simp only [E_card_Field.upd, E_kinfolkref09_Field.upd, E_L_card_Field.upd, E_card_Card.upd]; done) | (simp [E_card_Field.pv, E_kinfolkref09_Field.pv, E_L_card_Field.pv, E_card_Card.pv]; done)))), trivial⟩ trivial trivial) <| tR (Runs.coe (as' := [(.one (.pv (.recs 3 (List.take ((List.map E_card_Field.pv r2)).length (List.map E_card_Field.pv r2)) false)))]) (objs' := []) (rows' := []) (kinfolklaw10_own_runs (List.take ((List.map E_card_Field.pv r2)).length r2) _ h4) ⟨.pv (.recsT (.eq (by first | rfl | (simp only [List.take_length, List.drop_zero, List.map_take, List.nil_append]; done) | (simp; done) | (simp only [E_card_Field.upd, E_kinfolkref09_Field.upd, E_L_card_Field.upd, E_card_Card.upd]; done) | (simp [E_card_Field.pv, E_kinfolkref09_Field.pv, E_L_card_Field.pv, E_card_Card.pv]; done)))), trivial⟩ trivial trivial) <| tR (Runs.coe (as' := [(.one (.pv (.recs 3 (List.take ((List.map E_kinfolkref09_Field.pv r4)).length (List.map E_kinfolkref09_Field.pv r4)) false)))]) (objs' := []) (rows' := []) (kinfolkref09_Make_runs N (List.take ((List.map E_kinfolkref09_Field.pv r4)).length r4) _ h5) ⟨.pv (.recsT (.eq (by first | rfl | (simp only [List.take_length, List.drop_zero, List.map_take, List.nil_append]; done) | (simp; done) | (simp only [E_card_Field.upd, E_kinfolkref09_Field.upd, E_L_card_Field.upd, E_card_Card.upd]; done) | (simp [E_card_Field.pv, E_kinfolkref09_Field.pv, E_L_card_Field.pv, E_card_Card.pv]; done)))), trivial⟩ trivial trivial) <| tN
 exact runs_of (C := cfg) (objs := []) (sc := t_.ev) (.k0 t_.pf (by kernel_rfl))
def card_Same_out (a : List E_card_Field) (b : List E_card_Field) : Bool → Res
 | r1 => ([(.one (.pv (.bool r1)))], [], [])
def slices_Equal_card_Field_out (s1 : List E_card_Field) (s2 : List E_card_Field) : Bool → Res
 | r1 => ([(.one (.pv (.bool r1)))], [], [])
def slices_Equal_card_Field_L0_st (s1 : List E_card_Field) (s2 : List E_card_Field) (n : Int) : Int → St
 | n2 => ⟨[(0, (.av (.one (.pv (.recs 3 (List.map E_card_Field.pv s1) false))))), (1, (.av (.one (.pv (.recs 3 (List.map E_card_Field.pv s2) false))))), (12, (.av (.one (.pv (.int .i64 n))))), (13, (.av (.one (.pv (.int .i64 n2)))))], [], []⟩
def slices_Equal_card_Field_L0_ex (s1 : List E_card_Field) (s2 : List E_card_Field) (n : Int) : (Unit) ⊕ (Unit) → Ex × St
 | .inl _ => (.ret, ⟨[(4, (.av (.one (.pv (.bool false)))))], [], []⟩)
 | .inr _ => ((.exit 0), ⟨[], [], []⟩)
noncomputable def slices_Equal_card_Field_L0_step (s1 : List E_card_Field) (s2 : List E_card_Field) (n : Int) : Int → Option ((Int) ⊕ ((Unit) ⊕ (Unit)))
 | n2 =>
 bif (decide ((n2 : Int) < n)) then
  bif decide ((0 : Int) ≤ n2) && decide ((n2 : Int) < (((List.map E_card_Field.pv s1)).length : Int)) then
  (s1[(n2).toNat]?).bind fun e_ => match e_ with
  | .mk n3 s s3 =>
  bif decide ((0 : Int) ≤ n2) && decide ((n2 : Int) < (((List.map E_card_Field.pv s2)).length : Int)) then
  (s2[(n2).toNat]?).bind fun e_ => match e_ with
  | .mk n4 s4 s5 =>
  bif ((decide ((n3 : Int) = n4)) && ((decide ((s : ByteArray) = s4)) && ((decide ((s3 : ByteArray) = s5)) && true))) then
   some (.inl (iadd .i64 n2 1))
  else
   some (.inr (.inl ()))
  else none
  else none
 else
  some (.inr (.inr ()))
theorem slices_Equal_card_Field_L0_ok (s1 : List E_card_Field) (s2 : List E_card_Field) (n : Int) (n2 : Int) (z_ : (Int) ⊕ ((Unit) ⊕ (Unit))) (h : slices_Equal_card_Field_L0_step s1 s2 n n2 = some z_) : RoundOk Tryz.prog cfg 47 0 (loopAt Tryz.prog 47 0) (slices_Equal_card_Field_L0_st s1 s2 n) (slices_Equal_card_Field_L0_ex s1 s2 n) n2 z_ := by
 rcases cond_of h with ⟨h1, h⟩ | ⟨h1, h⟩
 ·obtain ⟨h2, h⟩ := need_of h
  obtain ⟨⟨n3, s, s3⟩, h3, h⟩ := bind_of h
  obtain ⟨h4, h⟩ := need_of h
  obtain ⟨⟨n4, s4, s5⟩, h5, h⟩ := bind_of h
  rcases cond_of h with ⟨h6, h⟩ | ⟨h6, h⟩
  ·have h := some_of h
   subst h
   have t_ := tT h1 <| tO h2 <| tE (.el [(.int .i64 n3), (.str s), (.str s3)]) <| tO (el_of (f := E_card_Field.pv) h3) <| tO h4 <| tE (.el [(.int .i64 n4), (.str s4), (.str s5)]) <| tO (el_of (f := E_card_Field.pv) h5) <| tF (not_of2 h6) <| tN
   exact ⟨t_.ev, slices_Equal_card_Field_L0_st s1 s2 n (iadd .i64 n2 1), .k0 t_.pf (by kernel_rfl), .same (by kernel_rfl)⟩
  ·have h := some_of h
   subst h
   have t_ := tT h1 <| tO h2 <| tE (.el [(.int .i64 n3), (.str s), (.str s3)]) <| tO (el_of (f := E_card_Field.pv) h3) <| tO h4 <| tE (.el [(.int .i64 n4), (.str s4), (.str s5)]) <| tO (el_of (f := E_card_Field.pv) h5) <| tT (not_of h6) <| tN
   exact ⟨t_.ev, (slices_Equal_card_Field_L0_ex s1 s2 n (.inl ())).2, .k0 t_.pf (by kernel_rfl), .same (by kernel_rfl)⟩
 ·have h := some_of h
  subst h
  have t_ := tF h1 <| tN
  exact ⟨t_.ev, ⟨[(14, (.av (.one (.pv (.bool false))))), (0, (.av (.one (.pv (.recs 3 (List.map E_card_Field.pv s1) false))))), (1, (.av (.one (.pv (.recs 3 (List.map E_card_Field.pv s2) false))))), (12, (.av (.one (.pv (.int .i64 n))))), (13, (.av (.one (.pv (.int .i64 n2))))), (14, (.av (.one (.pv (.bool (decide ((n2 : Int) < n)))))))], [], []⟩, .k0 t_.pf (by kernel_rfl), ⟨trivial, trivial, trivial⟩⟩
theorem slices_Equal_card_Field_L0_runs (s1 : List E_card_Field) (s2 : List E_card_Field) (n : Int) (s_ : Int) (r_ : (Unit) ⊕ (Unit)) (h : runL (slices_Equal_card_Field_L0_step s1 s2 n) s_ = some r_) : LRuns Tryz.prog (lEnv Tryz.prog cfg 47 0).nt 0 (.loop (loopAt Tryz.prog 47 0)) (slices_Equal_card_Field_L0_st s1 s2 n s_) (slices_Equal_card_Field_L0_ex s1 s2 n r_).1 (slices_Equal_card_Field_L0_ex s1 s2 n r_).2 :=
 loop_run h (slices_Equal_card_Field_L0_ok s1 s2 n) (by intro r_; rcases r_ with _ | _ <;> simp [slices_Equal_card_Field_L0_ex])
noncomputable def slices_Equal_card_Field (s1 : List E_card_Field) (s2 : List E_card_Field) : Option (Bool) :=
 bif (decide (((((List.map E_card_Field.pv s1)).length : Int) : Int) = (((List.map E_card_Field.pv s2)).length : Int))) then
  (runL (slices_Equal_card_Field_L0_step s1 s2 (((List.map E_card_Field.pv s1)).length : Int)) 0).bind fun z_ => match z_ with
  | .inl _ =>
   some false
  | .inr _ =>
   some true
 else
  some false
theorem slices_Equal_card_Field_runs (s1 : List E_card_Field) (s2 : List E_card_Field) (r_ : Bool) (h : slices_Equal_card_Field s1 s2 = some r_) : Runs Tryz.prog 47 [(.one (.pv (.recs 3 (List.map E_card_Field.pv s1) false))), (.one (.pv (.recs 3 (List.map E_card_Field.pv s2) false)))] [] [] (slices_Equal_card_Field_out s1 s2 r_) := by
 unfold slices_Equal_card_Field at h
 rcases cond_of h with ⟨h1, h⟩ | ⟨h1, h⟩
 ·obtain ⟨z_, h2, h⟩ := bind_of h
  rcases z_ with _ | _
  ·have h := some_of h
   subst h
   have t_ := tF (not_of2 h1) <| tL (slices_Equal_card_Field_L0_runs s1 s2 (((List.map E_card_Field.pv s1)).length : Int) _ _ h2) <| tN
   exact runs_of (C := cfg) (objs := []) (sc := t_.ev) (.k0 t_.pf (by kernel_rfl))
  ·have h := some_of h
   subst h
   have t_ := tF (not_of2 h1) <| tL (slices_Equal_card_Field_L0_runs s1 s2 (((List.map E_card_Field.pv s1)).length : Int) _ _ h2) <| tN
   exact runs_of (C := cfg) (objs := []) (sc := t_.ev) (.k0 t_.pf (by kernel_rfl))
 ·have h := some_of h
  subst h
  have t_ := tT (not_of h1) <| tN
  exact runs_of (C := cfg) (objs := []) (sc := t_.ev) (.k0 t_.pf (by kernel_rfl))
noncomputable def card_Same (a : List E_card_Field) (b : List E_card_Field) : Option (Bool) :=
 (slices_Equal_card_Field a b).bind fun b2 =>
 some b2
theorem card_Same_runs (a : List E_card_Field) (b : List E_card_Field) (r_ : Bool) (h : card_Same a b = some r_) : Runs Tryz.prog 21 [(.agg [(.pv (.recs 3 (List.map E_card_Field.pv a) false))]), (.agg [(.pv (.recs 3 (List.map E_card_Field.pv b) false))])] [] [] (card_Same_out a b r_) := by
 unfold card_Same at h
 obtain ⟨b2, h1, h⟩ := bind_of h
 have h := some_of h
 subst h
 have t_ := tR (slices_Equal_card_Field_runs a b _ h1) <| tN
 exact runs_of (C := cfg) (objs := []) (sc := t_.ev) (.k0 t_.pf (by kernel_rfl))
def kinfolklaw10_PaperCards_2_out (l : List E_card_Field) (m : List E_card_Field) (front : List Int) : Bool → Res
 | r1 => ([(.one (.pv (.bool r1)))], [], [])
def kinfolkref10_Card_out (l : List E_kinfolkref09_Field) : List Int → Res
 | r1 => ([(.one (.own 0 0 (r1).length false))], [], [(.ints .u8 r1)])
def kinfolkref06_Num_out (n : Int) : List Int → Res
 | r1 => ([(.one (.own 0 0 (r1).length false))], [], [(.ints .u8 r1)])
noncomputable def kinfolkref06_Num_b (rec_kinfolkref06_Num : Int → Option (List Int)) (n : Int) : Option (List Int) :=
 bif (decide ((n : Int) < 128)) then
  some [(IntKind.u8.wrap n)]
 else
  (rec_kinfolkref06_Num (iquo .u64 n 128)).bind fun l_ =>
  bif Nat.beq ((List.take (l_).length l_)).length 0 then
   some [(IntKind.u8.wrap (iadd .u64 (irem .u64 n 128) 128))]
  else
   bif fits (([(IntKind.u8.wrap (iadd .u64 (irem .u64 n 128) 128))] ++ (List.take (l_).length l_))).length then
   some ([(IntKind.u8.wrap (iadd .u64 (irem .u64 n 128) 128))] ++ l_)
   else none
theorem kinfolkref06_Num_b_runs (rec_kinfolkref06_Num : Int → Option (List Int)) (hrec_kinfolkref06_Num : ∀ n r_, rec_kinfolkref06_Num n = some r_ → Runs Tryz.prog 77 [(.one (.pv (.int .u64 n)))] [] [] (kinfolkref06_Num_out n r_)) (n : Int) (r_ : List Int) (h : kinfolkref06_Num_b rec_kinfolkref06_Num n = some r_) : Runs Tryz.prog 77 [(.one (.pv (.int .u64 n)))] [] [] (kinfolkref06_Num_out n r_) := by
 unfold kinfolkref06_Num_b at h
 rcases cond_of h with ⟨h1, h⟩ | ⟨h1, h⟩
 ·have h := some_of h
  subst h
  have t_ := tT h1 <| tN
  have e_ : Runs Tryz.prog 77 [(.one (.pv (.int .u64 n)))] [] [] ([(.one (.own 0 0 1 true))], [], [(.ints .u8 [(IntKind.u8.wrap n)])]) := runs_of (C := cfg) (objs := []) (sc := t_.ev) (.k0 t_.pf (by kernel_rfl))
  exact e_.out ⟨.ownF (by first | rfl | (simp only [List.take_length, List.drop_zero, List.map_take, List.nil_append]; done) | (simp; done) | (simp only [E_card_Field.upd, E_kinfolkref09_Field.upd, E_L_card_Field.upd, E_card_Card.upd, E_L_uint8.upd]; done) | (simp [E_card_Field.pv, E_kinfolkref09_Field.pv, E_L_card_Field.pv, E_card_Card.pv, E_L_uint8.pv]; done)), trivial⟩ trivial ⟨.eq rfl, trivial⟩ rfl
 ·obtain ⟨l_, h2, h⟩ := bind_of h
  rcases cond_of h with ⟨h3, h⟩ | ⟨h3, h⟩
  ·have h := some_of h
   subst h
   have t_ := tF h1 <| tO (rfl : true = true) <| tO (rfl : true = true) <| tR (hrec_kinfolkref06_Num (iquo .u64 n 128) _ h2) <| tT h3 <| tN
   have e_ : Runs Tryz.prog 77 [(.one (.pv (.int .u64 n)))] [] [] ([(.one (.own 0 0 1 false))], [], [(.ints .u8 [(IntKind.u8.wrap (iadd .u64 (irem .u64 n 128) 128))])]) := runs_of (C := cfg) (objs := []) (sc := t_.ev) (.k0 t_.pf (by kernel_rfl))
   exact e_.out ⟨.own (by first | rfl | (simp only [List.take_length, List.drop_zero, List.map_take, List.nil_append]; done) | (simp; done) | (simp only [E_card_Field.upd, E_kinfolkref09_Field.upd, E_L_card_Field.upd, E_card_Card.upd, E_L_uint8.upd]; done) | (simp [E_card_Field.pv, E_kinfolkref09_Field.pv, E_L_card_Field.pv, E_card_Card.pv, E_L_uint8.pv]; done)), trivial⟩ trivial ⟨.eq rfl, trivial⟩ rfl
  ·obtain ⟨h4, h⟩ := need_of h
   have h := some_of h
   subst h
   have t_ := tF h1 <| tO (rfl : true = true) <| tO (rfl : true = true) <| tR (hrec_kinfolkref06_Num (iquo .u64 n 128) _ h2) <| tF (not_of h3) <| tO h4 <| tN
   have e_ : Runs Tryz.prog 77 [(.one (.pv (.int .u64 n)))] [] [] ([(.one (.own 0 0 (([(IntKind.u8.wrap (iadd .u64 (irem .u64 n 128) 128))] ++ (List.take (l_).length l_))).length false))], [], [(.ints .u8 ([(IntKind.u8.wrap (iadd .u64 (irem .u64 n 128) 128))] ++ (List.take (l_).length l_)))]) := runs_of (C := cfg) (objs := []) (sc := t_.ev) (.k0 t_.pf (by kernel_rfl))
   exact e_.out ⟨.own (by first | rfl | (simp only [List.take_length, List.drop_zero, List.map_take, List.nil_append]; done) | (simp; done) | (simp only [E_card_Field.upd, E_kinfolkref09_Field.upd, E_L_card_Field.upd, E_card_Card.upd, E_L_uint8.upd]; done) | (simp [E_card_Field.pv, E_kinfolkref09_Field.pv, E_L_card_Field.pv, E_card_Card.pv, E_L_uint8.pv]; done)), trivial⟩ trivial ⟨.eq (by first | rfl | (simp only [List.take_length, List.drop_zero, List.map_take, List.nil_append]; done) | (simp; done) | (simp only [E_card_Field.upd, E_kinfolkref09_Field.upd, E_L_card_Field.upd, E_card_Card.upd, E_L_uint8.upd]; done) | (simp [E_card_Field.pv, E_kinfolkref09_Field.pv, E_L_card_Field.pv, E_card_Card.pv, E_L_uint8.pv]; done)), trivial⟩ rfl
noncomputable def kinfolkref06_Num : Nat → Int → Option (List Int)
 | 0, _ => none
 | N + 1, n => kinfolkref06_Num_b (kinfolkref06_Num N) n
theorem kinfolkref06_Num_runs : ∀ (N : Nat) (n : Int) (r_ : List Int), kinfolkref06_Num N n = some r_ → Runs Tryz.prog 77 [(.one (.pv (.int .u64 n)))] [] [] (kinfolkref06_Num_out n r_)
 | 0, _, _, h => by cases h
 | N + 1, n, r_, h => kinfolkref06_Num_b_runs (kinfolkref06_Num N) (kinfolkref06_Num_runs N) n r_ h
def kinfolkref06_Text_out (s : ByteArray) : List Int → Res
 | r1 => ([(.one (.own 0 0 (r1).length false))], [], [(.ints .u8 r1)])
noncomputable def kinfolkref06_Text (N : Nat) (s : ByteArray) : Option (List Int) :=
 (kinfolkref06_Num N (IntKind.u64.wrap (s.size : Int))).bind fun l_ =>
 bif decide (s.size ≤ 140737488355328) then
 bif fits ((l_ ++ (List.take (bytesL s).length (bytesL s)))).length then
 some (l_ ++ (bytesL s))
 else none
 else none
theorem kinfolkref06_Text_runs (N : Nat) (s : ByteArray) (r_ : List Int) (h : kinfolkref06_Text N s = some r_) : Runs Tryz.prog 78 [(.one (.pv (.str s)))] [] [] (kinfolkref06_Text_out s r_) := by
 unfold kinfolkref06_Text at h
 obtain ⟨l_, h1, h⟩ := bind_of h
 obtain ⟨h2, h⟩ := need_of h
 obtain ⟨h3, h⟩ := need_of h
 have h := some_of h
 subst h
 have t_ := tR (kinfolkref06_Num_runs N (IntKind.u64.wrap (s.size : Int)) _ h1) <| tO h2 <| tO (show (Nat.beq (l_).length (l_).length) = true from Nat.beq_refl _) <| tO h3 <| tN
 have e_ : Runs Tryz.prog 78 [(.one (.pv (.str s)))] [] [] ([(.one (.own 0 0 ((l_ ++ (List.take (bytesL s).length (bytesL s)))).length false))], [], [(.ints .u8 (l_ ++ (List.take (bytesL s).length (bytesL s))))]) := runs_of (C := cfg) (objs := []) (sc := t_.ev) (.k0 t_.pf (by kernel_rfl))
 exact e_.out ⟨.own (by first | rfl | (simp only [List.take_length, List.drop_zero, List.map_take, List.nil_append]; done) | (simp; done) | (simp only [E_card_Field.upd, E_kinfolkref09_Field.upd, E_L_card_Field.upd, E_card_Card.upd, E_L_uint8.upd]; done) | (simp [E_card_Field.pv, E_kinfolkref09_Field.pv, E_L_card_Field.pv, E_card_Card.pv, E_L_uint8.pv]; done)), trivial⟩ trivial ⟨.eq (by first | rfl | (simp only [List.take_length, List.drop_zero, List.map_take, List.nil_append]; done) | (simp; done) | (simp only [E_card_Field.upd, E_kinfolkref09_Field.upd, E_L_card_Field.upd, E_card_Card.upd, E_L_uint8.upd]; done) | (simp [E_card_Field.pv, E_kinfolkref09_Field.pv, E_L_card_Field.pv, E_card_Card.pv, E_L_uint8.pv]; done)), trivial⟩ rfl
def kinfolkref06_Join_out (l : List E_L_uint8) : List Int → Res
 | r1 => ([(.one (.own 0 0 (r1).length false))], [], [(.ints .u8 r1)])
def kinfolkref06_Join_L0_2_st (r : List E_L_uint8) (n : Int) : Int × List Int → St
 | (n2, l) => ⟨[(3, (.av (.one (.own 0 0 (l).length false)))), (6, (.av (.one (.pv (.recs 1 (List.map E_L_uint8.pv r) false))))), (7, (.av (.one (.pv (.int .i64 n))))), (8, (.av (.one (.pv (.int .i64 n2)))))], [], [(0, (.live (.ints .u8 l)))]⟩
def kinfolkref06_Join_L0_2_ex (r : List E_L_uint8) (n : Int) : List Int → Ex × St
 | r1 => ((.exit 0), ⟨[(3, (.av (.one (.own 0 0 (r1).length false))))], [], [(0, (.live (.ints .u8 r1)))]⟩)
noncomputable def kinfolkref06_Join_L0_2_step (r : List E_L_uint8) (n : Int) : Int × List Int → Option ((Int × List Int) ⊕ (List Int))
 | (n2, l) =>
 bif (decide ((n2 : Int) < n)) then
  bif decide ((0 : Int) ≤ n2) && decide ((n2 : Int) < (((List.map E_L_uint8.pv r)).length : Int)) then
  (r[(n2).toNat]?).bind fun e_ => match e_ with
  | .mk l_ =>
  bif fits ((l ++ l_)).length then
  some (.inl ((iadd .i64 n2 1), (l ++ l_)))
  else none
  else none
 else
  some (.inr l)
theorem kinfolkref06_Join_L0_2_ok (r : List E_L_uint8) (n : Int) (s_ : Int × List Int) (z_ : (Int × List Int) ⊕ (List Int)) (h : kinfolkref06_Join_L0_2_step r n s_ = some z_) : RoundOk Tryz.prog cfg 40 0 (loopAt Tryz.prog 40 0) (kinfolkref06_Join_L0_2_st r n) (kinfolkref06_Join_L0_2_ex r n) s_ z_ := by
 rcases s_ with ⟨n2, l⟩
 rcases cond_of h with ⟨h1, h⟩ | ⟨h1, h⟩
 ·obtain ⟨h2, h⟩ := need_of h
  obtain ⟨⟨l_⟩, h3, h⟩ := bind_of h
  obtain ⟨h4, h⟩ := need_of h
  have h := some_of h
  subst h
  have t_ := tT h1 <| tO h2 <| tE (.el [(.ints .u8 l_ false)]) <| tO (el_of (f := E_L_uint8.pv) h3) <| tO (show (Nat.beq (l).length (l).length) = true from Nat.beq_refl _) <| tO h4 <| tN
  exact ⟨t_.ev, kinfolkref06_Join_L0_2_st r n ((iadd .i64 n2 1), (l ++ l_)), .k0 t_.pf (by kernel_rfl), .same (by kernel_rfl)⟩
 ·have h := some_of h
  subst h
  have t_ := tF h1 <| tN
  exact ⟨t_.ev, ⟨[(9, (.av (.one (.pv (.bool false))))), (3, (.av (.one (.own 0 0 (l).length false)))), (6, (.av (.one (.pv (.recs 1 (List.map E_L_uint8.pv r) false))))), (7, (.av (.one (.pv (.int .i64 n))))), (8, (.av (.one (.pv (.int .i64 n2))))), (9, (.av (.one (.pv (.bool (decide ((n2 : Int) < n)))))))], [], [(0, (.live (.ints .u8 l)))]⟩, .k0 t_.pf (by kernel_rfl), ⟨⟨⟨_, rfl, .eq rfl⟩, trivial⟩, trivial, ⟨⟨rfl, .eq rfl⟩, trivial⟩⟩⟩
theorem kinfolkref06_Join_L0_2_runs (r : List E_L_uint8) (n : Int) (s_ : Int × List Int) (r_ : List Int) (h : runL (kinfolkref06_Join_L0_2_step r n) s_ = some r_) : LRuns Tryz.prog (lEnv Tryz.prog cfg 40 0).nt 0 (.loop (loopAt Tryz.prog 40 0)) (kinfolkref06_Join_L0_2_st r n s_) (kinfolkref06_Join_L0_2_ex r n r_).1 (kinfolkref06_Join_L0_2_ex r n r_).2 :=
 loop_run h (kinfolkref06_Join_L0_2_ok r n) (by intro r_; rcases r_ with r1 <;> simp [kinfolkref06_Join_L0_2_ex])
noncomputable def kinfolkref06_Join (l : List E_L_uint8) : Option (List Int) :=
 (runL (kinfolkref06_Join_L0_2_step l (((List.map E_L_uint8.pv l)).length : Int)) (0, [])).bind fun l_ =>
 some l_
theorem kinfolkref06_Join_runs (l : List E_L_uint8) (r_ : List Int) (h : kinfolkref06_Join l = some r_) : Runs Tryz.prog 40 [(.one (.pv (.recs 1 (List.map E_L_uint8.pv l) false)))] [] [] (kinfolkref06_Join_out l r_) := by
 unfold kinfolkref06_Join at h
 obtain ⟨l_, h1, h⟩ := bind_of h
 have h := some_of h
 subst h
 have t_ := tL (LRuns.coe (s0 := ⟨[(3, (.av (.one (.own 0 0 0 false)))), (6, (.av (.one (.pv (.recs 1 (List.map E_L_uint8.pv l) false))))), (7, (.av (.one (.pv (.int .i64 (((List.map E_L_uint8.pv l)).length : Int)))))), (8, (.av (.one (.pv (.int .i64 0)))))], [], [(0, (.live (.ints .u8 [])))]⟩) (kinfolkref06_Join_L0_2_runs l (((List.map E_L_uint8.pv l)).length : Int) _ _ h1) ⟨⟨⟨_, rfl, .own (by first | rfl | (simp only [List.take_length, List.drop_zero, List.map_take, List.nil_append]; done) | (simp; done) | (simp only [E_card_Field.upd, E_kinfolkref09_Field.upd, E_L_card_Field.upd, E_card_Card.upd, E_L_uint8.upd]; done) | (simp [E_card_Field.pv, E_kinfolkref09_Field.pv, E_L_card_Field.pv, E_card_Card.pv, E_L_uint8.pv]; done))⟩, ⟨_, rfl, .eq rfl⟩, ⟨_, rfl, .eq rfl⟩, ⟨_, rfl, .eq rfl⟩, trivial⟩, trivial, ⟨⟨rfl, .eq rfl⟩, trivial⟩⟩) <| tN
 exact runs_of (C := cfg) (objs := []) (sc := t_.ev) (.k0 t_.pf (by kernel_rfl))
def kinfolkref10_Card_L0_st (r : List E_kinfolkref09_Field) (n : Int) : Int × List Int → St
 | (n2, l) => ⟨[(3, (.av (.one (.own 0 0 (l).length false)))), (10, (.av (.one (.pv (.recs 3 (List.map E_kinfolkref09_Field.pv r) false))))), (11, (.av (.one (.pv (.int .i64 n))))), (12, (.av (.one (.pv (.int .i64 n2)))))], [], [(0, (.live (.ints .u8 l)))]⟩
def kinfolkref10_Card_L0_ex (r : List E_kinfolkref09_Field) (n : Int) : List Int → Ex × St
 | r1 => ((.exit 0), ⟨[(3, (.av (.one (.own 0 0 (r1).length false))))], [], [(0, (.live (.ints .u8 r1)))]⟩)
noncomputable def kinfolkref10_Card_L0_step (N : Nat) (r : List E_kinfolkref09_Field) (n : Int) : Int × List Int → Option ((Int × List Int) ⊕ (List Int))
 | (n2, l) =>
 bif (decide ((n2 : Int) < n)) then
  bif decide ((0 : Int) ≤ n2) && decide ((n2 : Int) < (((List.map E_kinfolkref09_Field.pv r)).length : Int)) then
  (r[(n2).toNat]?).bind fun e_ => match e_ with
  | .mk n3 s s2 =>
  (kinfolkref06_Text N s).bind fun l_ =>
  (kinfolkref06_Text N s2).bind fun l_2 =>
  (kinfolkref06_Join [(E_L_uint8.mk l), (E_L_uint8.mk [(IntKind.u8.wrap n3)]), (E_L_uint8.mk l_), (E_L_uint8.mk l_2)]).bind fun l_3 =>
  some (.inl ((iadd .i64 n2 1), l_3))
  else none
 else
  some (.inr l)
theorem kinfolkref10_Card_L0_ok (N : Nat) (r : List E_kinfolkref09_Field) (n : Int) (s_ : Int × List Int) (z_ : (Int × List Int) ⊕ (List Int)) (h : kinfolkref10_Card_L0_step N r n s_ = some z_) : RoundOk Tryz.prog cfg 39 0 (loopAt Tryz.prog 39 0) (kinfolkref10_Card_L0_st r n) (kinfolkref10_Card_L0_ex r n) s_ z_ := by
 rcases s_ with ⟨n2, l⟩
 rcases cond_of h with ⟨h1, h⟩ | ⟨h1, h⟩
 ·obtain ⟨h2, h⟩ := need_of h
  obtain ⟨⟨n3, s, s2⟩, h3, h⟩ := bind_of h
  obtain ⟨l_, h4, h⟩ := bind_of h
  obtain ⟨l_2, h5, h⟩ := bind_of h
  obtain ⟨l_3, h6, h⟩ := bind_of h
  have h := some_of h
  subst h
  have t_ := tT h1 <| tO h2 <| tE (.el [(.int .i64 n3), (.str s), (.str s2)]) <| tO (el_of (f := E_kinfolkref09_Field.pv) h3) <| tR (kinfolkref06_Text_runs N s _ h4) <| tR (kinfolkref06_Text_runs N s _ h4) <| tR (kinfolkref06_Text_runs N s2 _ h5) <| tR (kinfolkref06_Text_runs N s _ h4) <| tR (kinfolkref06_Text_runs N s _ h4) <| tR (kinfolkref06_Text_runs N s _ h4) <| tR (kinfolkref06_Text_runs N s2 _ h5) <| tR (kinfolkref06_Text_runs N s _ h4) <| tR (kinfolkref06_Text_runs N s2 _ h5) <| tR (Runs.coe (as' := [(.one (.pv (.recs 1 [[(.ints .u8 (List.take (l).length l) false)], [(.ints .u8 [(IntKind.u8.wrap n3)] true)], [(.ints .u8 (List.take (l_).length l_) false)], [(.ints .u8 (List.take (l_2).length l_2) false)]] true)))]) (objs' := []) (rows' := []) (kinfolkref06_Join_runs [(E_L_uint8.mk l), (E_L_uint8.mk [(IntKind.u8.wrap n3)]), (E_L_uint8.mk l_), (E_L_uint8.mk l_2)] _ h6) ⟨.pv (.recs (.cons (.cons (.ints (by first | rfl | (simp only [List.take_length, List.drop_zero, List.map_take, List.nil_append]; done) | (simp; done) | (simp only [E_card_Field.upd, E_kinfolkref09_Field.upd, E_L_card_Field.upd, E_card_Card.upd, E_L_uint8.upd]; done) | (simp [E_card_Field.pv, E_kinfolkref09_Field.pv, E_L_card_Field.pv, E_card_Card.pv, E_L_uint8.pv]; done))) (.nil)) (.cons (.cons (.ints rfl) (.nil)) (.cons (.cons (.ints (by first | rfl | (simp only [List.take_length, List.drop_zero, List.map_take, List.nil_append]; done) | (simp; done) | (simp only [E_card_Field.upd, E_kinfolkref09_Field.upd, E_L_card_Field.upd, E_card_Card.upd, E_L_uint8.upd]; done) | (simp [E_card_Field.pv, E_kinfolkref09_Field.pv, E_L_card_Field.pv, E_card_Card.pv, E_L_uint8.pv]; done))) (.nil)) (.cons (.cons (.ints (by first | rfl | (simp only [List.take_length, List.drop_zero, List.map_take, List.nil_append]; done) | (simp; done) | (simp only [E_card_Field.upd, E_kinfolkref09_Field.upd, E_L_card_Field.upd, E_card_Card.upd, E_L_uint8.upd]; done) | (simp [E_card_Field.pv, E_kinfolkref09_Field.pv, E_L_card_Field.pv, E_card_Card.pv, E_L_uint8.pv]; done))) (.nil)) (.nil)))))), trivial⟩ trivial trivial) <| tN
  exact ⟨t_.ev, kinfolkref10_Card_L0_st r n ((iadd .i64 n2 1), l_3), .k1 t_.pf (by kernel_rfl) (by kernel_rfl), .same (by kernel_rfl)⟩
 ·have h := some_of h
  subst h
  have t_ := tF h1 <| tN
  exact ⟨t_.ev, ⟨[(13, (.av (.one (.pv (.bool false))))), (3, (.av (.one (.own 0 0 (l).length false)))), (10, (.av (.one (.pv (.recs 3 (List.map E_kinfolkref09_Field.pv r) false))))), (11, (.av (.one (.pv (.int .i64 n))))), (12, (.av (.one (.pv (.int .i64 n2))))), (13, (.av (.one (.pv (.bool (decide ((n2 : Int) < n)))))))], [], [(0, (.live (.ints .u8 l)))]⟩, .k0 t_.pf (by kernel_rfl), ⟨⟨⟨_, rfl, .eq rfl⟩, trivial⟩, trivial, ⟨⟨rfl, .eq rfl⟩, trivial⟩⟩⟩
theorem kinfolkref10_Card_L0_runs (N : Nat) (r : List E_kinfolkref09_Field) (n : Int) (s_ : Int × List Int) (r_ : List Int) (h : runL (kinfolkref10_Card_L0_step N r n) s_ = some r_) : LRuns Tryz.prog (lEnv Tryz.prog cfg 39 0).nt 0 (.loop (loopAt Tryz.prog 39 0)) (kinfolkref10_Card_L0_st r n s_) (kinfolkref10_Card_L0_ex r n r_).1 (kinfolkref10_Card_L0_ex r n r_).2 :=
 loop_run h (kinfolkref10_Card_L0_ok N r n) (by intro r_; rcases r_ with r1 <;> simp [kinfolkref10_Card_L0_ex])
noncomputable def kinfolkref10_Card (N : Nat) (l : List E_kinfolkref09_Field) : Option (List Int) :=
 (kinfolkref06_Num N (IntKind.u64.wrap (((List.map E_kinfolkref09_Field.pv l)).length : Int))).bind fun l_ =>
 (runL (kinfolkref10_Card_L0_step N l (((List.map E_kinfolkref09_Field.pv l)).length : Int)) (0, l_)).bind fun l_2 =>
 some l_2
theorem kinfolkref10_Card_runs (N : Nat) (l : List E_kinfolkref09_Field) (r_ : List Int) (h : kinfolkref10_Card N l = some r_) : Runs Tryz.prog 39 [(.one (.pv (.recs 3 (List.map E_kinfolkref09_Field.pv l) false)))] [] [] (kinfolkref10_Card_out l r_) := by
 unfold kinfolkref10_Card at h
 obtain ⟨l_, h1, h⟩ := bind_of h
 obtain ⟨l_2, h2, h⟩ := bind_of h
 have h := some_of h
 subst h
 have t_ := tR (kinfolkref06_Num_runs N (IntKind.u64.wrap (((List.map E_kinfolkref09_Field.pv l)).length : Int)) _ h1) <| tL (kinfolkref10_Card_L0_runs N l (((List.map E_kinfolkref09_Field.pv l)).length : Int) _ _ h2) <| tN
 exact runs_of (C := cfg) (objs := []) (sc := t_.ev) (.k0 t_.pf (by kernel_rfl))
def paper_Less_out (a : List E_card_Field) (b : List E_card_Field) : Bool → Res
 | r1 => ([(.one (.pv (.bool r1)))], [], [])
noncomputable def paper_Less (a : List E_card_Field) (b : List E_card_Field) : Option (Bool) :=
 (paper_Card a).bind fun l_ =>
 (paper_Card b).bind fun l_2 =>
 (bytes_Compare l_ l_2).bind fun n =>
 some (decide ((n : Int) < 0))
theorem paper_Less_runs (a : List E_card_Field) (b : List E_card_Field) (r_ : Bool) (h : paper_Less a b = some r_) : Runs Tryz.prog 41 [(.agg [(.pv (.recs 3 (List.map E_card_Field.pv a) false))]), (.agg [(.pv (.recs 3 (List.map E_card_Field.pv b) false))])] [] [] (paper_Less_out a b r_) := by
 unfold paper_Less at h
 obtain ⟨l_, h1, h⟩ := bind_of h
 obtain ⟨l_2, h2, h⟩ := bind_of h
 obtain ⟨n, h3, h⟩ := bind_of h
 have h := some_of h
 subst h
 have t_ := tR (paper_Card_runs a _ h1) <| tR (paper_Card_runs a _ h1) <| tR (paper_Card_runs b _ h2) <| tR (Runs.coe (as' := [(.one (.pv (.ints .u8 (List.take (l_).length l_) false))), (.one (.pv (.ints .u8 (List.take (l_2).length l_2) false)))]) (objs' := []) (rows' := []) (bytes_Compare_runs l_ l_2 _ h3) ⟨.pv (.ints (by first | rfl | (simp only [List.take_length, List.drop_zero, List.map_take, List.nil_append]; done) | (simp; done) | (simp only [E_card_Field.upd, E_kinfolkref09_Field.upd, E_L_card_Field.upd, E_card_Card.upd, E_L_uint8.upd]; done) | (simp [E_card_Field.pv, E_kinfolkref09_Field.pv, E_L_card_Field.pv, E_card_Card.pv, E_L_uint8.pv]; done))), .pv (.ints (by first | rfl | (simp only [List.take_length, List.drop_zero, List.map_take, List.nil_append]; done) | (simp; done) | (simp only [E_card_Field.upd, E_kinfolkref09_Field.upd, E_L_card_Field.upd, E_card_Card.upd, E_L_uint8.upd]; done) | (simp [E_card_Field.pv, E_kinfolkref09_Field.pv, E_L_card_Field.pv, E_card_Card.pv, E_L_uint8.pv]; done))), trivial⟩ trivial trivial) <| tN
 exact runs_of (C := cfg) (objs := []) (sc := t_.ev) (.k1 t_.pf (by kernel_rfl) (by kernel_rfl))
def kinfolkref10_Less_out (a : List Int) (b : List Int) : Bool → Res
 | r1 => ([(.one (.pv (.bool r1)))], [], [])
def kinfolkref10_Less_L0_st (a : List Int) (b : List Int) : Int → St
 | i => ⟨[(0, (.av (.one (.pv (.ints .u8 a false))))), (1, (.av (.one (.pv (.ints .u8 b false))))), (5, (.av (.one (.pv (.int .i64 i)))))], [], []⟩
def kinfolkref10_Less_L0_ex (a : List Int) (b : List Int) : (Bool) ⊕ (Unit) → Ex × St
 | .inl r1 => (.ret, ⟨[(4, (.av (.one (.pv (.bool r1)))))], [], []⟩)
 | .inr _ => ((.exit 0), ⟨[(0, (.av (.one (.pv (.ints .u8 a false))))), (1, (.av (.one (.pv (.ints .u8 b false)))))], [], []⟩)
noncomputable def kinfolkref10_Less_L0_step (a : List Int) (b : List Int) : Int → Option ((Int) ⊕ ((Bool) ⊕ (Unit)))
 | i =>
 bif (decide ((i : Int) < ((a).length : Int))) then
  bif (decide ((i : Int) < ((b).length : Int))) then
   bif decide ((0 : Int) ≤ i) && decide ((i : Int) < ((a).length : Int)) then
   bif decide ((0 : Int) ≤ i) && decide ((i : Int) < ((b).length : Int)) then
   bif (decide (((a.getD (i).toNat 0) : Int) = (b.getD (i).toNat 0))) then
    some (.inl (iadd .i64 i 1))
   else
    some (.inr (.inl (decide (((a.getD (i).toNat 0) : Int) < (b.getD (i).toNat 0)))))
   else none
   else none
  else
   some (.inr (.inr ()))
 else
  some (.inr (.inr ()))
theorem kinfolkref10_Less_L0_ok (a : List Int) (b : List Int) (i : Int) (z_ : (Int) ⊕ ((Bool) ⊕ (Unit))) (h : kinfolkref10_Less_L0_step a b i = some z_) : RoundOk Tryz.prog cfg 42 0 (loopAt Tryz.prog 42 0) (kinfolkref10_Less_L0_st a b) (kinfolkref10_Less_L0_ex a b) i z_ := by
 rcases cond_of h with ⟨h1, h⟩ | ⟨h1, h⟩
 ·rcases cond_of h with ⟨h2, h⟩ | ⟨h2, h⟩
  ·obtain ⟨h3, h⟩ := need_of h
   obtain ⟨h4, h⟩ := need_of h
   rcases cond_of h with ⟨h5, h⟩ | ⟨h5, h⟩
   ·have h := some_of h
    subst h
    have t_ := tT h1 <| tT h2 <| tO h3 <| tO h4 <| tF (not_of2 h5) <| tN
    exact ⟨t_.ev, kinfolkref10_Less_L0_st a b (iadd .i64 i 1), .k0 t_.pf (by kernel_rfl), .same (by kernel_rfl)⟩
   ·have h := some_of h
    subst h
    have t_ := tT h1 <| tT h2 <| tO h3 <| tO h4 <| tT (not_of h5) <| tO h3 <| tO h4 <| tN
    exact ⟨t_.ev, (kinfolkref10_Less_L0_ex a b (.inl (decide (((a.getD (i).toNat 0) : Int) < (b.getD (i).toNat 0))))).2, .k0 t_.pf (by kernel_rfl), .same (by kernel_rfl)⟩
  ·have h := some_of h
   subst h
   have t_ := tT h1 <| tF h2 <| tN
   exact ⟨t_.ev, ⟨[(15, (.av (.one (.pv (.bool false))))), (0, (.av (.one (.pv (.ints .u8 a false))))), (1, (.av (.one (.pv (.ints .u8 b false))))), (5, (.av (.one (.pv (.int .i64 i))))), (15, (.av (.one (.pv (.bool (decide ((i : Int) < ((b).length : Int))))))))], [], []⟩, .k0 t_.pf (by kernel_rfl), ⟨⟨⟨_, rfl, .eq rfl⟩, ⟨_, rfl, .eq rfl⟩, trivial⟩, trivial, trivial⟩⟩
 ·have h := some_of h
  subst h
  have t_ := tF h1 <| tF (rfl : false = false) <| tN
  exact ⟨t_.ev, ⟨[(15, (.av (.one (.pv (.bool false))))), (0, (.av (.one (.pv (.ints .u8 a false))))), (1, (.av (.one (.pv (.ints .u8 b false))))), (5, (.av (.one (.pv (.int .i64 i))))), (15, (.av (.one (.pv (.bool false)))))], [], []⟩, .k0 t_.pf (by kernel_rfl), ⟨⟨⟨_, rfl, .eq rfl⟩, ⟨_, rfl, .eq rfl⟩, trivial⟩, trivial, trivial⟩⟩
theorem kinfolkref10_Less_L0_runs (a : List Int) (b : List Int) (s_ : Int) (r_ : (Bool) ⊕ (Unit)) (h : runL (kinfolkref10_Less_L0_step a b) s_ = some r_) : LRuns Tryz.prog (lEnv Tryz.prog cfg 42 0).nt 0 (.loop (loopAt Tryz.prog 42 0)) (kinfolkref10_Less_L0_st a b s_) (kinfolkref10_Less_L0_ex a b r_).1 (kinfolkref10_Less_L0_ex a b r_).2 :=
 loop_run h (kinfolkref10_Less_L0_ok a b) (by intro r_; rcases r_ with r1 | _ <;> simp [kinfolkref10_Less_L0_ex])
noncomputable def kinfolkref10_Less (a : List Int) (b : List Int) : Option (Bool) :=
 (runL (kinfolkref10_Less_L0_step a b) 0).bind fun z_ => match z_ with
 | .inl b2 =>
  some b2
 | .inr _ =>
  some (decide ((((a).length : Int) : Int) < ((b).length : Int)))
theorem kinfolkref10_Less_runs (a : List Int) (b : List Int) (r_ : Bool) (h : kinfolkref10_Less a b = some r_) : Runs Tryz.prog 42 [(.one (.pv (.ints .u8 a false))), (.one (.pv (.ints .u8 b false)))] [] [] (kinfolkref10_Less_out a b r_) := by
 unfold kinfolkref10_Less at h
 obtain ⟨z_, h1, h⟩ := bind_of h
 rcases z_ with b2 | _
 ·have h := some_of h
  subst h
  have t_ := tL (kinfolkref10_Less_L0_runs a b _ _ h1) <| tN
  exact runs_of (C := cfg) (objs := []) (sc := t_.ev) (.k0 t_.pf (by kernel_rfl))
 ·have h := some_of h
  subst h
  have t_ := tL (kinfolkref10_Less_L0_runs a b _ _ h1) <| tN
  exact runs_of (C := cfg) (objs := []) (sc := t_.ev) (.k0 t_.pf (by kernel_rfl))
end Go.Proofs.YteiikkpajcggfaaGreatDoor
