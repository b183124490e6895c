/- What functions compute, and that they do. -/
import Derived.Test.YteiikkpajcggfaaGreatDoorA4
set_option linter.unusedVariables false
set_option linter.unusedSimpArgs false
set_option maxRecDepth 100000
namespace Go.Proofs.YteiikkpajcggfaaGreatDoor
open Go.Ev

/-! ### kinfolkref09_Put -/
noncomputable def kinfolkref09_Put (l : List E_kinfolkref09_Field) (f : Int) (f2 : ByteArray) (f3 : ByteArray) : Option (List E_kinfolkref09_Field) :=
  (kinfolkref09_Has l f f2 f3).bind fun b =>
  bif b then
    some l
  else
    (runL (kinfolkref09_Put_L0_2_step l (((List.map E_kinfolkref09_Field.pv l)).length : Int) f f2 f3) (false, 0, [])).bind fun (b2, r) =>
    bif b2 then
      some (List.take ((List.map E_kinfolkref09_Field.pv r)).length r)
    else
      bif fits (((List.map E_kinfolkref09_Field.pv r) ++ ([[(.int .i64 f), (.str f2), (.str f3)]] : List (List PV)))).length then
      some (List.take (((List.map E_kinfolkref09_Field.pv r) ++ ([[(.int .i64 f), (.str f2), (.str f3)]] : List (List PV)))).length (r ++ [(E_kinfolkref09_Field.mk f f2 f3)]))
      else none
theorem kinfolkref09_Put_runs (l : List E_kinfolkref09_Field) (f : Int) (f2 : ByteArray) (f3 : ByteArray) (r_ : List E_kinfolkref09_Field) (h : kinfolkref09_Put l f f2 f3 = some r_) : Runs Tryz.prog 60 [(.one (.pv (.recs 3 (List.map E_kinfolkref09_Field.pv l) false))), (.agg [(.pv (.int .i64 f)), (.pv (.str f2)), (.pv (.str f3))])] [] [] (kinfolkref09_Put_out l f f2 f3 r_) := by
  unfold kinfolkref09_Put at h
  obtain ⟨b, h1, h⟩ := bind_of h
  rcases cond_of h with ⟨h2, h⟩ | ⟨h2, h⟩
  · have h := some_of h
    subst h
    have t_ := tR (kinfolkref09_Has_runs l f f2 f3 _ h1) <| tT h2 <| tN
    exact runs_of (C := cfg) (objs := []) (sc := t_.ev) (.k0 t_.pf (by kernel_rfl))
  · obtain ⟨⟨b2, r⟩, h3, h⟩ := bind_of h
    have q_3 := (LRuns.coe (s0 := ⟨[(3, (.av (.one (.ref 0 0)))), (5, (.av (.one (.own 0 0 0 false)))), (6, (.av (.one (.pv (.bool false))))), (13, (.av (.one (.pv (.recs 3 (List.map E_kinfolkref09_Field.pv l) false))))), (14, (.av (.one (.pv (.int .i64 (((List.map E_kinfolkref09_Field.pv l)).length : Int)))))), (15, (.av (.one (.pv (.int .i64 0)))))], [(0, [(.pv (.int .i64 f)), (.pv (.str f2)), (.pv (.str f3))])], [(0, (.live (.recs 3 [])))]⟩) (kinfolkref09_Put_L0_2_runs l (((List.map E_kinfolkref09_Field.pv l)).length : Int) f f2 f3 _ _ h3) ⟨⟨⟨_, rfl, .eq rfl⟩, ⟨_, rfl, .own (by first | rfl | (simp only [List.take_length]; done) | (simp only [List.take_length, List.length_append, List.drop_zero, List.map_append, List.map_take, List.map_drop, List.map_replicate, List.map_cons, List.map_nil, List.append_nil, List.nil_append, E_card_Field.pv, E_kinfolkref09_Field.pv, E_L_card_Field.pv, E_card_Card.pv, E_card_Field.upd, E_kinfolkref09_Field.upd, E_L_card_Field.upd, E_card_Card.upd]; done) | (simp; done))⟩, ⟨_, rfl, .eq rfl⟩, ⟨_, rfl, .eq rfl⟩, ⟨_, rfl, .eq rfl⟩, ⟨_, rfl, .eq rfl⟩, trivial⟩, ⟨⟨rfl, ⟨.eq rfl, .eq rfl, .eq rfl, trivial⟩⟩, trivial⟩, ⟨⟨rfl, .recs (.nil)⟩, trivial⟩⟩)
    rcases cond_of h with ⟨h4, h⟩ | ⟨h4, h⟩
    · have h := some_of h
      subst h
      have t_ := tR (kinfolkref09_Has_runs l f f2 f3 _ h1) <| tF h2 <| tL q_3 <| tF (not_of2 h4) <| tN
      have e_ : Runs Tryz.prog 60 [(.one (.pv (.recs 3 (List.map E_kinfolkref09_Field.pv l) false))), (.agg [(.pv (.int .i64 f)), (.pv (.str f2)), (.pv (.str f3))])] [] [] ([(.one (.own 0 0 ((List.map E_kinfolkref09_Field.pv r)).length false))], [], [(.recs 3 (List.map E_kinfolkref09_Field.pv r))]) := runs_of (C := cfg) (objs := []) (sc := t_.ev) (.k0 t_.pf (by kernel_rfl))
      have e_ := e_.shut (res' := ([(.one (.pv (.recs 3 (List.take ((List.map E_kinfolkref09_Field.pv r)).length (List.map E_kinfolkref09_Field.pv r)) false)))], [], [])) [0] (by kernel_rfl)
      exact e_.out ⟨.pv (.recsT (.eq (by first | rfl | (simp only [List.take_length]; done) | (simp only [List.take_length, List.length_append, List.drop_zero, List.map_append, List.map_take, List.map_drop, List.map_replicate, List.map_cons, List.map_nil, List.append_nil, List.nil_append, E_card_Field.pv, E_kinfolkref09_Field.pv, E_L_card_Field.pv, E_card_Card.pv, E_card_Field.upd, E_kinfolkref09_Field.upd, E_L_card_Field.upd, E_card_Card.upd]; done) | (simp; done)))), trivial⟩ trivial trivial rfl
    · obtain ⟨h5, h⟩ := need_of h
      have h := some_of h
      subst h
      have t_ := tR (kinfolkref09_Has_runs l f f2 f3 _ h1) <| tF h2 <| tL q_3 <| tT (not_of h4) <| tO (show (Nat.beq ((List.map E_kinfolkref09_Field.pv r)).length ((List.map E_kinfolkref09_Field.pv r)).length) = true from Nat.beq_refl _) <| tO h5 <| tN
      have e_ : Runs Tryz.prog 60 [(.one (.pv (.recs 3 (List.map E_kinfolkref09_Field.pv l) false))), (.agg [(.pv (.int .i64 f)), (.pv (.str f2)), (.pv (.str f3))])] [] [] ([(.one (.own 0 0 (((List.map E_kinfolkref09_Field.pv r) ++ ([[(.int .i64 f), (.str f2), (.str f3)]] : List (List PV)))).length false))], [], [(.recs 3 ((List.map E_kinfolkref09_Field.pv r) ++ ([[(.int .i64 f), (.str f2), (.str f3)]] : List (List PV))))]) := runs_of (C := cfg) (objs := []) (sc := t_.ev) (.k0 t_.pf (by kernel_rfl))
      have e_ := e_.shut (res' := ([(.one (.pv (.recs 3 (List.take (((List.map E_kinfolkref09_Field.pv r) ++ ([[(.int .i64 f), (.str f2), (.str f3)]] : List (List PV)))).length ((List.map E_kinfolkref09_Field.pv r) ++ ([[(.int .i64 f), (.str f2), (.str f3)]] : List (List PV)))) false)))], [], [])) [0] (by kernel_rfl)
      exact e_.out ⟨.pv (.recsT (.eq (by first | rfl | (simp only [List.take_length]; done) | (simp only [List.take_length, List.length_append, List.drop_zero, List.map_append, List.map_take, List.map_drop, List.map_replicate, List.map_cons, List.map_nil, List.append_nil, List.nil_append, E_card_Field.pv, E_kinfolkref09_Field.pv, E_L_card_Field.pv, E_card_Card.pv, E_card_Field.upd, E_kinfolkref09_Field.upd, E_L_card_Field.upd, E_card_Card.upd]; done) | (simp; done)))), trivial⟩ trivial trivial rfl
/-! ### kinfolkref09_Make_L0 -/
def kinfolkref09_Make_L0_st (r : List E_kinfolkref09_Field) (n : Int) : (Unit) ⊕ (List E_kinfolkref09_Field × Int) → St
  | .inl _ => ⟨[(4, (.av (.one (.pv .nils)))), (8, (.av (.one (.pv (.recs 3 (List.map E_kinfolkref09_Field.pv r) false))))), (9, (.av (.one (.pv (.int .i64 n))))), (10, (.av (.one (.pv (.int .i64 0)))))], [], []⟩
  | .inr (r2, n2) => ⟨[(4, (.av (.one (.pv (.recs 3 (List.map E_kinfolkref09_Field.pv r2) false))))), (8, (.av (.one (.pv (.recs 3 (List.map E_kinfolkref09_Field.pv r) false))))), (9, (.av (.one (.pv (.int .i64 n))))), (10, (.av (.one (.pv (.int .i64 n2)))))], [], []⟩
def kinfolkref09_Make_L0_ex (r : List E_kinfolkref09_Field) (n : Int) : (Int) ⊕ ((Unit) ⊕ (List E_kinfolkref09_Field)) → Ex × St
  | .inl r1 => (.ret, ⟨[(2, (.av (.one (.pv .nils)))), (3, (.av (.one (.pv (.int .i64 r1)))))], [], []⟩)
  | .inr (.inl _) => ((.exit 0), ⟨[(4, (.av (.one (.pv .nils))))], [], []⟩)
  | .inr (.inr r1) => ((.exit 0), ⟨[(4, (.av (.one (.pv (.recs 3 (List.map E_kinfolkref09_Field.pv r1) false)))))], [], []⟩)
noncomputable def kinfolkref09_Make_L0_step (N : Nat) (r : List E_kinfolkref09_Field) (n : Int) : (Unit) ⊕ (List E_kinfolkref09_Field × Int) → Option (((Unit) ⊕ (List E_kinfolkref09_Field × Int)) ⊕ ((Int) ⊕ ((Unit) ⊕ (List E_kinfolkref09_Field))))
  | .inl _ =>
    bif (decide ((0 : Int) < n)) then
      bif decide ((0 : Int) ≤ 0) && decide ((0 : Int) < (((List.map E_kinfolkref09_Field.pv r)).length : Int)) then
      (r[0]?).bind fun e_ => match e_ with
      | .mk n2 s s2 =>
      (kinfolkref09_Right N n2 s s2).bind fun n3 =>
      bif (decide ((n3 : Int) = 0)) then
        (kinfolkref09_Put [] n2 s s2).bind fun r2 =>
        some (.inl (.inr (r2, 1)))
      else
        some (.inr (.inl n3))
      else none
    else
      some (.inr (.inr (.inl ())))
  | .inr (r2, n2) =>
    bif (decide ((n2 : Int) < n)) then
      bif decide ((0 : Int) ≤ n2) && decide ((n2 : Int) < (((List.map E_kinfolkref09_Field.pv r)).length : Int)) then
      (r[(n2).toNat]?).bind fun e_ => match e_ with
      | .mk n3 s s2 =>
      (kinfolkref09_Right N n3 s s2).bind fun n4 =>
      bif (decide ((n4 : Int) = 0)) then
        (kinfolkref09_Put r2 n3 s s2).bind fun r3 =>
        some (.inl (.inr (r3, (iadd .i64 n2 1))))
      else
        some (.inr (.inl n4))
      else none
    else
      some (.inr (.inr (.inr r2)))
theorem kinfolkref09_Make_L0_ok (N : Nat) (r : List E_kinfolkref09_Field) (n : Int) (s_ : (Unit) ⊕ (List E_kinfolkref09_Field × Int)) (z_ : ((Unit) ⊕ (List E_kinfolkref09_Field × Int)) ⊕ ((Int) ⊕ ((Unit) ⊕ (List E_kinfolkref09_Field)))) (h : kinfolkref09_Make_L0_step N r n s_ = some z_) : RoundOk Tryz.prog cfg 53 0 (loopAt Tryz.prog 53 0) (kinfolkref09_Make_L0_st r n) (kinfolkref09_Make_L0_ex r n) s_ z_ := by
  rcases s_ with _ | ⟨r2, n2⟩
  · rcases cond_of h with ⟨h1, h⟩ | ⟨h1, h⟩
    · obtain ⟨h2, h⟩ := need_of h
      obtain ⟨⟨n2, s, s2⟩, h3, h⟩ := bind_of h
      obtain ⟨n3, h4, h⟩ := bind_of h
      rcases cond_of h with ⟨h5, h⟩ | ⟨h5, h⟩
      · obtain ⟨r2, h6, h⟩ := bind_of h
        have h := some_of h
        subst h
        have t_ := tT h1 <| tO h2 <| tE (.el [(.int .i64 n2), (.str s), (.str s2)]) <| tO (el_of (f := E_kinfolkref09_Field.pv) h3) <| tR (kinfolkref09_Right_runs N n2 s s2 _ h4) <| tF (not_of2 h5) <| tR (Runs.coe (as' := [(.one (.pv .nils)), (.agg [(.pv (.int .i64 n2)), (.pv (.str s)), (.pv (.str s2))])]) (objs' := []) (rows' := []) (kinfolkref09_Put_runs [] n2 s s2 _ h6) ⟨.pv (.nilsR), ⟨.eq rfl, .eq rfl, .eq rfl, trivial⟩, trivial⟩ trivial trivial) <| tN
        exact ⟨t_.ev, kinfolkref09_Make_L0_st r n (.inr (r2, 1)), .k0 t_.pf (by kernel_rfl), .same (by kernel_rfl)⟩
      · have h := some_of h
        subst h
        have t_ := tT h1 <| tO h2 <| tE (.el [(.int .i64 n2), (.str s), (.str s2)]) <| tO (el_of (f := E_kinfolkref09_Field.pv) h3) <| tR (kinfolkref09_Right_runs N n2 s s2 _ h4) <| tT (not_of h5) <| tN
        exact ⟨t_.ev, (kinfolkref09_Make_L0_ex r n (.inl n3)).2, .k0 t_.pf (by kernel_rfl), .same (by kernel_rfl)⟩
    · have h := some_of h
      subst h
      have t_ := tF h1 <| tN
      exact ⟨t_.ev, ⟨[(11, (.av (.one (.pv (.bool false))))), (4, (.av (.one (.pv .nils)))), (8, (.av (.one (.pv (.recs 3 (List.map E_kinfolkref09_Field.pv r) false))))), (9, (.av (.one (.pv (.int .i64 n))))), (10, (.av (.one (.pv (.int .i64 0))))), (11, (.av (.one (.pv (.bool (decide ((0 : Int) < n)))))))], [], []⟩, .k0 t_.pf (by kernel_rfl), ⟨⟨⟨_, rfl, .eq rfl⟩, trivial⟩, trivial, trivial⟩⟩
  · rcases cond_of h with ⟨h1, h⟩ | ⟨h1, h⟩
    · obtain ⟨h2, h⟩ := need_of h
      obtain ⟨⟨n3, s, s2⟩, h3, h⟩ := bind_of h
      obtain ⟨n4, h4, h⟩ := bind_of h
      rcases cond_of h with ⟨h5, h⟩ | ⟨h5, h⟩
      · obtain ⟨r3, h6, h⟩ := bind_of h
        have h := some_of h
        subst h
        have t_ := tT h1 <| tO h2 <| tE (.el [(.int .i64 n3), (.str s), (.str s2)]) <| tO (el_of (f := E_kinfolkref09_Field.pv) h3) <| tR (kinfolkref09_Right_runs N n3 s s2 _ h4) <| tF (not_of2 h5) <| tR (kinfolkref09_Put_runs r2 n3 s s2 _ h6) <| tN
        exact ⟨t_.ev, kinfolkref09_Make_L0_st r n (.inr (r3, (iadd .i64 n2 1))), .k0 t_.pf (by kernel_rfl), .same (by kernel_rfl)⟩
      · have h := some_of h
        subst h
        have t_ := tT h1 <| tO h2 <| tE (.el [(.int .i64 n3), (.str s), (.str s2)]) <| tO (el_of (f := E_kinfolkref09_Field.pv) h3) <| tR (kinfolkref09_Right_runs N n3 s s2 _ h4) <| tT (not_of h5) <| tN
        exact ⟨t_.ev, (kinfolkref09_Make_L0_ex r n (.inl n4)).2, .k0 t_.pf (by kernel_rfl), .same (by kernel_rfl)⟩
    · have h := some_of h
      subst h
      have t_ := tF h1 <| tN
      exact ⟨t_.ev, ⟨[(11, (.av (.one (.pv (.bool false))))), (4, (.av (.one (.pv (.recs 3 (List.map E_kinfolkref09_Field.pv r2) false))))), (8, (.av (.one (.pv (.recs 3 (List.map E_kinfolkref09_Field.pv r) false))))), (9, (.av (.one (.pv (.int .i64 n))))), (10, (.av (.one (.pv (.int .i64 n2))))), (11, (.av (.one (.pv (.bool (decide ((n2 : Int) < n)))))))], [], []⟩, .k0 t_.pf (by kernel_rfl), ⟨⟨⟨_, rfl, .eq rfl⟩, trivial⟩, trivial, trivial⟩⟩
theorem kinfolkref09_Make_L0_runs (N : Nat) (r : List E_kinfolkref09_Field) (n : Int) (s_ : (Unit) ⊕ (List E_kinfolkref09_Field × Int)) (r_ : (Int) ⊕ ((Unit) ⊕ (List E_kinfolkref09_Field))) (h : runL (kinfolkref09_Make_L0_step N r n) s_ = some r_) : LRuns Tryz.prog (lEnv Tryz.prog cfg 53 0).nt 0 (.loop (loopAt Tryz.prog 53 0)) (kinfolkref09_Make_L0_st r n s_) (kinfolkref09_Make_L0_ex r n r_).1 (kinfolkref09_Make_L0_ex r n r_).2 :=
  loop_run h (kinfolkref09_Make_L0_ok N r n) (by intro r_; rcases r_ with r1 | (_ | r1) <;> simp [kinfolkref09_Make_L0_ex])
/-! ### kinfolkref09_Make -/
noncomputable def kinfolkref09_Make (N : Nat) (l : List E_kinfolkref09_Field) : Option (List E_kinfolkref09_Field × Int) :=
  (runL (kinfolkref09_Make_L0_step N l (((List.map E_kinfolkref09_Field.pv l)).length : Int)) (.inl ())).bind fun z_ => match z_ with
  | .inl n =>
    some ([], n)
  | .inr (.inl _) =>
    some ([], 0)
  | .inr (.inr r) =>
    bif (decide ((8 : Int) < (((List.map E_kinfolkref09_Field.pv r)).length : Int))) then
      some ([], 8)
    else
      some (r, 0)
theorem kinfolkref09_Make_runs (N : Nat) (l : List E_kinfolkref09_Field) (r_ : List E_kinfolkref09_Field × Int) (h : kinfolkref09_Make N l = some r_) : Runs Tryz.prog 53 [(.one (.pv (.recs 3 (List.map E_kinfolkref09_Field.pv l) false)))] [] [] (kinfolkref09_Make_out l r_) := by
  unfold kinfolkref09_Make at h
  obtain ⟨z_, h1, h⟩ := bind_of h
  rcases z_ with n | (_ | r)
  · have h := some_of h
    subst h
    have t_ := tL (kinfolkref09_Make_L0_runs N l (((List.map E_kinfolkref09_Field.pv l)).length : Int) _ _ h1) <| tN
    have e_ : Runs Tryz.prog 53 [(.one (.pv (.recs 3 (List.map E_kinfolkref09_Field.pv l) false)))] [] [] ([(.one (.pv .nils)), (.one (.pv (.int .i64 n)))], [], []) := runs_of (C := cfg) (objs := []) (sc := t_.ev) (.k0 t_.pf (by kernel_rfl))
    exact e_.out ⟨.pv (.nilsR), .eq rfl, trivial⟩ trivial trivial rfl
  · have h := some_of h
    subst h
    have t_ := tL (kinfolkref09_Make_L0_runs N l (((List.map E_kinfolkref09_Field.pv l)).length : Int) _ _ h1) <| tF (rfl : false = false) <| tN
    have e_ : Runs Tryz.prog 53 [(.one (.pv (.recs 3 (List.map E_kinfolkref09_Field.pv l) false)))] [] [] ([(.one (.pv .nils)), (.one (.pv (.int .i64 0)))], [], []) := runs_of (C := cfg) (objs := []) (sc := t_.ev) (.k0 t_.pf (by kernel_rfl))
    exact e_.out ⟨.pv (.nilsR), .eq rfl, trivial⟩ trivial trivial rfl
  · have q_1 := (kinfolkref09_Make_L0_runs N l (((List.map E_kinfolkref09_Field.pv l)).length : Int) _ _ h1)
    rcases cond_of h with ⟨h2, h⟩ | ⟨h2, h⟩
    · have h := some_of h
      subst h
      have t_ := tL q_1 <| tT h2 <| tN
      have e_ : Runs Tryz.prog 53 [(.one (.pv (.recs 3 (List.map E_kinfolkref09_Field.pv l) false)))] [] [] ([(.one (.pv .nils)), (.one (.pv (.int .i64 8)))], [], []) := runs_of (C := cfg) (objs := []) (sc := t_.ev) (.k0 t_.pf (by kernel_rfl))
      exact e_.out ⟨.pv (.nilsR), .eq rfl, trivial⟩ trivial trivial rfl
    · have h := some_of h
      subst h
      have t_ := tL q_1 <| tF h2 <| tN
      exact runs_of (C := cfg) (objs := []) (sc := t_.ev) (.k0 t_.pf (by kernel_rfl))
/-! ### kinfolklaw10_made -/
noncomputable def kinfolklaw10_made (N : Nat) (l : List E_card_Field) : Option (List E_card_Field × List E_kinfolkref09_Field) :=
  (kinfolklaw10_few l).bind fun r =>
  (runL (kinfolklaw10_made_L0_2_step (((List.map E_card_Field.pv r)).length : Int) r) (0, [])).bind fun r2 =>
  (card_Make (List.take ((List.map E_card_Field.pv r2)).length r2)).bind fun (r3, n) =>
  (kinfolklaw10_own (List.take ((List.map E_card_Field.pv r2)).length r2)).bind fun r4 =>
  (kinfolkref09_Make N (List.take ((List.map E_kinfolkref09_Field.pv r4)).length r4)).bind fun (r5, n2) =>
  some (r3, r5)
theorem kinfolklaw10_made_runs (N : Nat) (l : List E_card_Field) (r_ : List E_card_Field × List E_kinfolkref09_Field) (h : kinfolklaw10_made N l = some r_) : Runs Tryz.prog 31 [(.one (.pv (.recs 3 (List.map E_card_Field.pv l) false)))] [] [] (kinfolklaw10_made_out l r_) := by
  unfold kinfolklaw10_made at h
  obtain ⟨r, h1, h⟩ := bind_of h
  obtain ⟨r2, h2, h⟩ := bind_of h
  obtain ⟨⟨r3, n⟩, h3, h⟩ := bind_of h
  obtain ⟨r4, h4, h⟩ := bind_of h
  obtain ⟨⟨r5, n2⟩, h5, h⟩ := bind_of h
  have h := some_of h
  subst h
  have t_ := tR (kinfolklaw10_few_runs l _ h1) <| tL (LRuns.coe (s0 := ⟨[(2, (.av (.one (.ref 0 0)))), (4, (.av (.one (.own 0 0 0 false)))), (12, (.av (.one (.own 1 0 ((List.map E_card_Field.pv r)).length false)))), (13, (.av (.one (.pv (.int .i64 (((List.map E_card_Field.pv r)).length : Int)))))), (14, (.av (.one (.pv (.int .i64 0)))))], [(0, [(.pv .nils)])], [(0, (.live (.recs 3 []))), (1, (.live (.recs 3 (List.map E_card_Field.pv r))))]⟩) (kinfolklaw10_made_L0_2_runs (((List.map E_card_Field.pv r)).length : Int) r _ _ h2) ⟨⟨⟨_, rfl, .eq rfl⟩, ⟨_, rfl, .own (by first | rfl | (simp only [List.take_length]; done) | (simp only [List.take_length, List.length_append, List.drop_zero, List.map_append, List.map_take, List.map_drop, List.map_replicate, List.map_cons, List.map_nil, List.append_nil, List.nil_append, E_card_Field.pv, E_kinfolkref09_Field.pv, E_L_card_Field.pv, E_card_Card.pv, E_card_Field.upd, E_kinfolkref09_Field.upd, E_L_card_Field.upd, E_card_Card.upd]; done) | (simp; done))⟩, ⟨_, rfl, .eq rfl⟩, ⟨_, rfl, .eq rfl⟩, ⟨_, rfl, .eq rfl⟩, trivial⟩, ⟨⟨rfl, ⟨.eq rfl, trivial⟩⟩, trivial⟩, ⟨⟨rfl, .recs (.nil)⟩, ⟨rfl, .eq rfl⟩, trivial⟩⟩) <| tR (Runs.coe (as' := [(.one (.pv (.recs 3 (List.take ((List.map E_card_Field.pv r2)).length (List.map E_card_Field.pv r2)) false)))]) (objs' := []) (rows' := []) (card_Make_runs (List.take ((List.map E_card_Field.pv r2)).length r2) _ h3) ⟨.pv (.recsT (.eq (by first | rfl | (simp only [List.take_length]; done) | (simp only [List.take_length, List.length_append, List.drop_zero, List.map_append, List.map_take, List.map_drop, List.map_replicate, List.map_cons, List.map_nil, List.append_nil, List.nil_append, E_card_Field.pv, E_kinfolkref09_Field.pv, E_L_card_Field.pv, E_card_Card.pv, E_card_Field.upd, E_kinfolkref09_Field.upd, E_L_card_Field.upd, E_card_Card.upd]; done) | (simp; done)))), trivial⟩ trivial trivial) <| tR (Runs.coe (as' := [(.one (.pv (.recs 3 (List.take ((List.map E_card_Field.pv r2)).length (List.map E_card_Field.pv r2)) false)))]) (objs' := []) (rows' := []) (kinfolklaw10_own_runs (List.take ((List.map E_card_Field.pv r2)).length r2) _ h4) ⟨.pv (.recsT (.eq (by first | rfl | (simp only [List.take_length]; done) | (simp only [List.take_length, List.length_append, List.drop_zero, List.map_append, List.map_take, List.map_drop, List.map_replicate, List.map_cons, List.map_nil, List.append_nil, List.nil_append, E_card_Field.pv, E_kinfolkref09_Field.pv, E_L_card_Field.pv, E_card_Card.pv, E_card_Field.upd, E_kinfolkref09_Field.upd, E_L_card_Field.upd, E_card_Card.upd]; done) | (simp; done)))), trivial⟩ trivial trivial) <| tR (Runs.coe (as' := [(.one (.pv (.recs 3 (List.take ((List.map E_kinfolkref09_Field.pv r4)).length (List.map E_kinfolkref09_Field.pv r4)) false)))]) (objs' := []) (rows' := []) (kinfolkref09_Make_runs N (List.take ((List.map E_kinfolkref09_Field.pv r4)).length r4) _ h5) ⟨.pv (.recsT (.eq (by first | rfl | (simp only [List.take_length]; done) | (simp only [List.take_length, List.length_append, List.drop_zero, List.map_append, List.map_take, List.map_drop, List.map_replicate, List.map_cons, List.map_nil, List.append_nil, List.nil_append, E_card_Field.pv, E_kinfolkref09_Field.pv, E_L_card_Field.pv, E_card_Card.pv, E_card_Field.upd, E_kinfolkref09_Field.upd, E_L_card_Field.upd, E_card_Card.upd]; done) | (simp; done)))), trivial⟩ trivial trivial) <| tN
  exact runs_of (C := cfg) (objs := []) (sc := t_.ev) (.k0 t_.pf (by kernel_rfl))
/-! ### kinfolklaw10_PaperRows_L0_2 -/
def kinfolklaw10_PaperRows_L0_2_st (tail : Int) (r : List E_L_card_Field) (n : Int) : Int × List Int × List E_card_Card → St
  | (n2, l, r2) => ⟨[(1, (.av (.one (.pv (.int .u8 tail))))), (5, (.av (.one (.own 0 0 (l).length false)))), (6, (.av (.one (.own 1 0 ((List.map E_card_Card.pv r2)).length false)))), (21, (.av (.one (.pv (.recs 1 (List.map E_L_card_Field.pv r) false))))), (22, (.av (.one (.pv (.int .i64 n))))), (23, (.av (.one (.pv (.int .i64 n2)))))], [], [(0, (.live (.ints .u8 l))), (1, (.live (.recs 1 (List.map E_card_Card.pv r2))))]⟩
def kinfolklaw10_PaperRows_L0_2_ex (tail : Int) (r : List E_L_card_Field) (n : Int) : List Int × List E_card_Card → Ex × St
  | (r1, r2) => ((.exit 0), ⟨[(1, (.av (.one (.pv (.int .u8 tail))))), (5, (.av (.one (.own 0 0 (r1).length false)))), (6, (.av (.one (.own 1 0 ((List.map E_card_Card.pv r2)).length false))))], [], [(0, (.live (.ints .u8 r1))), (1, (.live (.recs 1 (List.map E_card_Card.pv r2))))]⟩)
noncomputable def kinfolklaw10_PaperRows_L0_2_step (N : Nat) (tail : Int) (r : List E_L_card_Field) (n : Int) : Int × List Int × List E_card_Card → Option ((Int × List Int × List E_card_Card) ⊕ (List Int × List E_card_Card))
  | (n2, l, r2) =>
  bif (decide ((n2 : Int) < n)) then
    bif decide ((0 : Int) ≤ n2) && decide ((n2 : Int) < (((List.map E_L_card_Field.pv r)).length : Int)) then
    (r[(n2).toNat]?).bind fun e_ => match e_ with
    | .mk r3 =>
    (kinfolklaw10_made N r3).bind fun (r4, r5) =>
    bif fits (((List.map E_card_Card.pv r2) ++ ([[(.recs 3 (List.map E_card_Field.pv r4) false)]] : List (List PV)))).length then
    (paper_PutCard l r4).bind fun l_ =>
    some (.inl ((iadd .i64 n2 1), l_, (r2 ++ [(E_card_Card.mk r4)])))
    else none
    else none
  else
    some (.inr (l, r2))
theorem kinfolklaw10_PaperRows_L0_2_ok (N : Nat) (tail : Int) (r : List E_L_card_Field) (n : Int) (s_ : Int × List Int × List E_card_Card) (z_ : (Int × List Int × List E_card_Card) ⊕ (List Int × List E_card_Card)) (h : kinfolklaw10_PaperRows_L0_2_step N tail r n s_ = some z_) : RoundOk Tryz.prog cfg 7 0 (loopAt Tryz.prog 7 0) (kinfolklaw10_PaperRows_L0_2_st tail r n) (kinfolklaw10_PaperRows_L0_2_ex tail r n) s_ z_ := by
  rcases s_ with ⟨n2, l, r2⟩
  rcases cond_of h with ⟨h1, h⟩ | ⟨h1, h⟩
  · obtain ⟨h2, h⟩ := need_of h
    obtain ⟨⟨r3⟩, h3, h⟩ := bind_of h
    obtain ⟨⟨r4, r5⟩, h4, h⟩ := bind_of h
    obtain ⟨h5, h⟩ := need_of h
    obtain ⟨l_, h6, h⟩ := bind_of h
    have h := some_of h
    subst h
    have t_ := tT h1 <| tO h2 <| tE (.el [(.recs 3 (List.map E_card_Field.pv r3) false)]) <| tO (el_of (f := E_L_card_Field.pv) h3) <| tR (kinfolklaw10_made_runs N r3 _ h4) <| tO (show (Nat.beq ((List.map E_card_Card.pv r2)).length ((List.map E_card_Card.pv r2)).length) = true from Nat.beq_refl _) <| tO h5 <| tR (Runs.coe (as' := [(.one (.pv (.ints .u8 (List.take (l).length l) false))), (.agg [(.pv (.recs 3 (List.map E_card_Field.pv r4) false))])]) (objs' := []) (rows' := []) (paper_PutCard_runs l r4 _ h6) ⟨.pv (.ints (by first | rfl | (simp only [List.take_length]; done) | (simp only [List.take_length, List.length_append, List.drop_zero, List.map_append, List.map_take, List.map_drop, List.map_replicate, List.map_cons, List.map_nil, List.append_nil, List.nil_append, E_card_Field.pv, E_kinfolkref09_Field.pv, E_L_card_Field.pv, E_card_Card.pv, E_card_Field.upd, E_kinfolkref09_Field.upd, E_L_card_Field.upd, E_card_Card.upd]; done) | (simp; done))), ⟨.eq rfl, trivial⟩, trivial⟩ trivial trivial) <| tN
    exact ⟨t_.ev, ⟨[(1, (.av (.one (.pv (.int .u8 tail))))), (5, (.av (.one (.own 0 0 (l_).length false)))), (6, (.av (.one (.own 1 0 (((List.map E_card_Card.pv r2) ++ ([[(.recs 3 (List.map E_card_Field.pv r4) false)]] : List (List PV)))).length false)))), (21, (.av (.one (.pv (.recs 1 (List.map E_L_card_Field.pv r) false))))), (22, (.av (.one (.pv (.int .i64 n))))), (23, (.av (.one (.pv (.int .i64 (iadd .i64 n2 1))))))], [], [(0, (.live (.ints .u8 l_))), (1, (.live (.recs 1 ((List.map E_card_Card.pv r2) ++ ([[(.recs 3 (List.map E_card_Field.pv r4) false)]] : List (List PV))))))]⟩, .k0 t_.pf (by kernel_rfl), ⟨⟨⟨_, rfl, .eq rfl⟩, ⟨_, rfl, .eq rfl⟩, ⟨_, rfl, .own (by first | rfl | (simp only [List.take_length]; done) | (simp only [List.take_length, List.length_append, List.drop_zero, List.map_append, List.map_take, List.map_drop, List.map_replicate, List.map_cons, List.map_nil, List.append_nil, List.nil_append, E_card_Field.pv, E_kinfolkref09_Field.pv, E_L_card_Field.pv, E_card_Card.pv, E_card_Field.upd, E_kinfolkref09_Field.upd, E_L_card_Field.upd, E_card_Card.upd]; done) | (simp; done))⟩, ⟨_, rfl, .eq rfl⟩, ⟨_, rfl, .eq rfl⟩, ⟨_, rfl, .eq rfl⟩, trivial⟩, trivial, ⟨⟨rfl, .eq rfl⟩, ⟨rfl, .recs (.app (.eq rfl) (.cons (.cons (.eq rfl) (.nil)) (.nil)))⟩, trivial⟩⟩⟩
  · have h := some_of h
    subst h
    have t_ := tF h1 <| tN
    exact ⟨t_.ev, ⟨[(24, (.av (.one (.pv (.bool false))))), (1, (.av (.one (.pv (.int .u8 tail))))), (5, (.av (.one (.own 0 0 (l).length false)))), (6, (.av (.one (.own 1 0 ((List.map E_card_Card.pv r2)).length false)))), (21, (.av (.one (.pv (.recs 1 (List.map E_L_card_Field.pv r) false))))), (22, (.av (.one (.pv (.int .i64 n))))), (23, (.av (.one (.pv (.int .i64 n2))))), (24, (.av (.one (.pv (.bool (decide ((n2 : Int) < n)))))))], [], [(0, (.live (.ints .u8 l))), (1, (.live (.recs 1 (List.map E_card_Card.pv r2))))]⟩, .k0 t_.pf (by kernel_rfl), ⟨⟨⟨_, rfl, .eq rfl⟩, ⟨_, rfl, .eq rfl⟩, ⟨_, rfl, .eq rfl⟩, trivial⟩, trivial, ⟨⟨rfl, .eq rfl⟩, ⟨rfl, .eq rfl⟩, trivial⟩⟩⟩
theorem kinfolklaw10_PaperRows_L0_2_runs (N : Nat) (tail : Int) (r : List E_L_card_Field) (n : Int) (s_ : Int × List Int × List E_card_Card) (r_ : List Int × List E_card_Card) (h : runL (kinfolklaw10_PaperRows_L0_2_step N tail r n) s_ = some r_) : LRuns Tryz.prog (lEnv Tryz.prog cfg 7 0).nt 0 (.loop (loopAt Tryz.prog 7 0)) (kinfolklaw10_PaperRows_L0_2_st tail r n s_) (kinfolklaw10_PaperRows_L0_2_ex tail r n r_).1 (kinfolklaw10_PaperRows_L0_2_ex tail r n r_).2 :=
  loop_run h (kinfolklaw10_PaperRows_L0_2_ok N tail r n) (by intro r_; rcases r_ with ⟨r1, r2⟩ <;> simp [kinfolklaw10_PaperRows_L0_2_ex])
/-! ### card_Same_out -/
def card_Same_out (a : List E_card_Field) (b : List E_card_Field) : Bool → Res
  | r1 => ([(.one (.pv (.bool r1)))], [], [])
/-! ### slices_Equal_card_Field_out -/
def slices_Equal_card_Field_out (s1 : List E_card_Field) (s2 : List E_card_Field) : Bool → Res
  | r1 => ([(.one (.pv (.bool r1)))], [], [])
/-! ### slices_Equal_card_Field_L0 -/
def slices_Equal_card_Field_L0_st (s1 : List E_card_Field) (s2 : List E_card_Field) (n : Int) : Int → St
  | n2 => ⟨[(0, (.av (.one (.pv (.recs 3 (List.map E_card_Field.pv s1) false))))), (1, (.av (.one (.pv (.recs 3 (List.map E_card_Field.pv s2) false))))), (12, (.av (.one (.pv (.int .i64 n))))), (13, (.av (.one (.pv (.int .i64 n2)))))], [], []⟩
def slices_Equal_card_Field_L0_ex (s1 : List E_card_Field) (s2 : List E_card_Field) (n : Int) : (Unit) ⊕ (Unit) → Ex × St
  | .inl _ => (.ret, ⟨[(4, (.av (.one (.pv (.bool false)))))], [], []⟩)
  | .inr _ => ((.exit 0), ⟨[], [], []⟩)
noncomputable def slices_Equal_card_Field_L0_step (s1 : List E_card_Field) (s2 : List E_card_Field) (n : Int) : Int → Option ((Int) ⊕ ((Unit) ⊕ (Unit)))
  | n2 =>
  bif (decide ((n2 : Int) < n)) then
    bif decide ((0 : Int) ≤ n2) && decide ((n2 : Int) < (((List.map E_card_Field.pv s1)).length : Int)) then
    (s1[(n2).toNat]?).bind fun e_ => match e_ with
    | .mk n3 s s3 =>
    bif decide ((0 : Int) ≤ n2) && decide ((n2 : Int) < (((List.map E_card_Field.pv s2)).length : Int)) then
    (s2[(n2).toNat]?).bind fun e_ => match e_ with
    | .mk n4 s4 s5 =>
    bif ((decide ((n3 : Int) = n4)) && ((decide ((s : ByteArray) = s4)) && ((decide ((s3 : ByteArray) = s5)) && true))) then
      some (.inl (iadd .i64 n2 1))
    else
      some (.inr (.inl ()))
    else none
    else none
  else
    some (.inr (.inr ()))
theorem slices_Equal_card_Field_L0_ok (s1 : List E_card_Field) (s2 : List E_card_Field) (n : Int) (n2 : Int) (z_ : (Int) ⊕ ((Unit) ⊕ (Unit))) (h : slices_Equal_card_Field_L0_step s1 s2 n n2 = some z_) : RoundOk Tryz.prog cfg 47 0 (loopAt Tryz.prog 47 0) (slices_Equal_card_Field_L0_st s1 s2 n) (slices_Equal_card_Field_L0_ex s1 s2 n) n2 z_ := by
  rcases cond_of h with ⟨h1, h⟩ | ⟨h1, h⟩
  · obtain ⟨h2, h⟩ := need_of h
    obtain ⟨⟨n3, s, s3⟩, h3, h⟩ := bind_of h
    obtain ⟨h4, h⟩ := need_of h
    obtain ⟨⟨n4, s4, s5⟩, h5, h⟩ := bind_of h
    rcases cond_of h with ⟨h6, h⟩ | ⟨h6, h⟩
    · have h := some_of h
      subst h
      have t_ := tT h1 <| tO h2 <| tE (.el [(.int .i64 n3), (.str s), (.str s3)]) <| tO (el_of (f := E_card_Field.pv) h3) <| tO h4 <| tE (.el [(.int .i64 n4), (.str s4), (.str s5)]) <| tO (el_of (f := E_card_Field.pv) h5) <| tF (not_of2 h6) <| tN
      exact ⟨t_.ev, slices_Equal_card_Field_L0_st s1 s2 n (iadd .i64 n2 1), .k0 t_.pf (by kernel_rfl), .same (by kernel_rfl)⟩
    · have h := some_of h
      subst h
      have t_ := tT h1 <| tO h2 <| tE (.el [(.int .i64 n3), (.str s), (.str s3)]) <| tO (el_of (f := E_card_Field.pv) h3) <| tO h4 <| tE (.el [(.int .i64 n4), (.str s4), (.str s5)]) <| tO (el_of (f := E_card_Field.pv) h5) <| tT (not_of h6) <| tN
      exact ⟨t_.ev, (slices_Equal_card_Field_L0_ex s1 s2 n (.inl ())).2, .k0 t_.pf (by kernel_rfl), .same (by kernel_rfl)⟩
  · have h := some_of h
    subst h
    have t_ := tF h1 <| tN
    exact ⟨t_.ev, ⟨[(14, (.av (.one (.pv (.bool false))))), (0, (.av (.one (.pv (.recs 3 (List.map E_card_Field.pv s1) false))))), (1, (.av (.one (.pv (.recs 3 (List.map E_card_Field.pv s2) false))))), (12, (.av (.one (.pv (.int .i64 n))))), (13, (.av (.one (.pv (.int .i64 n2))))), (14, (.av (.one (.pv (.bool (decide ((n2 : Int) < n)))))))], [], []⟩, .k0 t_.pf (by kernel_rfl), ⟨trivial, trivial, trivial⟩⟩
theorem slices_Equal_card_Field_L0_runs (s1 : List E_card_Field) (s2 : List E_card_Field) (n : Int) (s_ : Int) (r_ : (Unit) ⊕ (Unit)) (h : runL (slices_Equal_card_Field_L0_step s1 s2 n) s_ = some r_) : LRuns Tryz.prog (lEnv Tryz.prog cfg 47 0).nt 0 (.loop (loopAt Tryz.prog 47 0)) (slices_Equal_card_Field_L0_st s1 s2 n s_) (slices_Equal_card_Field_L0_ex s1 s2 n r_).1 (slices_Equal_card_Field_L0_ex s1 s2 n r_).2 :=
  loop_run h (slices_Equal_card_Field_L0_ok s1 s2 n) (by intro r_; rcases r_ with _ | _ <;> simp [slices_Equal_card_Field_L0_ex])
/-! ### slices_Equal_card_Field -/
noncomputable def slices_Equal_card_Field (s1 : List E_card_Field) (s2 : List E_card_Field) : Option (Bool) :=
  bif (decide (((((List.map E_card_Field.pv s1)).length : Int) : Int) = (((List.map E_card_Field.pv s2)).length : Int))) then
    (runL (slices_Equal_card_Field_L0_step s1 s2 (((List.map E_card_Field.pv s1)).length : Int)) 0).bind fun z_ => match z_ with
    | .inl _ =>
      some false
    | .inr _ =>
      some true
  else
    some false
theorem slices_Equal_card_Field_runs (s1 : List E_card_Field) (s2 : List E_card_Field) (r_ : Bool) (h : slices_Equal_card_Field s1 s2 = some r_) : Runs Tryz.prog 47 [(.one (.pv (.recs 3 (List.map E_card_Field.pv s1) false))), (.one (.pv (.recs 3 (List.map E_card_Field.pv s2) false)))] [] [] (slices_Equal_card_Field_out s1 s2 r_) := by
  unfold slices_Equal_card_Field at h
  rcases cond_of h with ⟨h1, h⟩ | ⟨h1, h⟩
  · obtain ⟨z_, h2, h⟩ := bind_of h
    rcases z_ with _ | _
    · have h := some_of h
      subst h
      have t_ := tF (not_of2 h1) <| tL (slices_Equal_card_Field_L0_runs s1 s2 (((List.map E_card_Field.pv s1)).length : Int) _ _ h2) <| tN
      exact runs_of (C := cfg) (objs := []) (sc := t_.ev) (.k0 t_.pf (by kernel_rfl))
    · have h := some_of h
      subst h
      have t_ := tF (not_of2 h1) <| tL (slices_Equal_card_Field_L0_runs s1 s2 (((List.map E_card_Field.pv s1)).length : Int) _ _ h2) <| tN
      exact runs_of (C := cfg) (objs := []) (sc := t_.ev) (.k0 t_.pf (by kernel_rfl))
  · have h := some_of h
    subst h
    have t_ := tT (not_of h1) <| tN
    exact runs_of (C := cfg) (objs := []) (sc := t_.ev) (.k0 t_.pf (by kernel_rfl))
/-! ### card_Same -/
noncomputable def card_Same (a : List E_card_Field) (b : List E_card_Field) : Option (Bool) :=
  (slices_Equal_card_Field a b).bind fun b2 =>
  some b2
theorem card_Same_runs (a : List E_card_Field) (b : List E_card_Field) (r_ : Bool) (h : card_Same a b = some r_) : Runs Tryz.prog 21 [(.agg [(.pv (.recs 3 (List.map E_card_Field.pv a) false))]), (.agg [(.pv (.recs 3 (List.map E_card_Field.pv b) false))])] [] [] (card_Same_out a b r_) := by
  unfold card_Same at h
  obtain ⟨b2, h1, h⟩ := bind_of h
  have h := some_of h
  subst h
  have t_ := tR (slices_Equal_card_Field_runs a b _ h1) <| tN
  exact runs_of (C := cfg) (objs := []) (sc := t_.ev) (.k0 t_.pf (by kernel_rfl))
/-! ### kinfolklaw10_PaperRows_L1 -/
def kinfolklaw10_PaperRows_L1_st (tail : Int) (n : Int) (r : List E_card_Card) : Int × List Int × Int → St
  | (n2, l, n3) => ⟨[(1, (.av (.one (.pv (.int .u8 tail))))), (11, (.av (.one (.ref 0 0)))), (45, (.av (.one (.own 0 0 ((List.map E_card_Card.pv r)).length false)))), (46, (.av (.one (.pv (.int .i64 n))))), (47, (.av (.one (.pv (.int .i64 n2)))))], [(0, [(.pv (.ints .u8 l false)), (.pv (.int .i64 n3))])], [(0, (.live (.recs 1 (List.map E_card_Card.pv r))))]⟩
def kinfolklaw10_PaperRows_L1_ex (tail : Int) (n : Int) (r : List E_card_Card) : (Unit) ⊕ (List Int × Int) → Ex × St
  | .inl _ => (.ret, ⟨[(4, (.av (.one (.pv (.bool false)))))], [], []⟩)
  | .inr (r1, r2) => ((.exit 2), ⟨[(1, (.av (.one (.pv (.int .u8 tail))))), (11, (.av (.one (.ref 0 0))))], [(0, [(.pv (.ints .u8 r1 false)), (.pv (.int .i64 r2))])], [(0, (.live (.recs 1 (List.map E_card_Card.pv r))))]⟩)
noncomputable def kinfolklaw10_PaperRows_L1_step (tail : Int) (n : Int) (r : List E_card_Card) : Int × List Int × Int → Option ((Int × List Int × Int) ⊕ ((Unit) ⊕ (List Int × Int)))
  | (n2, l, n3) =>
  bif (decide ((n2 : Int) < n)) then
    bif decide ((0 : Int) ≤ n2) && decide ((n2 : Int) < (((List.map E_card_Card.pv r)).length : Int)) then
    (r[(0 + (n2).toNat)]?).bind fun e_ => match e_ with
    | .mk r2 =>
    (paper_GetCard l n3).bind fun (r3, l_, n4) =>
    (card_Same r3 r2).bind fun b =>
    bif b then
      (wire_In_Err l_ n4).bind fun _ =>
      bif (decide ((n4 : Int) = 0)) then
        some (.inl ((iadd .i64 n2 1), l_, n4))
      else
        some (.inr (.inl ()))
    else
      some (.inr (.inl ()))
    else none
  else
    some (.inr (.inr (l, n3)))
theorem kinfolklaw10_PaperRows_L1_ok (tail : Int) (n : Int) (r : List E_card_Card) (s_ : Int × List Int × Int) (z_ : (Int × List Int × Int) ⊕ ((Unit) ⊕ (List Int × Int))) (h : kinfolklaw10_PaperRows_L1_step tail n r s_ = some z_) : RoundOk Tryz.prog cfg 7 0 (loopAt Tryz.prog 7 1) (kinfolklaw10_PaperRows_L1_st tail n r) (kinfolklaw10_PaperRows_L1_ex tail n r) s_ z_ := by
  rcases s_ with ⟨n2, l, n3⟩
  rcases cond_of h with ⟨h1, h⟩ | ⟨h1, h⟩
  · obtain ⟨h2, h⟩ := need_of h
    obtain ⟨⟨r2⟩, h3, h⟩ := bind_of h
    obtain ⟨⟨r3, l_, n4⟩, h4, h⟩ := bind_of h
    obtain ⟨b, h5, h⟩ := bind_of h
    rcases cond_of h with ⟨h6, h⟩ | ⟨h6, h⟩
    · obtain ⟨_, h7, h⟩ := bind_of h
      rcases cond_of h with ⟨h8, h⟩ | ⟨h8, h⟩
      · have h := some_of h
        subst h
        have t_ := tT h1 <| tO h2 <| tE (.el [(.recs 3 (List.map E_card_Field.pv r2) false)]) <| tO (el_of (f := E_card_Card.pv) h3) <| tR (paper_GetCard_runs l n3 _ h4) <| tR (paper_GetCard_runs l n3 _ h4) <| tR (card_Same_runs r3 r2 _ h5) <| tF (not_of2 h6) <| tR (wire_In_Err_runs l_ n4 _ h7) <| tF (not_of2 h8) <| tN
        exact ⟨t_.ev, kinfolklaw10_PaperRows_L1_st tail n r ((iadd .i64 n2 1), l_, n4), .k1 t_.pf (by kernel_rfl) (by kernel_rfl), .same (by kernel_rfl)⟩
      · have h := some_of h
        subst h
        have t_ := tT h1 <| tO h2 <| tE (.el [(.recs 3 (List.map E_card_Field.pv r2) false)]) <| tO (el_of (f := E_card_Card.pv) h3) <| tR (paper_GetCard_runs l n3 _ h4) <| tR (paper_GetCard_runs l n3 _ h4) <| tR (card_Same_runs r3 r2 _ h5) <| tF (not_of2 h6) <| tR (wire_In_Err_runs l_ n4 _ h7) <| tT (not_of h8) <| tN
        exact ⟨t_.ev, (kinfolklaw10_PaperRows_L1_ex tail n r (.inl ())).2, .k1 t_.pf (by kernel_rfl) (by kernel_rfl), .same (by kernel_rfl)⟩
    · have h := some_of h
      subst h
      have t_ := tT h1 <| tO h2 <| tE (.el [(.recs 3 (List.map E_card_Field.pv r2) false)]) <| tO (el_of (f := E_card_Card.pv) h3) <| tR (paper_GetCard_runs l n3 _ h4) <| tR (paper_GetCard_runs l n3 _ h4) <| tR (card_Same_runs r3 r2 _ h5) <| tT (not_of h6) <| tT (rfl : true = true) <| tN
      exact ⟨t_.ev, (kinfolklaw10_PaperRows_L1_ex tail n r (.inl ())).2, .k1 t_.pf (by kernel_rfl) (by kernel_rfl), .same (by kernel_rfl)⟩
  · have h := some_of h
    subst h
    have t_ := tF h1 <| tN
    exact ⟨t_.ev, ⟨[(48, (.av (.one (.pv (.bool false))))), (1, (.av (.one (.pv (.int .u8 tail))))), (11, (.av (.one (.ref 0 0)))), (45, (.av (.one (.own 0 0 ((List.map E_card_Card.pv r)).length false)))), (46, (.av (.one (.pv (.int .i64 n))))), (47, (.av (.one (.pv (.int .i64 n2))))), (48, (.av (.one (.pv (.bool (decide ((n2 : Int) < n)))))))], [(0, [(.pv (.ints .u8 l false)), (.pv (.int .i64 n3))])], [(0, (.live (.recs 1 (List.map E_card_Card.pv r))))]⟩, .k0 t_.pf (by kernel_rfl), ⟨⟨⟨_, rfl, .eq rfl⟩, ⟨_, rfl, .eq rfl⟩, trivial⟩, ⟨⟨rfl, ⟨.eq rfl, .eq rfl, trivial⟩⟩, trivial⟩, ⟨⟨rfl, .eq rfl⟩, trivial⟩⟩⟩
theorem kinfolklaw10_PaperRows_L1_runs (tail : Int) (n : Int) (r : List E_card_Card) (s_ : Int × List Int × Int) (r_ : (Unit) ⊕ (List Int × Int)) (h : runL (kinfolklaw10_PaperRows_L1_step tail n r) s_ = some r_) : LRuns Tryz.prog (lEnv Tryz.prog cfg 7 0).nt 0 (.loop (loopAt Tryz.prog 7 1)) (kinfolklaw10_PaperRows_L1_st tail n r s_) (kinfolklaw10_PaperRows_L1_ex tail n r r_).1 (kinfolklaw10_PaperRows_L1_ex tail n r r_).2 :=
  loop_run h (kinfolklaw10_PaperRows_L1_ok tail n r) (by intro r_; rcases r_ with _ | ⟨r1, r2⟩ <;> simp [kinfolklaw10_PaperRows_L1_ex])
/-! ### kinfolklaw10_PaperRows -/
noncomputable def kinfolklaw10_PaperRows (N : Nat) (l : List E_L_card_Field) (tail : Int) : Option (Bool) :=
  (kinfolklaw10_awake).bind fun b =>
  bif b then
    bif decide ((0 : Int) ≤ 0) && decide ((0 : Int) ≤ (if (5 : Int) < (((List.map E_L_card_Field.pv l)).length : Int) then 5 else (((List.map E_L_card_Field.pv l)).length : Int))) && decide (((if (5 : Int) < (((List.map E_L_card_Field.pv l)).length : Int) then 5 else (((List.map E_L_card_Field.pv l)).length : Int)) : Int) ≤ (((List.map E_L_card_Field.pv l)).length : Int)) && decide (((if (5 : Int) < (((List.map E_L_card_Field.pv l)).length : Int) then 5 else (((List.map E_L_card_Field.pv l)).length : Int)) : Int) = (if (5 : Int) < (((List.map E_L_card_Field.pv l)).length : Int) then 5 else (((List.map E_L_card_Field.pv l)).length : Int))) then
    (runL (kinfolklaw10_PaperRows_L0_2_step N tail (List.take ((if (5 : Int) < (((List.map E_L_card_Field.pv l)).length : Int) then 5 else (((List.map E_L_card_Field.pv l)).length : Int)) - 0).toNat l) (((List.take ((if (5 : Int) < (((List.map E_L_card_Field.pv l)).length : Int) then 5 else (((List.map E_L_card_Field.pv l)).length : Int)) - 0).toNat (List.map E_L_card_Field.pv l))).length : Int)) (0, [], [])).bind fun (l_, r) =>
    bif fits ((l_ ++ [tail])).length then
    (wire_Of (l_ ++ [tail])).bind fun _ =>
    (runL (kinfolklaw10_PaperRows_L1_step tail (((List.map E_card_Card.pv r)).length : Int) r) (0, (l_ ++ [tail]), 0)).bind fun z_ => match z_ with
    | .inl _ =>
      some false
    | .inr (l_2, n) =>
      (wire_In_Left l_2 n).bind fun n2 =>
      bif (decide ((n2 : Int) = 1)) then
        (wire_In_Byte l_2 n).bind fun (n3, l_3, n4) =>
        bif (decide ((n3 : Int) = tail)) then
          (wire_In_End l_3 n4).bind fun (n5, n6) =>
          some (decide ((n5 : Int) = 0))
        else
          some false
      else
        some false
    else none
    else none
  else
    some false
theorem kinfolklaw10_PaperRows_runs (N : Nat) (l : List E_L_card_Field) (tail : Int) (r_ : Bool) (h : kinfolklaw10_PaperRows N l tail = some r_) : Runs Tryz.prog 7 [(.one (.pv (.recs 1 (List.map E_L_card_Field.pv l) false))), (.one (.pv (.int .u8 tail)))] [] [] (kinfolklaw10_PaperRows_out l tail r_) := by
  unfold kinfolklaw10_PaperRows at h
  obtain ⟨b, h1, h⟩ := bind_of h
  rcases cond_of h with ⟨h2, h⟩ | ⟨h2, h⟩
  · obtain ⟨h3, h⟩ := need_of h
    obtain ⟨⟨l_, r⟩, h4, h⟩ := bind_of h
    have q_4 := (LRuns.coe (s0 := ⟨[(1, (.av (.one (.pv (.int .u8 tail))))), (5, (.av (.one (.own 0 0 0 false)))), (6, (.av (.one (.own 1 0 0 false)))), (21, (.av (.one (.pv (.recs 1 (List.take ((if (5 : Int) < (((List.map E_L_card_Field.pv l)).length : Int) then 5 else (((List.map E_L_card_Field.pv l)).length : Int)) - 0).toNat (List.map E_L_card_Field.pv l)) false))))), (22, (.av (.one (.pv (.int .i64 (((List.take ((if (5 : Int) < (((List.map E_L_card_Field.pv l)).length : Int) then 5 else (((List.map E_L_card_Field.pv l)).length : Int)) - 0).toNat (List.map E_L_card_Field.pv l))).length : Int)))))), (23, (.av (.one (.pv (.int .i64 0)))))], [], [(0, (.live (.ints .u8 []))), (1, (.live (.recs 1 [])))]⟩) (kinfolklaw10_PaperRows_L0_2_runs N tail (List.take ((if (5 : Int) < (((List.map E_L_card_Field.pv l)).length : Int) then 5 else (((List.map E_L_card_Field.pv l)).length : Int)) - 0).toNat l) (((List.take ((if (5 : Int) < (((List.map E_L_card_Field.pv l)).length : Int) then 5 else (((List.map E_L_card_Field.pv l)).length : Int)) - 0).toNat (List.map E_L_card_Field.pv l))).length : Int) _ _ h4) ⟨⟨⟨_, rfl, .eq rfl⟩, ⟨_, rfl, .own (by first | rfl | (simp only [List.take_length]; done) | (simp only [List.take_length, List.length_append, List.drop_zero, List.map_append, List.map_take, List.map_drop, List.map_replicate, List.map_cons, List.map_nil, List.append_nil, List.nil_append, E_card_Field.pv, E_kinfolkref09_Field.pv, E_L_card_Field.pv, E_card_Card.pv, E_card_Field.upd, E_kinfolkref09_Field.upd, E_L_card_Field.upd, E_card_Card.upd]; done) | (simp; done))⟩, ⟨_, rfl, .own (by first | rfl | (simp only [List.take_length]; done) | (simp only [List.take_length, List.length_append, List.drop_zero, List.map_append, List.map_take, List.map_drop, List.map_replicate, List.map_cons, List.map_nil, List.append_nil, List.nil_append, E_card_Field.pv, E_kinfolkref09_Field.pv, E_L_card_Field.pv, E_card_Card.pv, E_card_Field.upd, E_kinfolkref09_Field.upd, E_L_card_Field.upd, E_card_Card.upd]; done) | (simp; done))⟩, ⟨_, rfl, .pv (.recsT (.eq (by first | rfl | (simp only [List.take_length]; done) | (simp only [List.take_length, List.length_append, List.drop_zero, List.map_append, List.map_take, List.map_drop, List.map_replicate, List.map_cons, List.map_nil, List.append_nil, List.nil_append, E_card_Field.pv, E_kinfolkref09_Field.pv, E_L_card_Field.pv, E_card_Card.pv, E_card_Field.upd, E_kinfolkref09_Field.upd, E_L_card_Field.upd, E_card_Card.upd]; done) | (simp; done))))⟩, ⟨_, rfl, .eq rfl⟩, ⟨_, rfl, .eq rfl⟩, trivial⟩, trivial, ⟨⟨rfl, .eq rfl⟩, ⟨rfl, .recs (.nil)⟩, trivial⟩⟩)
    obtain ⟨h5, h⟩ := need_of h
    obtain ⟨_, h6, h⟩ := bind_of h
    have q_6 := (Runs.coe (as' := [(.one (.pv (.ints .u8 (List.take ((l_ ++ [tail])).length (l_ ++ [tail])) false)))]) (objs' := []) (rows' := []) (wire_Of_runs (l_ ++ [tail]) _ h6) ⟨.pv (.ints (by first | rfl | (simp only [List.take_length]; done) | (simp only [List.take_length, List.length_append, List.drop_zero, List.map_append, List.map_take, List.map_drop, List.map_replicate, List.map_cons, List.map_nil, List.append_nil, List.nil_append, E_card_Field.pv, E_kinfolkref09_Field.pv, E_L_card_Field.pv, E_card_Card.pv, E_card_Field.upd, E_kinfolkref09_Field.upd, E_L_card_Field.upd, E_card_Card.upd]; done) | (simp; done))), trivial⟩ trivial trivial)
    obtain ⟨z_, h7, h⟩ := bind_of h
    rcases z_ with _ | ⟨l_2, n⟩
    · have h := some_of h
      subst h
      have t_ := tR (kinfolklaw10_awake_runs _ h1) <| tF (not_of2 h2) <| tO h3 <| tL q_4 <| tO (show (Nat.beq (l_).length (l_).length) = true from Nat.beq_refl _) <| tO h5 <| tR q_6 <| tL (kinfolklaw10_PaperRows_L1_runs tail (((List.map E_card_Card.pv r)).length : Int) r _ _ h7) <| tN
      exact runs_of (C := cfg) (objs := []) (sc := t_.ev) (.k0 t_.pf (by kernel_rfl))
    · have q_7 := (kinfolklaw10_PaperRows_L1_runs tail (((List.map E_card_Card.pv r)).length : Int) r _ _ h7)
      obtain ⟨n2, h8, h⟩ := bind_of h
      rcases cond_of h with ⟨h9, h⟩ | ⟨h9, h⟩
      · obtain ⟨⟨n3, l_3, n4⟩, h10, h⟩ := bind_of h
        rcases cond_of h with ⟨h11, h⟩ | ⟨h11, h⟩
        · obtain ⟨⟨n5, n6⟩, h12, h⟩ := bind_of h
          have h := some_of h
          subst h
          have t_ := tR (kinfolklaw10_awake_runs _ h1) <| tF (not_of2 h2) <| tO h3 <| tL q_4 <| tO (show (Nat.beq (l_).length (l_).length) = true from Nat.beq_refl _) <| tO h5 <| tR q_6 <| tL q_7 <| tR (wire_In_Left_runs l_2 n _ h8) <| tT h9 <| tR (wire_In_Byte_runs l_2 n _ h10) <| tT h11 <| tR (wire_In_End_runs l_3 n4 _ h12) <| tN
          exact runs_of (C := cfg) (objs := []) (sc := t_.ev) (.k0 t_.pf (by kernel_rfl))
        · have h := some_of h
          subst h
          have t_ := tR (kinfolklaw10_awake_runs _ h1) <| tF (not_of2 h2) <| tO h3 <| tL q_4 <| tO (show (Nat.beq (l_).length (l_).length) = true from Nat.beq_refl _) <| tO h5 <| tR q_6 <| tL q_7 <| tR (wire_In_Left_runs l_2 n _ h8) <| tT h9 <| tR (wire_In_Byte_runs l_2 n _ h10) <| tF h11 <| tN
          exact runs_of (C := cfg) (objs := []) (sc := t_.ev) (.k0 t_.pf (by kernel_rfl))
      · have h := some_of h
        subst h
        have t_ := tR (kinfolklaw10_awake_runs _ h1) <| tF (not_of2 h2) <| tO h3 <| tL q_4 <| tO (show (Nat.beq (l_).length (l_).length) = true from Nat.beq_refl _) <| tO h5 <| tR q_6 <| tL q_7 <| tR (wire_In_Left_runs l_2 n _ h8) <| tF h9 <| tF (rfl : false = false) <| tN
        exact runs_of (C := cfg) (objs := []) (sc := t_.ev) (.k0 t_.pf (by kernel_rfl))
  · have h := some_of h
    subst h
    have t_ := tR (kinfolklaw10_awake_runs _ h1) <| tT (not_of h2) <| tN
    exact runs_of (C := cfg) (objs := []) (sc := t_.ev) (.k0 t_.pf (by kernel_rfl))

end Go.Proofs.YteiikkpajcggfaaGreatDoor
