/- What functions compute, and that they do. -/
import Derived.Test.YteiikkpajcggfaaDoorA3
set_option linter.unusedVariables false
set_option linter.unusedSimpArgs false
set_option maxRecDepth 100000
namespace Go.Proofs.YteiikkpajcggfaaDoor
open Go.Ev

/-! ### kinfolklaw09_CardMakes -/
noncomputable def kinfolklaw09_CardMakes (N : Nat) (l : List E_card_Field) : Option (Bool) :=
  (kinfolklaw09_awake).bind fun b =>
  bif b then
    (kinfolklaw09_few l).bind fun r =>
    (kinfolklaw09_few (List.take ((List.map E_card_Field.pv r)).length r)).bind fun r2 =>
    (card_Make (List.take ((List.map E_card_Field.pv r2)).length r2)).bind fun (r3, n) =>
    (kinfolklaw09_own (List.take ((List.map E_card_Field.pv r)).length r)).bind fun r4 =>
    (kinfolkref09_Make N (List.take ((List.map E_kinfolkref09_Field.pv r4)).length r4)).bind fun (r5, n2) =>
    bif (decide ((n : Int) = n2)) then
      (card_Card_Fields r3).bind fun _ =>
      (kinfolklaw09_own (List.take ((List.map E_card_Field.pv r3)).length r3)).bind fun r6 =>
      (kinfolkref09_Same (List.take ((List.map E_kinfolkref09_Field.pv r6)).length r6) r5).bind fun b2 =>
      bif b2 then
        (card_Card_Len r3).bind fun n3 =>
        bif (decide ((n3 : Int) = (((List.map E_kinfolkref09_Field.pv r5)).length : Int))) then
          (slices_Equal_card_Field (List.take ((List.map E_card_Field.pv r2)).length r2) (List.take ((List.map E_card_Field.pv r)).length r)).bind fun b3 =>
          bif b3 then
            (runL (kinfolklaw09_CardMakes_L0_step N (List.take ((List.map E_card_Field.pv r)).length r) (((List.take ((List.map E_card_Field.pv r)).length (List.map E_card_Field.pv r))).length : Int)) 0).bind fun z_ => match z_ with
            | .inl _ =>
              some false
            | .inr _ =>
              some true
          else
            some false
        else
          some false
      else
        some false
    else
      some false
  else
    some false
theorem kinfolklaw09_CardMakes_runs (N : Nat) (l : List E_card_Field) (r_ : Bool) (h : kinfolklaw09_CardMakes N l = some r_) : Runs Tryd.prog 3 [(.one (.pv (.recs 3 (List.map E_card_Field.pv l) false)))] [] [] (kinfolklaw09_CardMakes_out l r_) := by
  unfold kinfolklaw09_CardMakes at h
  obtain ⟨b, h1, h⟩ := bind_of h
  rcases cond_of h with ⟨h2, h⟩ | ⟨h2, h⟩
  · obtain ⟨r, h3, h⟩ := bind_of h
    obtain ⟨r2, h4, h⟩ := bind_of h
    have q_4 := (Runs.coe (as' := [(.one (.pv (.recs 3 (List.take ((List.map E_card_Field.pv r)).length (List.map E_card_Field.pv r)) false)))]) (objs' := []) (rows' := []) (kinfolklaw09_few_runs (List.take ((List.map E_card_Field.pv r)).length r) _ h4) ⟨.pv (.recsT (.eq (by first | rfl | (simp only [List.take_length]; done) | (simp only [List.take_length, List.length_append, List.drop_zero, List.map_append, List.map_take, List.map_drop, List.map_replicate, List.map_cons, List.map_nil, List.append_nil, List.nil_append, E_card_Field.pv, E_L_card_Field.pv, E_kinfolkref09_Field.pv, E_card_Field.upd, E_L_card_Field.upd, E_kinfolkref09_Field.upd]; done) | (simp; done)))), trivial⟩ trivial trivial)
    obtain ⟨⟨r3, n⟩, h5, h⟩ := bind_of h
    have q_5 := (Runs.coe (as' := [(.one (.pv (.recs 3 (List.take ((List.map E_card_Field.pv r2)).length (List.map E_card_Field.pv r2)) false)))]) (objs' := []) (rows' := []) (card_Make_runs (List.take ((List.map E_card_Field.pv r2)).length r2) _ h5) ⟨.pv (.recsT (.eq (by first | rfl | (simp only [List.take_length]; done) | (simp only [List.take_length, List.length_append, List.drop_zero, List.map_append, List.map_take, List.map_drop, List.map_replicate, List.map_cons, List.map_nil, List.append_nil, List.nil_append, E_card_Field.pv, E_L_card_Field.pv, E_kinfolkref09_Field.pv, E_card_Field.upd, E_L_card_Field.upd, E_kinfolkref09_Field.upd]; done) | (simp; done)))), trivial⟩ trivial trivial)
    obtain ⟨r4, h6, h⟩ := bind_of h
    have q_6 := (Runs.coe (as' := [(.one (.pv (.recs 3 (List.take ((List.map E_card_Field.pv r)).length (List.map E_card_Field.pv r)) false)))]) (objs' := []) (rows' := []) (kinfolklaw09_own_runs (List.take ((List.map E_card_Field.pv r)).length r) _ h6) ⟨.pv (.recsT (.eq (by first | rfl | (simp only [List.take_length]; done) | (simp only [List.take_length, List.length_append, List.drop_zero, List.map_append, List.map_take, List.map_drop, List.map_replicate, List.map_cons, List.map_nil, List.append_nil, List.nil_append, E_card_Field.pv, E_L_card_Field.pv, E_kinfolkref09_Field.pv, E_card_Field.upd, E_L_card_Field.upd, E_kinfolkref09_Field.upd]; done) | (simp; done)))), trivial⟩ trivial trivial)
    obtain ⟨⟨r5, n2⟩, h7, h⟩ := bind_of h
    have q_7 := (Runs.coe (as' := [(.one (.pv (.recs 3 (List.take ((List.map E_kinfolkref09_Field.pv r4)).length (List.map E_kinfolkref09_Field.pv r4)) false)))]) (objs' := []) (rows' := []) (kinfolkref09_Make_runs N (List.take ((List.map E_kinfolkref09_Field.pv r4)).length r4) _ h7) ⟨.pv (.recsT (.eq (by first | rfl | (simp only [List.take_length]; done) | (simp only [List.take_length, List.length_append, List.drop_zero, List.map_append, List.map_take, List.map_drop, List.map_replicate, List.map_cons, List.map_nil, List.append_nil, List.nil_append, E_card_Field.pv, E_L_card_Field.pv, E_kinfolkref09_Field.pv, E_card_Field.upd, E_L_card_Field.upd, E_kinfolkref09_Field.upd]; done) | (simp; done)))), trivial⟩ trivial trivial)
    rcases cond_of h with ⟨h8, h⟩ | ⟨h8, h⟩
    · obtain ⟨_, h9, h⟩ := bind_of h
      obtain ⟨r6, h10, h⟩ := bind_of h
      have q_10 := (Runs.coe (as' := [(.one (.pv (.recs 3 (List.take ((List.map E_card_Field.pv r3)).length (List.map E_card_Field.pv r3)) false)))]) (objs' := []) (rows' := []) (kinfolklaw09_own_runs (List.take ((List.map E_card_Field.pv r3)).length r3) _ h10) ⟨.pv (.recsT (.eq (by first | rfl | (simp only [List.take_length]; done) | (simp only [List.take_length, List.length_append, List.drop_zero, List.map_append, List.map_take, List.map_drop, List.map_replicate, List.map_cons, List.map_nil, List.append_nil, List.nil_append, E_card_Field.pv, E_L_card_Field.pv, E_kinfolkref09_Field.pv, E_card_Field.upd, E_L_card_Field.upd, E_kinfolkref09_Field.upd]; done) | (simp; done)))), trivial⟩ trivial trivial)
      obtain ⟨b2, h11, h⟩ := bind_of h
      have q_11 := (Runs.coe (as' := [(.one (.pv (.recs 3 (List.take ((List.map E_kinfolkref09_Field.pv r6)).length (List.map E_kinfolkref09_Field.pv r6)) false))), (.one (.pv (.recs 3 (List.map E_kinfolkref09_Field.pv r5) false)))]) (objs' := []) (rows' := []) (kinfolkref09_Same_runs (List.take ((List.map E_kinfolkref09_Field.pv r6)).length r6) r5 _ h11) ⟨.pv (.recsT (.eq (by first | rfl | (simp only [List.take_length]; done) | (simp only [List.take_length, List.length_append, List.drop_zero, List.map_append, List.map_take, List.map_drop, List.map_replicate, List.map_cons, List.map_nil, List.append_nil, List.nil_append, E_card_Field.pv, E_L_card_Field.pv, E_kinfolkref09_Field.pv, E_card_Field.upd, E_L_card_Field.upd, E_kinfolkref09_Field.upd]; done) | (simp; done)))), .eq rfl, trivial⟩ trivial trivial)
      rcases cond_of h with ⟨h12, h⟩ | ⟨h12, h⟩
      · obtain ⟨n3, h13, h⟩ := bind_of h
        rcases cond_of h with ⟨h14, h⟩ | ⟨h14, h⟩
        · obtain ⟨b3, h15, h⟩ := bind_of h
          have q_15 := (Runs.coe (as' := [(.one (.pv (.recs 3 (List.take ((List.map E_card_Field.pv r2)).length (List.map E_card_Field.pv r2)) false))), (.one (.pv (.recs 3 (List.take ((List.map E_card_Field.pv r)).length (List.map E_card_Field.pv r)) false)))]) (objs' := []) (rows' := []) (slices_Equal_card_Field_runs (List.take ((List.map E_card_Field.pv r2)).length r2) (List.take ((List.map E_card_Field.pv r)).length r) _ h15) ⟨.pv (.recsT (.eq (by first | rfl | (simp only [List.take_length]; done) | (simp only [List.take_length, List.length_append, List.drop_zero, List.map_append, List.map_take, List.map_drop, List.map_replicate, List.map_cons, List.map_nil, List.append_nil, List.nil_append, E_card_Field.pv, E_L_card_Field.pv, E_kinfolkref09_Field.pv, E_card_Field.upd, E_L_card_Field.upd, E_kinfolkref09_Field.upd]; done) | (simp; done)))), .pv (.recsT (.eq (by first | rfl | (simp only [List.take_length]; done) | (simp only [List.take_length, List.length_append, List.drop_zero, List.map_append, List.map_take, List.map_drop, List.map_replicate, List.map_cons, List.map_nil, List.append_nil, List.nil_append, E_card_Field.pv, E_L_card_Field.pv, E_kinfolkref09_Field.pv, E_card_Field.upd, E_L_card_Field.upd, E_kinfolkref09_Field.upd]; done) | (simp; done)))), trivial⟩ trivial trivial)
          rcases cond_of h with ⟨h16, h⟩ | ⟨h16, h⟩
          · have p16_ := fun {sc_ : List Ev} {Q_ : Prop} (t_ : Tell sc_ Q_) => tR (kinfolklaw09_awake_runs _ h1) <| tF (not_of2 h2) <| tR (kinfolklaw09_few_runs l _ h3) <| tR q_4 <| tR q_5 <| tR q_6 <| tR q_7 <| tF (not_of2 h8) <| tR (card_Card_Fields_runs r3 _ h9) <| tR q_10 <| tR q_11 <| tF (not_of2 h12) <| tR (card_Card_Len_runs r3 _ h13) <| tF (not_of2 h14) <| tR q_15 <| tF (not_of2 h16) <| t_
            obtain ⟨z_, h17, h⟩ := bind_of h
            rcases z_ with _ | _
            · have h := some_of h
              subst h
              have t_ := p16_ <| tL (LRuns.coe (s0 := ⟨[(51, (.av (.one (.pv (.recs 3 (List.take ((List.map E_card_Field.pv r)).length (List.map E_card_Field.pv r)) false))))), (52, (.av (.one (.pv (.int .i64 (((List.take ((List.map E_card_Field.pv r)).length (List.map E_card_Field.pv r))).length : Int)))))), (53, (.av (.one (.pv (.int .i64 0)))))], [], []⟩) (kinfolklaw09_CardMakes_L0_runs N (List.take ((List.map E_card_Field.pv r)).length r) (((List.take ((List.map E_card_Field.pv r)).length (List.map E_card_Field.pv r))).length : Int) _ _ h17) ⟨⟨⟨_, rfl, .pv (.recsT (.eq (by first | rfl | (simp only [List.take_length]; done) | (simp only [List.take_length, List.length_append, List.drop_zero, List.map_append, List.map_take, List.map_drop, List.map_replicate, List.map_cons, List.map_nil, List.append_nil, List.nil_append, E_card_Field.pv, E_L_card_Field.pv, E_kinfolkref09_Field.pv, E_card_Field.upd, E_L_card_Field.upd, E_kinfolkref09_Field.upd]; done) | (simp; done))))⟩, ⟨_, rfl, .eq rfl⟩, ⟨_, rfl, .eq rfl⟩, trivial⟩, trivial, trivial⟩) <| tN
              exact runs_of (C := cfg) (objs := []) (sc := t_.ev) (.k0 t_.pf (by kernel_rfl))
            · have h := some_of h
              subst h
              have t_ := p16_ <| tL (LRuns.coe (s0 := ⟨[(51, (.av (.one (.pv (.recs 3 (List.take ((List.map E_card_Field.pv r)).length (List.map E_card_Field.pv r)) false))))), (52, (.av (.one (.pv (.int .i64 (((List.take ((List.map E_card_Field.pv r)).length (List.map E_card_Field.pv r))).length : Int)))))), (53, (.av (.one (.pv (.int .i64 0)))))], [], []⟩) (kinfolklaw09_CardMakes_L0_runs N (List.take ((List.map E_card_Field.pv r)).length r) (((List.take ((List.map E_card_Field.pv r)).length (List.map E_card_Field.pv r))).length : Int) _ _ h17) ⟨⟨⟨_, rfl, .pv (.recsT (.eq (by first | rfl | (simp only [List.take_length]; done) | (simp only [List.take_length, List.length_append, List.drop_zero, List.map_append, List.map_take, List.map_drop, List.map_replicate, List.map_cons, List.map_nil, List.append_nil, List.nil_append, E_card_Field.pv, E_L_card_Field.pv, E_kinfolkref09_Field.pv, E_card_Field.upd, E_L_card_Field.upd, E_kinfolkref09_Field.upd]; done) | (simp; done))))⟩, ⟨_, rfl, .eq rfl⟩, ⟨_, rfl, .eq rfl⟩, trivial⟩, trivial, trivial⟩) <| tN
              exact runs_of (C := cfg) (objs := []) (sc := t_.ev) (.k0 t_.pf (by kernel_rfl))
          · have h := some_of h
            subst h
            have t_ := tR (kinfolklaw09_awake_runs _ h1) <| tF (not_of2 h2) <| tR (kinfolklaw09_few_runs l _ h3) <| tR q_4 <| tR q_5 <| tR q_6 <| tR q_7 <| tF (not_of2 h8) <| tR (card_Card_Fields_runs r3 _ h9) <| tR q_10 <| tR q_11 <| tF (not_of2 h12) <| tR (card_Card_Len_runs r3 _ h13) <| tF (not_of2 h14) <| tR q_15 <| tT (not_of h16) <| tN
            exact runs_of (C := cfg) (objs := []) (sc := t_.ev) (.k0 t_.pf (by kernel_rfl))
        · have h := some_of h
          subst h
          have t_ := tR (kinfolklaw09_awake_runs _ h1) <| tF (not_of2 h2) <| tR (kinfolklaw09_few_runs l _ h3) <| tR q_4 <| tR q_5 <| tR q_6 <| tR q_7 <| tF (not_of2 h8) <| tR (card_Card_Fields_runs r3 _ h9) <| tR q_10 <| tR q_11 <| tF (not_of2 h12) <| tR (card_Card_Len_runs r3 _ h13) <| tT (not_of h14) <| tT (rfl : true = true) <| tN
          exact runs_of (C := cfg) (objs := []) (sc := t_.ev) (.k0 t_.pf (by kernel_rfl))
      · have h := some_of h
        subst h
        have t_ := tR (kinfolklaw09_awake_runs _ h1) <| tF (not_of2 h2) <| tR (kinfolklaw09_few_runs l _ h3) <| tR q_4 <| tR q_5 <| tR q_6 <| tR q_7 <| tF (not_of2 h8) <| tR (card_Card_Fields_runs r3 _ h9) <| tR q_10 <| tR q_11 <| tT (not_of h12) <| tT (rfl : true = true) <| tT (rfl : true = true) <| tN
        exact runs_of (C := cfg) (objs := []) (sc := t_.ev) (.k0 t_.pf (by kernel_rfl))
    · have h := some_of h
      subst h
      have t_ := tR (kinfolklaw09_awake_runs _ h1) <| tF (not_of2 h2) <| tR (kinfolklaw09_few_runs l _ h3) <| tR q_4 <| tR q_5 <| tR q_6 <| tR q_7 <| tT (not_of h8) <| tT (rfl : true = true) <| tT (rfl : true = true) <| tT (rfl : true = true) <| tN
      exact runs_of (C := cfg) (objs := []) (sc := t_.ev) (.k0 t_.pf (by kernel_rfl))
  · have h := some_of h
    subst h
    have t_ := tR (kinfolklaw09_awake_runs _ h1) <| tT (not_of h2) <| tN
    exact runs_of (C := cfg) (objs := []) (sc := t_.ev) (.k0 t_.pf (by kernel_rfl))
/-! ### kinfolklaw09_CardTells_out -/
def kinfolklaw09_CardTells_out (l : List E_card_Field) (m : List E_card_Field) (kind : Int) (same : Bool) : Bool → Res
  | r1 => ([(.one (.pv (.bool r1)))], [], [])
/-! ### kinfolklaw09_made_out -/
def kinfolklaw09_made_out (l : List E_card_Field) : List E_card_Field × List E_kinfolkref09_Field → Res
  | (r1, r2) => ([(.agg [(.pv (.recs 3 (List.map E_card_Field.pv r1) false))]), (.one (.pv (.recs 3 (List.map E_kinfolkref09_Field.pv r2) false)))], [], [])
/-! ### kinfolklaw09_made_L0_2 -/
def kinfolklaw09_made_L0_2_st (n : Int) (r : List E_card_Field) : Int × List E_card_Field → St
  | (n2, r2) => ⟨[(2, (.av (.one (.ref 0 0)))), (4, (.av (.one (.own 0 0 ((List.map E_card_Field.pv r2)).length false)))), (12, (.av (.one (.own 1 0 ((List.map E_card_Field.pv r)).length false)))), (13, (.av (.one (.pv (.int .i64 n))))), (14, (.av (.one (.pv (.int .i64 n2)))))], [(0, [(.pv .nils)])], [(0, (.live (.recs 3 (List.map E_card_Field.pv r2)))), (1, (.live (.recs 3 (List.map E_card_Field.pv r))))]⟩
def kinfolklaw09_made_L0_2_ex (n : Int) (r : List E_card_Field) : List E_card_Field → Ex × St
  | r1 => ((.exit 0), ⟨[(2, (.av (.one (.ref 0 0)))), (4, (.av (.one (.own 0 0 ((List.map E_card_Field.pv r1)).length false))))], [(0, [(.pv .nils)])], [(0, (.live (.recs 3 (List.map E_card_Field.pv r1)))), (1, (.live (.recs 3 (List.map E_card_Field.pv r))))]⟩)
noncomputable def kinfolklaw09_made_L0_2_step (n : Int) (r : List E_card_Field) : Int × List E_card_Field → Option ((Int × List E_card_Field) ⊕ (List E_card_Field))
  | (n2, r2) =>
  bif (decide ((n2 : Int) < n)) then
    bif decide ((0 : Int) ≤ n2) && decide ((n2 : Int) < (((List.map E_card_Field.pv r)).length : Int)) then
    (r[(0 + (n2).toNat)]?).bind fun e_ => match e_ with
    | .mk n3 s s2 =>
    (card_Field_Right n3 s s2).bind fun n4 =>
    bif (decide ((n4 : Int) = 0)) then
      bif (decide (((((List.map E_card_Field.pv r2)).length : Int) : Int) < 8)) then
        bif fits (((List.map E_card_Field.pv r2) ++ ([[(.int .i64 n3), (.str s), (.str s2)]] : List (List PV)))).length then
        some (.inl ((iadd .i64 n2 1), (r2 ++ [(E_card_Field.mk n3 s s2)])))
        else none
      else
        some (.inl ((iadd .i64 n2 1), r2))
    else
      some (.inl ((iadd .i64 n2 1), r2))
    else none
  else
    some (.inr r2)
theorem kinfolklaw09_made_L0_2_ok (n : Int) (r : List E_card_Field) (s_ : Int × List E_card_Field) (z_ : (Int × List E_card_Field) ⊕ (List E_card_Field)) (h : kinfolklaw09_made_L0_2_step n r s_ = some z_) : RoundOk Tryd.prog cfg 17 0 (loopAt Tryd.prog 17 0) (kinfolklaw09_made_L0_2_st n r) (kinfolklaw09_made_L0_2_ex n r) s_ z_ := by
  rcases s_ with ⟨n2, r2⟩
  rcases cond_of h with ⟨h1, h⟩ | ⟨h1, h⟩
  · obtain ⟨h2, h⟩ := need_of h
    obtain ⟨⟨n3, s, s2⟩, h3, h⟩ := bind_of h
    obtain ⟨n4, h4, h⟩ := bind_of h
    rcases cond_of h with ⟨h5, h⟩ | ⟨h5, h⟩
    · rcases cond_of h with ⟨h6, h⟩ | ⟨h6, h⟩
      · obtain ⟨h7, h⟩ := need_of h
        have h := some_of h
        subst h
        have t_ := tT h1 <| tO h2 <| tE (.el [(.int .i64 n3), (.str s), (.str s2)]) <| tO (el_of (f := E_card_Field.pv) h3) <| tR (card_Field_Right_runs n3 s s2 _ h4) <| tT h5 <| tT h6 <| tO (show (Nat.beq ((List.map E_card_Field.pv r2)).length ((List.map E_card_Field.pv r2)).length) = true from Nat.beq_refl _) <| tO h7 <| tN
        exact ⟨t_.ev, ⟨[(2, (.av (.one (.ref 0 0)))), (4, (.av (.one (.own 0 0 (((List.map E_card_Field.pv r2) ++ ([[(.int .i64 n3), (.str s), (.str s2)]] : List (List PV)))).length false)))), (12, (.av (.one (.own 1 0 ((List.map E_card_Field.pv r)).length false)))), (13, (.av (.one (.pv (.int .i64 n))))), (14, (.av (.one (.pv (.int .i64 (iadd .i64 n2 1))))))], [(0, [(.pv .nils)])], [(0, (.live (.recs 3 ((List.map E_card_Field.pv r2) ++ ([[(.int .i64 n3), (.str s), (.str s2)]] : List (List PV)))))), (1, (.live (.recs 3 (List.map E_card_Field.pv r))))]⟩, .k0 t_.pf (by kernel_rfl), ⟨⟨⟨_, rfl, .eq rfl⟩, ⟨_, rfl, .own (by first | rfl | (simp only [List.take_length]; done) | (simp only [List.take_length, List.length_append, List.drop_zero, List.map_append, List.map_take, List.map_drop, List.map_replicate, List.map_cons, List.map_nil, List.append_nil, List.nil_append, E_card_Field.pv, E_L_card_Field.pv, E_kinfolkref09_Field.pv, E_card_Field.upd, E_L_card_Field.upd, E_kinfolkref09_Field.upd]; done) | (simp; done))⟩, ⟨_, rfl, .eq rfl⟩, ⟨_, rfl, .eq rfl⟩, ⟨_, rfl, .eq rfl⟩, trivial⟩, ⟨⟨rfl, ⟨.eq rfl, trivial⟩⟩, trivial⟩, ⟨⟨rfl, .recs (.app (.eq rfl) (.cons (.cons (.eq rfl) (.cons (.eq rfl) (.cons (.eq rfl) (.nil)))) (.nil)))⟩, ⟨rfl, .eq rfl⟩, trivial⟩⟩⟩
      · have h := some_of h
        subst h
        have t_ := tT h1 <| tO h2 <| tE (.el [(.int .i64 n3), (.str s), (.str s2)]) <| tO (el_of (f := E_card_Field.pv) h3) <| tR (card_Field_Right_runs n3 s s2 _ h4) <| tT h5 <| tF h6 <| tN
        exact ⟨t_.ev, kinfolklaw09_made_L0_2_st n r ((iadd .i64 n2 1), r2), .k0 t_.pf (by kernel_rfl), .same (by kernel_rfl)⟩
    · have h := some_of h
      subst h
      have t_ := tT h1 <| tO h2 <| tE (.el [(.int .i64 n3), (.str s), (.str s2)]) <| tO (el_of (f := E_card_Field.pv) h3) <| tR (card_Field_Right_runs n3 s s2 _ h4) <| tF h5 <| tF (rfl : false = false) <| tN
      exact ⟨t_.ev, kinfolklaw09_made_L0_2_st n r ((iadd .i64 n2 1), r2), .k0 t_.pf (by kernel_rfl), .same (by kernel_rfl)⟩
  · have h := some_of h
    subst h
    have t_ := tF h1 <| tN
    exact ⟨t_.ev, ⟨[(15, (.av (.one (.pv (.bool false))))), (2, (.av (.one (.ref 0 0)))), (4, (.av (.one (.own 0 0 ((List.map E_card_Field.pv r2)).length false)))), (12, (.av (.one (.own 1 0 ((List.map E_card_Field.pv r)).length false)))), (13, (.av (.one (.pv (.int .i64 n))))), (14, (.av (.one (.pv (.int .i64 n2))))), (15, (.av (.one (.pv (.bool (decide ((n2 : Int) < n)))))))], [(0, [(.pv .nils)])], [(0, (.live (.recs 3 (List.map E_card_Field.pv r2)))), (1, (.live (.recs 3 (List.map E_card_Field.pv r))))]⟩, .k0 t_.pf (by kernel_rfl), ⟨⟨⟨_, rfl, .eq rfl⟩, ⟨_, rfl, .eq rfl⟩, trivial⟩, ⟨⟨rfl, ⟨.eq rfl, trivial⟩⟩, trivial⟩, ⟨⟨rfl, .eq rfl⟩, ⟨rfl, .eq rfl⟩, trivial⟩⟩⟩
theorem kinfolklaw09_made_L0_2_runs (n : Int) (r : List E_card_Field) (s_ : Int × List E_card_Field) (r_ : List E_card_Field) (h : runL (kinfolklaw09_made_L0_2_step n r) s_ = some r_) : LRuns Tryd.prog (lEnv Tryd.prog cfg 17 0).nt 0 (.loop (loopAt Tryd.prog 17 0)) (kinfolklaw09_made_L0_2_st n r s_) (kinfolklaw09_made_L0_2_ex n r r_).1 (kinfolklaw09_made_L0_2_ex n r r_).2 :=
  loop_run h (kinfolklaw09_made_L0_2_ok n r) (by intro r_; rcases r_ with r1 <;> simp [kinfolklaw09_made_L0_2_ex])
/-! ### kinfolklaw09_made -/
noncomputable def kinfolklaw09_made (N : Nat) (l : List E_card_Field) : Option (List E_card_Field × List E_kinfolkref09_Field) :=
  (kinfolklaw09_few l).bind fun r =>
  (runL (kinfolklaw09_made_L0_2_step (((List.map E_card_Field.pv r)).length : Int) r) (0, [])).bind fun r2 =>
  (card_Make (List.take ((List.map E_card_Field.pv r2)).length r2)).bind fun (r3, n) =>
  (kinfolklaw09_own (List.take ((List.map E_card_Field.pv r2)).length r2)).bind fun r4 =>
  (kinfolkref09_Make N (List.take ((List.map E_kinfolkref09_Field.pv r4)).length r4)).bind fun (r5, n2) =>
  some (r3, r5)
theorem kinfolklaw09_made_runs (N : Nat) (l : List E_card_Field) (r_ : List E_card_Field × List E_kinfolkref09_Field) (h : kinfolklaw09_made N l = some r_) : Runs Tryd.prog 17 [(.one (.pv (.recs 3 (List.map E_card_Field.pv l) false)))] [] [] (kinfolklaw09_made_out l r_) := by
  unfold kinfolklaw09_made at h
  obtain ⟨r, h1, h⟩ := bind_of h
  obtain ⟨r2, h2, h⟩ := bind_of h
  obtain ⟨⟨r3, n⟩, h3, h⟩ := bind_of h
  obtain ⟨r4, h4, h⟩ := bind_of h
  obtain ⟨⟨r5, n2⟩, h5, h⟩ := bind_of h
  have h := some_of h
  subst h
  have t_ := tR (kinfolklaw09_few_runs l _ h1) <| tL (LRuns.coe (s0 := ⟨[(2, (.av (.one (.ref 0 0)))), (4, (.av (.one (.own 0 0 0 false)))), (12, (.av (.one (.own 1 0 ((List.map E_card_Field.pv r)).length false)))), (13, (.av (.one (.pv (.int .i64 (((List.map E_card_Field.pv r)).length : Int)))))), (14, (.av (.one (.pv (.int .i64 0)))))], [(0, [(.pv .nils)])], [(0, (.live (.recs 3 []))), (1, (.live (.recs 3 (List.map E_card_Field.pv r))))]⟩) (kinfolklaw09_made_L0_2_runs (((List.map E_card_Field.pv r)).length : Int) r _ _ h2) ⟨⟨⟨_, rfl, .eq rfl⟩, ⟨_, rfl, .own (by first | rfl | (simp only [List.take_length]; done) | (simp only [List.take_length, List.length_append, List.drop_zero, List.map_append, List.map_take, List.map_drop, List.map_replicate, List.map_cons, List.map_nil, List.append_nil, List.nil_append, E_card_Field.pv, E_L_card_Field.pv, E_kinfolkref09_Field.pv, E_card_Field.upd, E_L_card_Field.upd, E_kinfolkref09_Field.upd]; done) | (simp; done))⟩, ⟨_, rfl, .eq rfl⟩, ⟨_, rfl, .eq rfl⟩, ⟨_, rfl, .eq rfl⟩, trivial⟩, ⟨⟨rfl, ⟨.eq rfl, trivial⟩⟩, trivial⟩, ⟨⟨rfl, .recs (.nil)⟩, ⟨rfl, .eq rfl⟩, trivial⟩⟩) <| tR (Runs.coe (as' := [(.one (.pv (.recs 3 (List.take ((List.map E_card_Field.pv r2)).length (List.map E_card_Field.pv r2)) false)))]) (objs' := []) (rows' := []) (card_Make_runs (List.take ((List.map E_card_Field.pv r2)).length r2) _ h3) ⟨.pv (.recsT (.eq (by first | rfl | (simp only [List.take_length]; done) | (simp only [List.take_length, List.length_append, List.drop_zero, List.map_append, List.map_take, List.map_drop, List.map_replicate, List.map_cons, List.map_nil, List.append_nil, List.nil_append, E_card_Field.pv, E_L_card_Field.pv, E_kinfolkref09_Field.pv, E_card_Field.upd, E_L_card_Field.upd, E_kinfolkref09_Field.upd]; done) | (simp; done)))), trivial⟩ trivial trivial) <| tR (Runs.coe (as' := [(.one (.pv (.recs 3 (List.take ((List.map E_card_Field.pv r2)).length (List.map E_card_Field.pv r2)) false)))]) (objs' := []) (rows' := []) (kinfolklaw09_own_runs (List.take ((List.map E_card_Field.pv r2)).length r2) _ h4) ⟨.pv (.recsT (.eq (by first | rfl | (simp only [List.take_length]; done) | (simp only [List.take_length, List.length_append, List.drop_zero, List.map_append, List.map_take, List.map_drop, List.map_replicate, List.map_cons, List.map_nil, List.append_nil, List.nil_append, E_card_Field.pv, E_L_card_Field.pv, E_kinfolkref09_Field.pv, E_card_Field.upd, E_L_card_Field.upd, E_kinfolkref09_Field.upd]; done) | (simp; done)))), trivial⟩ trivial trivial) <| tR (Runs.coe (as' := [(.one (.pv (.recs 3 (List.take ((List.map E_kinfolkref09_Field.pv r4)).length (List.map E_kinfolkref09_Field.pv r4)) false)))]) (objs' := []) (rows' := []) (kinfolkref09_Make_runs N (List.take ((List.map E_kinfolkref09_Field.pv r4)).length r4) _ h5) ⟨.pv (.recsT (.eq (by first | rfl | (simp only [List.take_length]; done) | (simp only [List.take_length, List.length_append, List.drop_zero, List.map_append, List.map_take, List.map_drop, List.map_replicate, List.map_cons, List.map_nil, List.append_nil, List.nil_append, E_card_Field.pv, E_L_card_Field.pv, E_kinfolkref09_Field.pv, E_card_Field.upd, E_L_card_Field.upd, E_kinfolkref09_Field.upd]; done) | (simp; done)))), trivial⟩ trivial trivial) <| tN
  exact runs_of (C := cfg) (objs := []) (sc := t_.ev) (.k0 t_.pf (by kernel_rfl))
/-! ### kinfolklaw09_CardTells_L0_2 -/
def kinfolklaw09_CardTells_L0_2_st (kind : Int) (x : List E_kinfolkref09_Field) (y : List E_kinfolkref09_Field) (r : List E_kinfolkref09_Field) (n : Int) (r2 : List E_card_Field) (r3 : List E_card_Field) : ByteArray × Int × List E_kinfolkref09_Field → St
  | (title, n2, r4) => ⟨[(2, (.av (.one (.pv (.int .i64 kind))))), (9, (.av (.one (.ref 0 0)))), (10, (.av (.one (.pv (.recs 3 (List.map E_kinfolkref09_Field.pv x) false))))), (11, (.av (.one (.ref 1 0)))), (12, (.av (.one (.pv (.recs 3 (List.map E_kinfolkref09_Field.pv y) false))))), (13, (.av (.one (.own 0 0 ((List.map E_kinfolkref09_Field.pv r4)).length false)))), (14, (.av (.one (.pv (.str title))))), (35, (.av (.one (.pv (.recs 3 (List.map E_kinfolkref09_Field.pv r) false))))), (36, (.av (.one (.pv (.int .i64 n))))), (37, (.av (.one (.pv (.int .i64 n2)))))], [(0, [(.pv (.recs 3 (List.map E_card_Field.pv r2) false))]), (1, [(.pv (.recs 3 (List.map E_card_Field.pv r3) false))])], [(0, (.live (.recs 3 (List.map E_kinfolkref09_Field.pv r4))))]⟩
def kinfolklaw09_CardTells_L0_2_ex (kind : Int) (x : List E_kinfolkref09_Field) (y : List E_kinfolkref09_Field) (r : List E_kinfolkref09_Field) (n : Int) (r2 : List E_card_Field) (r3 : List E_card_Field) : ByteArray × List E_kinfolkref09_Field → Ex × St
  | (r1, r4) => ((.exit 0), ⟨[(2, (.av (.one (.pv (.int .i64 kind))))), (9, (.av (.one (.ref 0 0)))), (10, (.av (.one (.pv (.recs 3 (List.map E_kinfolkref09_Field.pv x) false))))), (11, (.av (.one (.ref 1 0)))), (12, (.av (.one (.pv (.recs 3 (List.map E_kinfolkref09_Field.pv y) false))))), (13, (.av (.one (.own 0 0 ((List.map E_kinfolkref09_Field.pv r4)).length false)))), (14, (.av (.one (.pv (.str r1)))))], [(0, [(.pv (.recs 3 (List.map E_card_Field.pv r2) false))]), (1, [(.pv (.recs 3 (List.map E_card_Field.pv r3) false))])], [(0, (.live (.recs 3 (List.map E_kinfolkref09_Field.pv r4))))]⟩)
noncomputable def kinfolklaw09_CardTells_L0_2_step (kind : Int) (x : List E_kinfolkref09_Field) (y : List E_kinfolkref09_Field) (r : List E_kinfolkref09_Field) (n : Int) (r2 : List E_card_Field) (r3 : List E_card_Field) : ByteArray × Int × List E_kinfolkref09_Field → Option ((ByteArray × Int × List E_kinfolkref09_Field) ⊕ (ByteArray × List E_kinfolkref09_Field))
  | (title, n2, r4) =>
  bif (decide ((n2 : Int) < n)) then
    bif decide ((0 : Int) ≤ n2) && decide ((n2 : Int) < (((List.map E_kinfolkref09_Field.pv r)).length : Int)) then
    (r[(n2).toNat]?).bind fun e_ => match e_ with
    | .mk n3 s s2 =>
    bif (decide ((n3 : Int) = kind)) then
      bif fits (((List.map E_kinfolkref09_Field.pv r4) ++ ([[(.int .i64 n3), (.str s), (.str s2)]] : List (List PV)))).length then
      bif (decide (title = (⟨#[]⟩ : ByteArray))) then
        some (.inl (s2, (iadd .i64 n2 1), (r4 ++ [(E_kinfolkref09_Field.mk n3 s s2)])))
      else
        some (.inl (title, (iadd .i64 n2 1), (r4 ++ [(E_kinfolkref09_Field.mk n3 s s2)])))
      else none
    else
      bif (decide (title = (⟨#[]⟩ : ByteArray))) then
        some (.inl (s2, (iadd .i64 n2 1), r4))
      else
        some (.inl (title, (iadd .i64 n2 1), r4))
    else none
  else
    some (.inr (title, r4))
theorem kinfolklaw09_CardTells_L0_2_ok (kind : Int) (x : List E_kinfolkref09_Field) (y : List E_kinfolkref09_Field) (r : List E_kinfolkref09_Field) (n : Int) (r2 : List E_card_Field) (r3 : List E_card_Field) (s_ : ByteArray × Int × List E_kinfolkref09_Field) (z_ : (ByteArray × Int × List E_kinfolkref09_Field) ⊕ (ByteArray × List E_kinfolkref09_Field)) (h : kinfolklaw09_CardTells_L0_2_step kind x y r n r2 r3 s_ = some z_) : RoundOk Tryd.prog cfg 4 0 (loopAt Tryd.prog 4 0) (kinfolklaw09_CardTells_L0_2_st kind x y r n r2 r3) (kinfolklaw09_CardTells_L0_2_ex kind x y r n r2 r3) s_ z_ := by
  rcases s_ with ⟨title, n2, r4⟩
  rcases cond_of h with ⟨h1, h⟩ | ⟨h1, h⟩
  · obtain ⟨h2, h⟩ := need_of h
    obtain ⟨⟨n3, s, s2⟩, h3, h⟩ := bind_of h
    rcases cond_of h with ⟨h4, h⟩ | ⟨h4, h⟩
    · obtain ⟨h5, h⟩ := need_of h
      rcases cond_of h with ⟨h6, h⟩ | ⟨h6, h⟩
      · have h := some_of h
        subst h
        have t_ := tT h1 <| tO h2 <| tE (.el [(.int .i64 n3), (.str s), (.str s2)]) <| tO (el_of (f := E_kinfolkref09_Field.pv) h3) <| tT h4 <| tO (show (Nat.beq ((List.map E_kinfolkref09_Field.pv r4)).length ((List.map E_kinfolkref09_Field.pv r4)).length) = true from Nat.beq_refl _) <| tO h5 <| tT h6 <| tN
        exact ⟨t_.ev, ⟨[(2, (.av (.one (.pv (.int .i64 kind))))), (9, (.av (.one (.ref 0 0)))), (10, (.av (.one (.pv (.recs 3 (List.map E_kinfolkref09_Field.pv x) false))))), (11, (.av (.one (.ref 1 0)))), (12, (.av (.one (.pv (.recs 3 (List.map E_kinfolkref09_Field.pv y) false))))), (13, (.av (.one (.own 0 0 (((List.map E_kinfolkref09_Field.pv r4) ++ ([[(.int .i64 n3), (.str s), (.str s2)]] : List (List PV)))).length false)))), (14, (.av (.one (.pv (.str s2))))), (35, (.av (.one (.pv (.recs 3 (List.map E_kinfolkref09_Field.pv r) false))))), (36, (.av (.one (.pv (.int .i64 n))))), (37, (.av (.one (.pv (.int .i64 (iadd .i64 n2 1))))))], [(0, [(.pv (.recs 3 (List.map E_card_Field.pv r2) false))]), (1, [(.pv (.recs 3 (List.map E_card_Field.pv r3) false))])], [(0, (.live (.recs 3 ((List.map E_kinfolkref09_Field.pv r4) ++ ([[(.int .i64 n3), (.str s), (.str s2)]] : List (List PV))))))]⟩, .k0 t_.pf (by kernel_rfl), ⟨⟨⟨_, rfl, .eq rfl⟩, ⟨_, rfl, .eq rfl⟩, ⟨_, rfl, .eq rfl⟩, ⟨_, rfl, .eq rfl⟩, ⟨_, rfl, .eq rfl⟩, ⟨_, rfl, .own (by first | rfl | (simp only [List.take_length]; done) | (simp only [List.take_length, List.length_append, List.drop_zero, List.map_append, List.map_take, List.map_drop, List.map_replicate, List.map_cons, List.map_nil, List.append_nil, List.nil_append, E_card_Field.pv, E_L_card_Field.pv, E_kinfolkref09_Field.pv, E_card_Field.upd, E_L_card_Field.upd, E_kinfolkref09_Field.upd]; done) | (simp; done))⟩, ⟨_, rfl, .eq rfl⟩, ⟨_, rfl, .eq rfl⟩, ⟨_, rfl, .eq rfl⟩, ⟨_, rfl, .eq rfl⟩, trivial⟩, ⟨⟨rfl, ⟨.eq rfl, trivial⟩⟩, ⟨rfl, ⟨.eq rfl, trivial⟩⟩, trivial⟩, ⟨⟨rfl, .recs (.app (.eq rfl) (.cons (.cons (.eq rfl) (.cons (.eq rfl) (.cons (.eq rfl) (.nil)))) (.nil)))⟩, trivial⟩⟩⟩
      · have h := some_of h
        subst h
        have t_ := tT h1 <| tO h2 <| tE (.el [(.int .i64 n3), (.str s), (.str s2)]) <| tO (el_of (f := E_kinfolkref09_Field.pv) h3) <| tT h4 <| tO (show (Nat.beq ((List.map E_kinfolkref09_Field.pv r4)).length ((List.map E_kinfolkref09_Field.pv r4)).length) = true from Nat.beq_refl _) <| tO h5 <| tF h6 <| tN
        exact ⟨t_.ev, ⟨[(2, (.av (.one (.pv (.int .i64 kind))))), (9, (.av (.one (.ref 0 0)))), (10, (.av (.one (.pv (.recs 3 (List.map E_kinfolkref09_Field.pv x) false))))), (11, (.av (.one (.ref 1 0)))), (12, (.av (.one (.pv (.recs 3 (List.map E_kinfolkref09_Field.pv y) false))))), (13, (.av (.one (.own 0 0 (((List.map E_kinfolkref09_Field.pv r4) ++ ([[(.int .i64 n3), (.str s), (.str s2)]] : List (List PV)))).length false)))), (14, (.av (.one (.pv (.str title))))), (35, (.av (.one (.pv (.recs 3 (List.map E_kinfolkref09_Field.pv r) false))))), (36, (.av (.one (.pv (.int .i64 n))))), (37, (.av (.one (.pv (.int .i64 (iadd .i64 n2 1))))))], [(0, [(.pv (.recs 3 (List.map E_card_Field.pv r2) false))]), (1, [(.pv (.recs 3 (List.map E_card_Field.pv r3) false))])], [(0, (.live (.recs 3 ((List.map E_kinfolkref09_Field.pv r4) ++ ([[(.int .i64 n3), (.str s), (.str s2)]] : List (List PV))))))]⟩, .k0 t_.pf (by kernel_rfl), ⟨⟨⟨_, rfl, .eq rfl⟩, ⟨_, rfl, .eq rfl⟩, ⟨_, rfl, .eq rfl⟩, ⟨_, rfl, .eq rfl⟩, ⟨_, rfl, .eq rfl⟩, ⟨_, rfl, .own (by first | rfl | (simp only [List.take_length]; done) | (simp only [List.take_length, List.length_append, List.drop_zero, List.map_append, List.map_take, List.map_drop, List.map_replicate, List.map_cons, List.map_nil, List.append_nil, List.nil_append, E_card_Field.pv, E_L_card_Field.pv, E_kinfolkref09_Field.pv, E_card_Field.upd, E_L_card_Field.upd, E_kinfolkref09_Field.upd]; done) | (simp; done))⟩, ⟨_, rfl, .eq rfl⟩, ⟨_, rfl, .eq rfl⟩, ⟨_, rfl, .eq rfl⟩, ⟨_, rfl, .eq rfl⟩, trivial⟩, ⟨⟨rfl, ⟨.eq rfl, trivial⟩⟩, ⟨rfl, ⟨.eq rfl, trivial⟩⟩, trivial⟩, ⟨⟨rfl, .recs (.app (.eq rfl) (.cons (.cons (.eq rfl) (.cons (.eq rfl) (.cons (.eq rfl) (.nil)))) (.nil)))⟩, trivial⟩⟩⟩
    · rcases cond_of h with ⟨h5, h⟩ | ⟨h5, h⟩
      · have h := some_of h
        subst h
        have t_ := tT h1 <| tO h2 <| tE (.el [(.int .i64 n3), (.str s), (.str s2)]) <| tO (el_of (f := E_kinfolkref09_Field.pv) h3) <| tF h4 <| tT h5 <| tN
        exact ⟨t_.ev, kinfolklaw09_CardTells_L0_2_st kind x y r n r2 r3 (s2, (iadd .i64 n2 1), r4), .k0 t_.pf (by kernel_rfl), .same (by kernel_rfl)⟩
      · have h := some_of h
        subst h
        have t_ := tT h1 <| tO h2 <| tE (.el [(.int .i64 n3), (.str s), (.str s2)]) <| tO (el_of (f := E_kinfolkref09_Field.pv) h3) <| tF h4 <| tF h5 <| tN
        exact ⟨t_.ev, kinfolklaw09_CardTells_L0_2_st kind x y r n r2 r3 (title, (iadd .i64 n2 1), r4), .k0 t_.pf (by kernel_rfl), .same (by kernel_rfl)⟩
  · have h := some_of h
    subst h
    have t_ := tF h1 <| tN
    exact ⟨t_.ev, ⟨[(38, (.av (.one (.pv (.bool false))))), (2, (.av (.one (.pv (.int .i64 kind))))), (9, (.av (.one (.ref 0 0)))), (10, (.av (.one (.pv (.recs 3 (List.map E_kinfolkref09_Field.pv x) false))))), (11, (.av (.one (.ref 1 0)))), (12, (.av (.one (.pv (.recs 3 (List.map E_kinfolkref09_Field.pv y) false))))), (13, (.av (.one (.own 0 0 ((List.map E_kinfolkref09_Field.pv r4)).length false)))), (14, (.av (.one (.pv (.str title))))), (35, (.av (.one (.pv (.recs 3 (List.map E_kinfolkref09_Field.pv r) false))))), (36, (.av (.one (.pv (.int .i64 n))))), (37, (.av (.one (.pv (.int .i64 n2))))), (38, (.av (.one (.pv (.bool (decide ((n2 : Int) < n)))))))], [(0, [(.pv (.recs 3 (List.map E_card_Field.pv r2) false))]), (1, [(.pv (.recs 3 (List.map E_card_Field.pv r3) false))])], [(0, (.live (.recs 3 (List.map E_kinfolkref09_Field.pv r4))))]⟩, .k0 t_.pf (by kernel_rfl), ⟨⟨⟨_, rfl, .eq rfl⟩, ⟨_, rfl, .eq rfl⟩, ⟨_, rfl, .eq rfl⟩, ⟨_, rfl, .eq rfl⟩, ⟨_, rfl, .eq rfl⟩, ⟨_, rfl, .eq rfl⟩, ⟨_, rfl, .eq rfl⟩, trivial⟩, ⟨⟨rfl, ⟨.eq rfl, trivial⟩⟩, ⟨rfl, ⟨.eq rfl, trivial⟩⟩, trivial⟩, ⟨⟨rfl, .eq rfl⟩, trivial⟩⟩⟩
theorem kinfolklaw09_CardTells_L0_2_runs (kind : Int) (x : List E_kinfolkref09_Field) (y : List E_kinfolkref09_Field) (r : List E_kinfolkref09_Field) (n : Int) (r2 : List E_card_Field) (r3 : List E_card_Field) (s_ : ByteArray × Int × List E_kinfolkref09_Field) (r_ : ByteArray × List E_kinfolkref09_Field) (h : runL (kinfolklaw09_CardTells_L0_2_step kind x y r n r2 r3) s_ = some r_) : LRuns Tryd.prog (lEnv Tryd.prog cfg 4 0).nt 0 (.loop (loopAt Tryd.prog 4 0)) (kinfolklaw09_CardTells_L0_2_st kind x y r n r2 r3 s_) (kinfolklaw09_CardTells_L0_2_ex kind x y r n r2 r3 r_).1 (kinfolklaw09_CardTells_L0_2_ex kind x y r n r2 r3 r_).2 :=
  loop_run h (kinfolklaw09_CardTells_L0_2_ok kind x y r n r2 r3) (by intro r_; rcases r_ with ⟨r1, r4⟩ <;> simp [kinfolklaw09_CardTells_L0_2_ex])
/-! ### kinfolklaw09_CardTells_L1 -/
def kinfolklaw09_CardTells_L1_st (kind : Int) (x : List E_kinfolkref09_Field) (y : List E_kinfolkref09_Field) (r : List E_card_Field) (r2 : List E_card_Field) (r3 : List E_kinfolkref09_Field) : ByteArray × Int → St
  | (title, i) => ⟨[(2, (.av (.one (.pv (.int .i64 kind))))), (9, (.av (.one (.ref 0 0)))), (10, (.av (.one (.pv (.recs 3 (List.map E_kinfolkref09_Field.pv x) false))))), (11, (.av (.one (.ref 1 0)))), (12, (.av (.one (.pv (.recs 3 (List.map E_kinfolkref09_Field.pv y) false))))), (13, (.av (.one (.own 0 0 ((List.map E_kinfolkref09_Field.pv r3)).length false)))), (14, (.av (.one (.pv (.str title))))), (17, (.av (.one (.pv (.int .i64 i)))))], [(0, [(.pv (.recs 3 (List.map E_card_Field.pv r) false))]), (1, [(.pv (.recs 3 (List.map E_card_Field.pv r2) false))])], [(0, (.live (.recs 3 (List.map E_kinfolkref09_Field.pv r3))))]⟩
def kinfolklaw09_CardTells_L1_ex (kind : Int) (x : List E_kinfolkref09_Field) (y : List E_kinfolkref09_Field) (r : List E_card_Field) (r2 : List E_card_Field) (r3 : List E_kinfolkref09_Field) : ByteArray → Ex × St
  | r1 => ((.exit 2), ⟨[(2, (.av (.one (.pv (.int .i64 kind))))), (9, (.av (.one (.ref 0 0)))), (10, (.av (.one (.pv (.recs 3 (List.map E_kinfolkref09_Field.pv x) false))))), (11, (.av (.one (.ref 1 0)))), (12, (.av (.one (.pv (.recs 3 (List.map E_kinfolkref09_Field.pv y) false))))), (13, (.av (.one (.own 0 0 ((List.map E_kinfolkref09_Field.pv r3)).length false)))), (14, (.av (.one (.pv (.str r1)))))], [(0, [(.pv (.recs 3 (List.map E_card_Field.pv r) false))]), (1, [(.pv (.recs 3 (List.map E_card_Field.pv r2) false))])], [(0, (.live (.recs 3 (List.map E_kinfolkref09_Field.pv r3))))]⟩)
noncomputable def kinfolklaw09_CardTells_L1_step (kind : Int) (x : List E_kinfolkref09_Field) (y : List E_kinfolkref09_Field) (r : List E_card_Field) (r2 : List E_card_Field) (r3 : List E_kinfolkref09_Field) : ByteArray × Int → Option ((ByteArray × Int) ⊕ (ByteArray))
  | (title, i) =>
  bif (decide ((0 : Int) ≤ i)) then
    bif decide ((0 : Int) ≤ i) && decide ((i : Int) < (((List.map E_kinfolkref09_Field.pv x)).length : Int)) then
    (x[(i).toNat]?).bind fun e_ => match e_ with
    | .mk n s s2 =>
    bif (decide ((n : Int) = 1)) then
      some (.inl (s2, (isub .i64 i 1)))
    else
      some (.inl (title, (isub .i64 i 1)))
    else none
  else
    some (.inr title)
theorem kinfolklaw09_CardTells_L1_ok (kind : Int) (x : List E_kinfolkref09_Field) (y : List E_kinfolkref09_Field) (r : List E_card_Field) (r2 : List E_card_Field) (r3 : List E_kinfolkref09_Field) (s_ : ByteArray × Int) (z_ : (ByteArray × Int) ⊕ (ByteArray)) (h : kinfolklaw09_CardTells_L1_step kind x y r r2 r3 s_ = some z_) : RoundOk Tryd.prog cfg 4 0 (loopAt Tryd.prog 4 1) (kinfolklaw09_CardTells_L1_st kind x y r r2 r3) (kinfolklaw09_CardTells_L1_ex kind x y r r2 r3) s_ z_ := by
  rcases s_ with ⟨title, i⟩
  rcases cond_of h with ⟨h1, h⟩ | ⟨h1, h⟩
  · obtain ⟨h2, h⟩ := need_of h
    obtain ⟨⟨n, s, s2⟩, h3, h⟩ := bind_of h
    rcases cond_of h with ⟨h4, h⟩ | ⟨h4, h⟩
    · have h := some_of h
      subst h
      have t_ := tT h1 <| tO h2 <| tE (.el [(.int .i64 n), (.str s), (.str s2)]) <| tO (el_of (f := E_kinfolkref09_Field.pv) h3) <| tT h4 <| tO h2 <| tE (.el [(.int .i64 n), (.str s), (.str s2)]) <| tO (el_of (f := E_kinfolkref09_Field.pv) h3) <| tN
      exact ⟨t_.ev, kinfolklaw09_CardTells_L1_st kind x y r r2 r3 (s2, (isub .i64 i 1)), .k0 t_.pf (by kernel_rfl), .same (by kernel_rfl)⟩
    · have h := some_of h
      subst h
      have t_ := tT h1 <| tO h2 <| tE (.el [(.int .i64 n), (.str s), (.str s2)]) <| tO (el_of (f := E_kinfolkref09_Field.pv) h3) <| tF h4 <| tN
      exact ⟨t_.ev, kinfolklaw09_CardTells_L1_st kind x y r r2 r3 (title, (isub .i64 i 1)), .k0 t_.pf (by kernel_rfl), .same (by kernel_rfl)⟩
  · have h := some_of h
    subst h
    have t_ := tF h1 <| tN
    exact ⟨t_.ev, ⟨[(58, (.av (.one (.pv (.bool false))))), (2, (.av (.one (.pv (.int .i64 kind))))), (9, (.av (.one (.ref 0 0)))), (10, (.av (.one (.pv (.recs 3 (List.map E_kinfolkref09_Field.pv x) false))))), (11, (.av (.one (.ref 1 0)))), (12, (.av (.one (.pv (.recs 3 (List.map E_kinfolkref09_Field.pv y) false))))), (13, (.av (.one (.own 0 0 ((List.map E_kinfolkref09_Field.pv r3)).length false)))), (14, (.av (.one (.pv (.str title))))), (17, (.av (.one (.pv (.int .i64 i))))), (58, (.av (.one (.pv (.bool (decide ((0 : Int) ≤ i)))))))], [(0, [(.pv (.recs 3 (List.map E_card_Field.pv r) false))]), (1, [(.pv (.recs 3 (List.map E_card_Field.pv r2) false))])], [(0, (.live (.recs 3 (List.map E_kinfolkref09_Field.pv r3))))]⟩, .k0 t_.pf (by kernel_rfl), ⟨⟨⟨_, rfl, .eq rfl⟩, ⟨_, rfl, .eq rfl⟩, ⟨_, rfl, .eq rfl⟩, ⟨_, rfl, .eq rfl⟩, ⟨_, rfl, .eq rfl⟩, ⟨_, rfl, .eq rfl⟩, ⟨_, rfl, .eq rfl⟩, trivial⟩, ⟨⟨rfl, ⟨.eq rfl, trivial⟩⟩, ⟨rfl, ⟨.eq rfl, trivial⟩⟩, trivial⟩, ⟨⟨rfl, .eq rfl⟩, trivial⟩⟩⟩
theorem kinfolklaw09_CardTells_L1_runs (kind : Int) (x : List E_kinfolkref09_Field) (y : List E_kinfolkref09_Field) (r : List E_card_Field) (r2 : List E_card_Field) (r3 : List E_kinfolkref09_Field) (s_ : ByteArray × Int) (r_ : ByteArray) (h : runL (kinfolklaw09_CardTells_L1_step kind x y r r2 r3) s_ = some r_) : LRuns Tryd.prog (lEnv Tryd.prog cfg 4 0).nt 0 (.loop (loopAt Tryd.prog 4 1)) (kinfolklaw09_CardTells_L1_st kind x y r r2 r3 s_) (kinfolklaw09_CardTells_L1_ex kind x y r r2 r3 r_).1 (kinfolklaw09_CardTells_L1_ex kind x y r r2 r3 r_).2 :=
  loop_run h (kinfolklaw09_CardTells_L1_ok kind x y r r2 r3) (by intro r_; rcases r_ with r1 <;> simp [kinfolklaw09_CardTells_L1_ex])
/-! ### card_Same_out -/
def card_Same_out (a : List E_card_Field) (b : List E_card_Field) : Bool → Res
  | r1 => ([(.one (.pv (.bool r1)))], [], [])
/-! ### card_Same -/
noncomputable def card_Same (a : List E_card_Field) (b : List E_card_Field) : Option (Bool) :=
  (slices_Equal_card_Field a b).bind fun b2 =>
  some b2
theorem card_Same_runs (a : List E_card_Field) (b : List E_card_Field) (r_ : Bool) (h : card_Same a b = some r_) : Runs Tryd.prog 21 [(.agg [(.pv (.recs 3 (List.map E_card_Field.pv a) false))]), (.agg [(.pv (.recs 3 (List.map E_card_Field.pv b) false))])] [] [] (card_Same_out a b r_) := by
  unfold card_Same at h
  obtain ⟨b2, h1, h⟩ := bind_of h
  have h := some_of h
  subst h
  have t_ := tR (slices_Equal_card_Field_runs a b _ h1) <| tN
  exact runs_of (C := cfg) (objs := []) (sc := t_.ev) (.k0 t_.pf (by kernel_rfl))
/-! ### kinfolklaw09_CardTells -/
noncomputable def kinfolklaw09_CardTells (N : Nat) (l : List E_card_Field) (m : List E_card_Field) (kind : Int) (same : Bool) : Option (Bool) :=
  (kinfolklaw09_awake).bind fun b =>
  bif b then
    (kinfolklaw09_made N l).bind fun (r, r2) =>
    (kinfolklaw09_made N m).bind fun (r3, r4) =>
    bif same then
      (runL (kinfolklaw09_CardTells_L0_2_step kind r2 r2 r2 (((List.map E_kinfolkref09_Field.pv r2)).length : Int) r r) ((⟨#[]⟩ : ByteArray), 0, [])).bind fun (s, r5) =>
      (runL (kinfolklaw09_CardTells_L1_step kind r2 r2 r r r5) (s, (isub .i64 (((List.map E_kinfolkref09_Field.pv r2)).length : Int) 1))).bind fun s2 =>
      bif (decide ((0 : Int) < kind)) then
        bif (decide ((kind : Int) < 7)) then
          bif decide ((0 : Int) ≤ kind) && decide ((kind : Int) < 7) then
          ([(E_string.mk (⟨#[]⟩ : ByteArray)), (E_string.mk (⟨#[110, 97, 109, 101]⟩ : ByteArray)), (E_string.mk (⟨#[112, 104, 111, 110, 101]⟩ : ByteArray)), (E_string.mk (⟨#[109, 97, 105, 108]⟩ : ByteArray)), (E_string.mk (⟨#[97, 100, 100, 114, 101, 115, 115]⟩ : ByteArray)), (E_string.mk (⟨#[110, 111, 116, 101]⟩ : ByteArray)), (E_string.mk (⟨#[103, 114, 111, 117, 112]⟩ : ByteArray))][(0 + (kind).toNat)]?).bind fun e_ => match e_ with
          | .mk s3 =>
          (card_Card_Of r kind).bind fun r6 =>
          (kinfolklaw09_own r6).bind fun r7 =>
          (kinfolkref09_Same (List.take ((List.map E_kinfolkref09_Field.pv r7)).length r7) (List.take ((List.map E_kinfolkref09_Field.pv r5)).length r5)).bind fun b2 =>
          bif b2 then
            (card_Card_Title r).bind fun s4 =>
            bif (decide (s4 = s2)) then
              (card_KindName kind).bind fun s5 =>
              bif (decide (s5 = s3)) then
                (card_Same r r).bind fun b3 =>
                (kinfolkref09_Same r2 r2).bind fun b4 =>
                bif (b3 == b4) then
                  some b3
                else
                  some false
              else
                some false
            else
              some false
          else
            some false
          else none
        else
          (card_Card_Of r kind).bind fun r6 =>
          (kinfolklaw09_own r6).bind fun r7 =>
          (kinfolkref09_Same (List.take ((List.map E_kinfolkref09_Field.pv r7)).length r7) (List.take ((List.map E_kinfolkref09_Field.pv r5)).length r5)).bind fun b2 =>
          bif b2 then
            (card_Card_Title r).bind fun s3 =>
            bif (decide (s3 = s2)) then
              (card_KindName kind).bind fun s4 =>
              bif (decide (s4 = (⟨#[]⟩ : ByteArray))) then
                (card_Same r r).bind fun b3 =>
                (kinfolkref09_Same r2 r2).bind fun b4 =>
                bif (b3 == b4) then
                  some b3
                else
                  some false
              else
                some false
            else
              some false
          else
            some false
      else
        (card_Card_Of r kind).bind fun r6 =>
        (kinfolklaw09_own r6).bind fun r7 =>
        (kinfolkref09_Same (List.take ((List.map E_kinfolkref09_Field.pv r7)).length r7) (List.take ((List.map E_kinfolkref09_Field.pv r5)).length r5)).bind fun b2 =>
        bif b2 then
          (card_Card_Title r).bind fun s3 =>
          bif (decide (s3 = s2)) then
            (card_KindName kind).bind fun s4 =>
            bif (decide (s4 = (⟨#[]⟩ : ByteArray))) then
              (card_Same r r).bind fun b3 =>
              (kinfolkref09_Same r2 r2).bind fun b4 =>
              bif (b3 == b4) then
                some b3
              else
                some false
            else
              some false
          else
            some false
        else
          some false
    else
      (runL (kinfolklaw09_CardTells_L0_2_step kind r2 r4 r2 (((List.map E_kinfolkref09_Field.pv r2)).length : Int) r r3) ((⟨#[]⟩ : ByteArray), 0, [])).bind fun (s, r5) =>
      (runL (kinfolklaw09_CardTells_L1_step kind r2 r4 r r3 r5) (s, (isub .i64 (((List.map E_kinfolkref09_Field.pv r2)).length : Int) 1))).bind fun s2 =>
      bif (decide ((0 : Int) < kind)) then
        bif (decide ((kind : Int) < 7)) then
          bif decide ((0 : Int) ≤ kind) && decide ((kind : Int) < 7) then
          ([(E_string.mk (⟨#[]⟩ : ByteArray)), (E_string.mk (⟨#[110, 97, 109, 101]⟩ : ByteArray)), (E_string.mk (⟨#[112, 104, 111, 110, 101]⟩ : ByteArray)), (E_string.mk (⟨#[109, 97, 105, 108]⟩ : ByteArray)), (E_string.mk (⟨#[97, 100, 100, 114, 101, 115, 115]⟩ : ByteArray)), (E_string.mk (⟨#[110, 111, 116, 101]⟩ : ByteArray)), (E_string.mk (⟨#[103, 114, 111, 117, 112]⟩ : ByteArray))][(0 + (kind).toNat)]?).bind fun e_ => match e_ with
          | .mk s3 =>
          (card_Card_Of r kind).bind fun r6 =>
          (kinfolklaw09_own r6).bind fun r7 =>
          (kinfolkref09_Same (List.take ((List.map E_kinfolkref09_Field.pv r7)).length r7) (List.take ((List.map E_kinfolkref09_Field.pv r5)).length r5)).bind fun b2 =>
          bif b2 then
            (card_Card_Title r).bind fun s4 =>
            bif (decide (s4 = s2)) then
              (card_KindName kind).bind fun s5 =>
              bif (decide (s5 = s3)) then
                (card_Same r r3).bind fun b3 =>
                (kinfolkref09_Same r2 r4).bind fun b4 =>
                bif (b3 == b4) then
                  (card_Same r r).bind fun b5 =>
                  some b5
                else
                  some false
              else
                some false
            else
              some false
          else
            some false
          else none
        else
          (card_Card_Of r kind).bind fun r6 =>
          (kinfolklaw09_own r6).bind fun r7 =>
          (kinfolkref09_Same (List.take ((List.map E_kinfolkref09_Field.pv r7)).length r7) (List.take ((List.map E_kinfolkref09_Field.pv r5)).length r5)).bind fun b2 =>
          bif b2 then
            (card_Card_Title r).bind fun s3 =>
            bif (decide (s3 = s2)) then
              (card_KindName kind).bind fun s4 =>
              bif (decide (s4 = (⟨#[]⟩ : ByteArray))) then
                (card_Same r r3).bind fun b3 =>
                (kinfolkref09_Same r2 r4).bind fun b4 =>
                bif (b3 == b4) then
                  (card_Same r r).bind fun b5 =>
                  some b5
                else
                  some false
              else
                some false
            else
              some false
          else
            some false
      else
        (card_Card_Of r kind).bind fun r6 =>
        (kinfolklaw09_own r6).bind fun r7 =>
        (kinfolkref09_Same (List.take ((List.map E_kinfolkref09_Field.pv r7)).length r7) (List.take ((List.map E_kinfolkref09_Field.pv r5)).length r5)).bind fun b2 =>
        bif b2 then
          (card_Card_Title r).bind fun s3 =>
          bif (decide (s3 = s2)) then
            (card_KindName kind).bind fun s4 =>
            bif (decide (s4 = (⟨#[]⟩ : ByteArray))) then
              (card_Same r r3).bind fun b3 =>
              (kinfolkref09_Same r2 r4).bind fun b4 =>
              bif (b3 == b4) then
                (card_Same r r).bind fun b5 =>
                some b5
              else
                some false
            else
              some false
          else
            some false
        else
          some false
  else
    some false
theorem kinfolklaw09_CardTells_runs (N : Nat) (l : List E_card_Field) (m : List E_card_Field) (kind : Int) (same : Bool) (r_ : Bool) (h : kinfolklaw09_CardTells N l m kind same = some r_) : Runs Tryd.prog 4 [(.one (.pv (.recs 3 (List.map E_card_Field.pv l) false))), (.one (.pv (.recs 3 (List.map E_card_Field.pv m) false))), (.one (.pv (.int .i64 kind))), (.one (.pv (.bool same)))] [] [] (kinfolklaw09_CardTells_out l m kind same r_) := by
  unfold kinfolklaw09_CardTells at h
  obtain ⟨b, h1, h⟩ := bind_of h
  rcases cond_of h with ⟨h2, h⟩ | ⟨h2, h⟩
  · obtain ⟨⟨r, r2⟩, h3, h⟩ := bind_of h
    obtain ⟨⟨r3, r4⟩, h4, h⟩ := bind_of h
    rcases cond_of h with ⟨h5, h⟩ | ⟨h5, h⟩
    · obtain ⟨⟨s, r5⟩, h6, h⟩ := bind_of h
      have q_6 := (LRuns.coe (s0 := ⟨[(2, (.av (.one (.pv (.int .i64 kind))))), (9, (.av (.one (.ref 0 0)))), (10, (.av (.one (.pv (.recs 3 (List.map E_kinfolkref09_Field.pv r2) false))))), (11, (.av (.one (.ref 1 0)))), (12, (.av (.one (.pv (.recs 3 (List.map E_kinfolkref09_Field.pv r2) false))))), (13, (.av (.one (.own 0 0 0 false)))), (14, (.av (.one (.pv (.str (⟨#[]⟩ : ByteArray)))))), (35, (.av (.one (.pv (.recs 3 (List.map E_kinfolkref09_Field.pv r2) false))))), (36, (.av (.one (.pv (.int .i64 (((List.map E_kinfolkref09_Field.pv r2)).length : Int)))))), (37, (.av (.one (.pv (.int .i64 0)))))], [(0, [(.pv (.recs 3 (List.map E_card_Field.pv r) false))]), (1, [(.pv (.recs 3 (List.map E_card_Field.pv r) false))])], [(0, (.live (.recs 3 [])))]⟩) (kinfolklaw09_CardTells_L0_2_runs kind r2 r2 r2 (((List.map E_kinfolkref09_Field.pv r2)).length : Int) r r _ _ h6) ⟨⟨⟨_, rfl, .eq rfl⟩, ⟨_, rfl, .eq rfl⟩, ⟨_, rfl, .eq rfl⟩, ⟨_, rfl, .eq rfl⟩, ⟨_, rfl, .eq rfl⟩, ⟨_, rfl, .own (by first | rfl | (simp only [List.take_length]; done) | (simp only [List.take_length, List.length_append, List.drop_zero, List.map_append, List.map_take, List.map_drop, List.map_replicate, List.map_cons, List.map_nil, List.append_nil, List.nil_append, E_card_Field.pv, E_L_card_Field.pv, E_kinfolkref09_Field.pv, E_string.pv, E_card_Field.upd, E_L_card_Field.upd, E_kinfolkref09_Field.upd, E_string.upd]; done) | (simp; done))⟩, ⟨_, rfl, .eq rfl⟩, ⟨_, rfl, .eq rfl⟩, ⟨_, rfl, .eq rfl⟩, ⟨_, rfl, .eq rfl⟩, trivial⟩, ⟨⟨rfl, ⟨.eq rfl, trivial⟩⟩, ⟨rfl, ⟨.eq rfl, trivial⟩⟩, trivial⟩, ⟨⟨rfl, .recs (.nil)⟩, trivial⟩⟩)
      obtain ⟨s2, h7, h⟩ := bind_of h
      have q_7 := (kinfolklaw09_CardTells_L1_runs kind r2 r2 r r r5 _ _ h7)
      rcases cond_of h with ⟨h8, h⟩ | ⟨h8, h⟩
      · rcases cond_of h with ⟨h9, h⟩ | ⟨h9, h⟩
        · obtain ⟨h10, h⟩ := need_of h
          obtain ⟨⟨s3⟩, h11, h⟩ := bind_of h
          obtain ⟨r6, h12, h⟩ := bind_of h
          obtain ⟨r7, h13, h⟩ := bind_of h
          obtain ⟨b2, h14, h⟩ := bind_of h
          have q_14 := (Runs.coe (as' := [(.one (.pv (.recs 3 (List.take ((List.map E_kinfolkref09_Field.pv r7)).length (List.map E_kinfolkref09_Field.pv r7)) false))), (.one (.pv (.recs 3 (List.take ((List.map E_kinfolkref09_Field.pv r5)).length (List.map E_kinfolkref09_Field.pv r5)) false)))]) (objs' := []) (rows' := []) (kinfolkref09_Same_runs (List.take ((List.map E_kinfolkref09_Field.pv r7)).length r7) (List.take ((List.map E_kinfolkref09_Field.pv r5)).length r5) _ h14) ⟨.pv (.recsT (.eq (by first | rfl | (simp only [List.take_length]; done) | (simp only [List.take_length, List.length_append, List.drop_zero, List.map_append, List.map_take, List.map_drop, List.map_replicate, List.map_cons, List.map_nil, List.append_nil, List.nil_append, E_card_Field.pv, E_L_card_Field.pv, E_kinfolkref09_Field.pv, E_string.pv, E_card_Field.upd, E_L_card_Field.upd, E_kinfolkref09_Field.upd, E_string.upd]; done) | (simp; done)))), .pv (.recsT (.eq (by first | rfl | (simp only [List.take_length]; done) | (simp only [List.take_length, List.length_append, List.drop_zero, List.map_append, List.map_take, List.map_drop, List.map_replicate, List.map_cons, List.map_nil, List.append_nil, List.nil_append, E_card_Field.pv, E_L_card_Field.pv, E_kinfolkref09_Field.pv, E_string.pv, E_card_Field.upd, E_L_card_Field.upd, E_kinfolkref09_Field.upd, E_string.upd]; done) | (simp; done)))), trivial⟩ trivial trivial)
          have p14_ := fun {sc_ : List Ev} {Q_ : Prop} (t_ : Tell sc_ Q_) => tR (kinfolklaw09_awake_runs _ h1) <| tF (not_of2 h2) <| tR (kinfolklaw09_made_runs N l _ h3) <| tR (kinfolklaw09_made_runs N m _ h4) <| tT h5 <| tL q_6 <| tL q_7 <| tT h8 <| tT h9 <| tO h10 <| tE (.el [(.str s3)]) <| tO (el_of (f := E_string.pv) h11) <| tR (card_Card_Of_runs r kind _ h12) <| tR (kinfolklaw09_own_runs r6 _ h13) <| tR q_14 <| t_
          rcases cond_of h with ⟨h15, h⟩ | ⟨h15, h⟩
          · obtain ⟨s4, h16, h⟩ := bind_of h
            rcases cond_of h with ⟨h17, h⟩ | ⟨h17, h⟩
            · obtain ⟨s5, h18, h⟩ := bind_of h
              rcases cond_of h with ⟨h19, h⟩ | ⟨h19, h⟩
              · obtain ⟨b3, h20, h⟩ := bind_of h
                obtain ⟨b4, h21, h⟩ := bind_of h
                rcases cond_of h with ⟨h22, h⟩ | ⟨h22, h⟩
                · have h := some_of h
                  subst h
                  have t_ := p14_ <| tT h15 <| tR (card_Card_Title_runs r _ h16) <| tT h17 <| tR (card_KindName_runs kind _ h18) <| tT h19 <| tR (card_Same_runs r r _ h20) <| tR (kinfolkref09_Same_runs r2 r2 _ h21) <| tT h22 <| tR (card_Same_runs r r _ h20) <| tN
                  exact runs_of (C := cfg) (objs := []) (sc := t_.ev) (.k0 t_.pf (by kernel_rfl))
                · have h := some_of h
                  subst h
                  have t_ := p14_ <| tT h15 <| tR (card_Card_Title_runs r _ h16) <| tT h17 <| tR (card_KindName_runs kind _ h18) <| tT h19 <| tR (card_Same_runs r r _ h20) <| tR (kinfolkref09_Same_runs r2 r2 _ h21) <| tF h22 <| tN
                  exact runs_of (C := cfg) (objs := []) (sc := t_.ev) (.k0 t_.pf (by kernel_rfl))
              · have h := some_of h
                subst h
                have t_ := p14_ <| tT h15 <| tR (card_Card_Title_runs r _ h16) <| tT h17 <| tR (card_KindName_runs kind _ h18) <| tF h19 <| tF (rfl : false = false) <| tN
                exact runs_of (C := cfg) (objs := []) (sc := t_.ev) (.k0 t_.pf (by kernel_rfl))
            · have h := some_of h
              subst h
              have t_ := p14_ <| tT h15 <| tR (card_Card_Title_runs r _ h16) <| tF h17 <| tF (rfl : false = false) <| tF (rfl : false = false) <| tN
              exact runs_of (C := cfg) (objs := []) (sc := t_.ev) (.k0 t_.pf (by kernel_rfl))
          · have h := some_of h
            subst h
            have t_ := p14_ <| tF h15 <| tF (rfl : false = false) <| tF (rfl : false = false) <| tF (rfl : false = false) <| tN
            exact runs_of (C := cfg) (objs := []) (sc := t_.ev) (.k0 t_.pf (by kernel_rfl))
        · obtain ⟨r6, h10, h⟩ := bind_of h
          obtain ⟨r7, h11, h⟩ := bind_of h
          obtain ⟨b2, h12, h⟩ := bind_of h
          have q_12 := (Runs.coe (as' := [(.one (.pv (.recs 3 (List.take ((List.map E_kinfolkref09_Field.pv r7)).length (List.map E_kinfolkref09_Field.pv r7)) false))), (.one (.pv (.recs 3 (List.take ((List.map E_kinfolkref09_Field.pv r5)).length (List.map E_kinfolkref09_Field.pv r5)) false)))]) (objs' := []) (rows' := []) (kinfolkref09_Same_runs (List.take ((List.map E_kinfolkref09_Field.pv r7)).length r7) (List.take ((List.map E_kinfolkref09_Field.pv r5)).length r5) _ h12) ⟨.pv (.recsT (.eq (by first | rfl | (simp only [List.take_length]; done) | (simp only [List.take_length, List.length_append, List.drop_zero, List.map_append, List.map_take, List.map_drop, List.map_replicate, List.map_cons, List.map_nil, List.append_nil, List.nil_append, E_card_Field.pv, E_L_card_Field.pv, E_kinfolkref09_Field.pv, E_string.pv, E_card_Field.upd, E_L_card_Field.upd, E_kinfolkref09_Field.upd, E_string.upd]; done) | (simp; done)))), .pv (.recsT (.eq (by first | rfl | (simp only [List.take_length]; done) | (simp only [List.take_length, List.length_append, List.drop_zero, List.map_append, List.map_take, List.map_drop, List.map_replicate, List.map_cons, List.map_nil, List.append_nil, List.nil_append, E_card_Field.pv, E_L_card_Field.pv, E_kinfolkref09_Field.pv, E_string.pv, E_card_Field.upd, E_L_card_Field.upd, E_kinfolkref09_Field.upd, E_string.upd]; done) | (simp; done)))), trivial⟩ trivial trivial)
          rcases cond_of h with ⟨h13, h⟩ | ⟨h13, h⟩
          · obtain ⟨s3, h14, h⟩ := bind_of h
            have p14_ := fun {sc_ : List Ev} {Q_ : Prop} (t_ : Tell sc_ Q_) => tR (kinfolklaw09_awake_runs _ h1) <| tF (not_of2 h2) <| tR (kinfolklaw09_made_runs N l _ h3) <| tR (kinfolklaw09_made_runs N m _ h4) <| tT h5 <| tL q_6 <| tL q_7 <| tT h8 <| tF h9 <| tR (card_Card_Of_runs r kind _ h10) <| tR (kinfolklaw09_own_runs r6 _ h11) <| tR q_12 <| tT h13 <| tR (card_Card_Title_runs r _ h14) <| t_
            rcases cond_of h with ⟨h15, h⟩ | ⟨h15, h⟩
            · obtain ⟨s4, h16, h⟩ := bind_of h
              rcases cond_of h with ⟨h17, h⟩ | ⟨h17, h⟩
              · obtain ⟨b3, h18, h⟩ := bind_of h
                obtain ⟨b4, h19, h⟩ := bind_of h
                rcases cond_of h with ⟨h20, h⟩ | ⟨h20, h⟩
                · have h := some_of h
                  subst h
                  have t_ := p14_ <| tT h15 <| tR (card_KindName_runs kind _ h16) <| tT h17 <| tR (card_Same_runs r r _ h18) <| tR (kinfolkref09_Same_runs r2 r2 _ h19) <| tT h20 <| tR (card_Same_runs r r _ h18) <| tN
                  exact runs_of (C := cfg) (objs := []) (sc := t_.ev) (.k0 t_.pf (by kernel_rfl))
                · have h := some_of h
                  subst h
                  have t_ := p14_ <| tT h15 <| tR (card_KindName_runs kind _ h16) <| tT h17 <| tR (card_Same_runs r r _ h18) <| tR (kinfolkref09_Same_runs r2 r2 _ h19) <| tF h20 <| tN
                  exact runs_of (C := cfg) (objs := []) (sc := t_.ev) (.k0 t_.pf (by kernel_rfl))
              · have h := some_of h
                subst h
                have t_ := p14_ <| tT h15 <| tR (card_KindName_runs kind _ h16) <| tF h17 <| tF (rfl : false = false) <| tN
                exact runs_of (C := cfg) (objs := []) (sc := t_.ev) (.k0 t_.pf (by kernel_rfl))
            · have h := some_of h
              subst h
              have t_ := p14_ <| tF h15 <| tF (rfl : false = false) <| tF (rfl : false = false) <| tN
              exact runs_of (C := cfg) (objs := []) (sc := t_.ev) (.k0 t_.pf (by kernel_rfl))
          · have h := some_of h
            subst h
            have t_ := tR (kinfolklaw09_awake_runs _ h1) <| tF (not_of2 h2) <| tR (kinfolklaw09_made_runs N l _ h3) <| tR (kinfolklaw09_made_runs N m _ h4) <| tT h5 <| tL q_6 <| tL q_7 <| tT h8 <| tF h9 <| tR (card_Card_Of_runs r kind _ h10) <| tR (kinfolklaw09_own_runs r6 _ h11) <| tR q_12 <| tF h13 <| tF (rfl : false = false) <| tF (rfl : false = false) <| tF (rfl : false = false) <| tN
            exact runs_of (C := cfg) (objs := []) (sc := t_.ev) (.k0 t_.pf (by kernel_rfl))
      · obtain ⟨r6, h9, h⟩ := bind_of h
        obtain ⟨r7, h10, h⟩ := bind_of h
        obtain ⟨b2, h11, h⟩ := bind_of h
        have q_11 := (Runs.coe (as' := [(.one (.pv (.recs 3 (List.take ((List.map E_kinfolkref09_Field.pv r7)).length (List.map E_kinfolkref09_Field.pv r7)) false))), (.one (.pv (.recs 3 (List.take ((List.map E_kinfolkref09_Field.pv r5)).length (List.map E_kinfolkref09_Field.pv r5)) false)))]) (objs' := []) (rows' := []) (kinfolkref09_Same_runs (List.take ((List.map E_kinfolkref09_Field.pv r7)).length r7) (List.take ((List.map E_kinfolkref09_Field.pv r5)).length r5) _ h11) ⟨.pv (.recsT (.eq (by first | rfl | (simp only [List.take_length]; done) | (simp only [List.take_length, List.length_append, List.drop_zero, List.map_append, List.map_take, List.map_drop, List.map_replicate, List.map_cons, List.map_nil, List.append_nil, List.nil_append, E_card_Field.pv, E_L_card_Field.pv, E_kinfolkref09_Field.pv, E_string.pv, E_card_Field.upd, E_L_card_Field.upd, E_kinfolkref09_Field.upd, E_string.upd]; done) | (simp; done)))), .pv (.recsT (.eq (by first | rfl | (simp only [List.take_length]; done) | (simp only [List.take_length, List.length_append, List.drop_zero, List.map_append, List.map_take, List.map_drop, List.map_replicate, List.map_cons, List.map_nil, List.append_nil, List.nil_append, E_card_Field.pv, E_L_card_Field.pv, E_kinfolkref09_Field.pv, E_string.pv, E_card_Field.upd, E_L_card_Field.upd, E_kinfolkref09_Field.upd, E_string.upd]; done) | (simp; done)))), trivial⟩ trivial trivial)
        rcases cond_of h with ⟨h12, h⟩ | ⟨h12, h⟩
        · obtain ⟨s3, h13, h⟩ := bind_of h
          have p13_ := fun {sc_ : List Ev} {Q_ : Prop} (t_ : Tell sc_ Q_) => tR (kinfolklaw09_awake_runs _ h1) <| tF (not_of2 h2) <| tR (kinfolklaw09_made_runs N l _ h3) <| tR (kinfolklaw09_made_runs N m _ h4) <| tT h5 <| tL q_6 <| tL q_7 <| tF h8 <| tF (rfl : false = false) <| tR (card_Card_Of_runs r kind _ h9) <| tR (kinfolklaw09_own_runs r6 _ h10) <| tR q_11 <| tT h12 <| tR (card_Card_Title_runs r _ h13) <| t_
          rcases cond_of h with ⟨h14, h⟩ | ⟨h14, h⟩
          · obtain ⟨s4, h15, h⟩ := bind_of h
            rcases cond_of h with ⟨h16, h⟩ | ⟨h16, h⟩
            · obtain ⟨b3, h17, h⟩ := bind_of h
              obtain ⟨b4, h18, h⟩ := bind_of h
              rcases cond_of h with ⟨h19, h⟩ | ⟨h19, h⟩
              · have h := some_of h
                subst h
                have t_ := p13_ <| tT h14 <| tR (card_KindName_runs kind _ h15) <| tT h16 <| tR (card_Same_runs r r _ h17) <| tR (kinfolkref09_Same_runs r2 r2 _ h18) <| tT h19 <| tR (card_Same_runs r r _ h17) <| tN
                exact runs_of (C := cfg) (objs := []) (sc := t_.ev) (.k0 t_.pf (by kernel_rfl))
              · have h := some_of h
                subst h
                have t_ := p13_ <| tT h14 <| tR (card_KindName_runs kind _ h15) <| tT h16 <| tR (card_Same_runs r r _ h17) <| tR (kinfolkref09_Same_runs r2 r2 _ h18) <| tF h19 <| tN
                exact runs_of (C := cfg) (objs := []) (sc := t_.ev) (.k0 t_.pf (by kernel_rfl))
            · have h := some_of h
              subst h
              have t_ := p13_ <| tT h14 <| tR (card_KindName_runs kind _ h15) <| tF h16 <| tF (rfl : false = false) <| tN
              exact runs_of (C := cfg) (objs := []) (sc := t_.ev) (.k0 t_.pf (by kernel_rfl))
          · have h := some_of h
            subst h
            have t_ := p13_ <| tF h14 <| tF (rfl : false = false) <| tF (rfl : false = false) <| tN
            exact runs_of (C := cfg) (objs := []) (sc := t_.ev) (.k0 t_.pf (by kernel_rfl))
        · have h := some_of h
          subst h
          have t_ := tR (kinfolklaw09_awake_runs _ h1) <| tF (not_of2 h2) <| tR (kinfolklaw09_made_runs N l _ h3) <| tR (kinfolklaw09_made_runs N m _ h4) <| tT h5 <| tL q_6 <| tL q_7 <| tF h8 <| tF (rfl : false = false) <| tR (card_Card_Of_runs r kind _ h9) <| tR (kinfolklaw09_own_runs r6 _ h10) <| tR q_11 <| tF h12 <| tF (rfl : false = false) <| tF (rfl : false = false) <| tF (rfl : false = false) <| tN
          exact runs_of (C := cfg) (objs := []) (sc := t_.ev) (.k0 t_.pf (by kernel_rfl))
    · obtain ⟨⟨s, r5⟩, h6, h⟩ := bind_of h
      have q_6 := (LRuns.coe (s0 := ⟨[(2, (.av (.one (.pv (.int .i64 kind))))), (9, (.av (.one (.ref 0 0)))), (10, (.av (.one (.pv (.recs 3 (List.map E_kinfolkref09_Field.pv r2) false))))), (11, (.av (.one (.ref 1 0)))), (12, (.av (.one (.pv (.recs 3 (List.map E_kinfolkref09_Field.pv r4) false))))), (13, (.av (.one (.own 0 0 0 false)))), (14, (.av (.one (.pv (.str (⟨#[]⟩ : ByteArray)))))), (35, (.av (.one (.pv (.recs 3 (List.map E_kinfolkref09_Field.pv r2) false))))), (36, (.av (.one (.pv (.int .i64 (((List.map E_kinfolkref09_Field.pv r2)).length : Int)))))), (37, (.av (.one (.pv (.int .i64 0)))))], [(0, [(.pv (.recs 3 (List.map E_card_Field.pv r) false))]), (1, [(.pv (.recs 3 (List.map E_card_Field.pv r3) false))])], [(0, (.live (.recs 3 [])))]⟩) (kinfolklaw09_CardTells_L0_2_runs kind r2 r4 r2 (((List.map E_kinfolkref09_Field.pv r2)).length : Int) r r3 _ _ h6) ⟨⟨⟨_, rfl, .eq rfl⟩, ⟨_, rfl, .eq rfl⟩, ⟨_, rfl, .eq rfl⟩, ⟨_, rfl, .eq rfl⟩, ⟨_, rfl, .eq rfl⟩, ⟨_, rfl, .own (by first | rfl | (simp only [List.take_length]; done) | (simp only [List.take_length, List.length_append, List.drop_zero, List.map_append, List.map_take, List.map_drop, List.map_replicate, List.map_cons, List.map_nil, List.append_nil, List.nil_append, E_card_Field.pv, E_L_card_Field.pv, E_kinfolkref09_Field.pv, E_string.pv, E_card_Field.upd, E_L_card_Field.upd, E_kinfolkref09_Field.upd, E_string.upd]; done) | (simp; done))⟩, ⟨_, rfl, .eq rfl⟩, ⟨_, rfl, .eq rfl⟩, ⟨_, rfl, .eq rfl⟩, ⟨_, rfl, .eq rfl⟩, trivial⟩, ⟨⟨rfl, ⟨.eq rfl, trivial⟩⟩, ⟨rfl, ⟨.eq rfl, trivial⟩⟩, trivial⟩, ⟨⟨rfl, .recs (.nil)⟩, trivial⟩⟩)
      obtain ⟨s2, h7, h⟩ := bind_of h
      have q_7 := (kinfolklaw09_CardTells_L1_runs kind r2 r4 r r3 r5 _ _ h7)
      rcases cond_of h with ⟨h8, h⟩ | ⟨h8, h⟩
      · rcases cond_of h with ⟨h9, h⟩ | ⟨h9, h⟩
        · obtain ⟨h10, h⟩ := need_of h
          obtain ⟨⟨s3⟩, h11, h⟩ := bind_of h
          obtain ⟨r6, h12, h⟩ := bind_of h
          obtain ⟨r7, h13, h⟩ := bind_of h
          obtain ⟨b2, h14, h⟩ := bind_of h
          have q_14 := (Runs.coe (as' := [(.one (.pv (.recs 3 (List.take ((List.map E_kinfolkref09_Field.pv r7)).length (List.map E_kinfolkref09_Field.pv r7)) false))), (.one (.pv (.recs 3 (List.take ((List.map E_kinfolkref09_Field.pv r5)).length (List.map E_kinfolkref09_Field.pv r5)) false)))]) (objs' := []) (rows' := []) (kinfolkref09_Same_runs (List.take ((List.map E_kinfolkref09_Field.pv r7)).length r7) (List.take ((List.map E_kinfolkref09_Field.pv r5)).length r5) _ h14) ⟨.pv (.recsT (.eq (by first | rfl | (simp only [List.take_length]; done) | (simp only [List.take_length, List.length_append, List.drop_zero, List.map_append, List.map_take, List.map_drop, List.map_replicate, List.map_cons, List.map_nil, List.append_nil, List.nil_append, E_card_Field.pv, E_L_card_Field.pv, E_kinfolkref09_Field.pv, E_string.pv, E_card_Field.upd, E_L_card_Field.upd, E_kinfolkref09_Field.upd, E_string.upd]; done) | (simp; done)))), .pv (.recsT (.eq (by first | rfl | (simp only [List.take_length]; done) | (simp only [List.take_length, List.length_append, List.drop_zero, List.map_append, List.map_take, List.map_drop, List.map_replicate, List.map_cons, List.map_nil, List.append_nil, List.nil_append, E_card_Field.pv, E_L_card_Field.pv, E_kinfolkref09_Field.pv, E_string.pv, E_card_Field.upd, E_L_card_Field.upd, E_kinfolkref09_Field.upd, E_string.upd]; done) | (simp; done)))), trivial⟩ trivial trivial)
          have p14_ := fun {sc_ : List Ev} {Q_ : Prop} (t_ : Tell sc_ Q_) => tR (kinfolklaw09_awake_runs _ h1) <| tF (not_of2 h2) <| tR (kinfolklaw09_made_runs N l _ h3) <| tR (kinfolklaw09_made_runs N m _ h4) <| tF h5 <| tL q_6 <| tL q_7 <| tT h8 <| tT h9 <| tO h10 <| tE (.el [(.str s3)]) <| tO (el_of (f := E_string.pv) h11) <| tR (card_Card_Of_runs r kind _ h12) <| tR (kinfolklaw09_own_runs r6 _ h13) <| tR q_14 <| t_
          rcases cond_of h with ⟨h15, h⟩ | ⟨h15, h⟩
          · obtain ⟨s4, h16, h⟩ := bind_of h
            rcases cond_of h with ⟨h17, h⟩ | ⟨h17, h⟩
            · obtain ⟨s5, h18, h⟩ := bind_of h
              rcases cond_of h with ⟨h19, h⟩ | ⟨h19, h⟩
              · obtain ⟨b3, h20, h⟩ := bind_of h
                obtain ⟨b4, h21, h⟩ := bind_of h
                rcases cond_of h with ⟨h22, h⟩ | ⟨h22, h⟩
                · obtain ⟨b5, h23, h⟩ := bind_of h
                  have h := some_of h
                  subst h
                  have t_ := p14_ <| tT h15 <| tR (card_Card_Title_runs r _ h16) <| tT h17 <| tR (card_KindName_runs kind _ h18) <| tT h19 <| tR (card_Same_runs r r3 _ h20) <| tR (kinfolkref09_Same_runs r2 r4 _ h21) <| tT h22 <| tR (card_Same_runs r r _ h23) <| tN
                  exact runs_of (C := cfg) (objs := []) (sc := t_.ev) (.k0 t_.pf (by kernel_rfl))
                · have h := some_of h
                  subst h
                  have t_ := p14_ <| tT h15 <| tR (card_Card_Title_runs r _ h16) <| tT h17 <| tR (card_KindName_runs kind _ h18) <| tT h19 <| tR (card_Same_runs r r3 _ h20) <| tR (kinfolkref09_Same_runs r2 r4 _ h21) <| tF h22 <| tN
                  exact runs_of (C := cfg) (objs := []) (sc := t_.ev) (.k0 t_.pf (by kernel_rfl))
              · have h := some_of h
                subst h
                have t_ := p14_ <| tT h15 <| tR (card_Card_Title_runs r _ h16) <| tT h17 <| tR (card_KindName_runs kind _ h18) <| tF h19 <| tF (rfl : false = false) <| tN
                exact runs_of (C := cfg) (objs := []) (sc := t_.ev) (.k0 t_.pf (by kernel_rfl))
            · have h := some_of h
              subst h
              have t_ := p14_ <| tT h15 <| tR (card_Card_Title_runs r _ h16) <| tF h17 <| tF (rfl : false = false) <| tF (rfl : false = false) <| tN
              exact runs_of (C := cfg) (objs := []) (sc := t_.ev) (.k0 t_.pf (by kernel_rfl))
          · have h := some_of h
            subst h
            have t_ := p14_ <| tF h15 <| tF (rfl : false = false) <| tF (rfl : false = false) <| tF (rfl : false = false) <| tN
            exact runs_of (C := cfg) (objs := []) (sc := t_.ev) (.k0 t_.pf (by kernel_rfl))
        · obtain ⟨r6, h10, h⟩ := bind_of h
          obtain ⟨r7, h11, h⟩ := bind_of h
          obtain ⟨b2, h12, h⟩ := bind_of h
          have q_12 := (Runs.coe (as' := [(.one (.pv (.recs 3 (List.take ((List.map E_kinfolkref09_Field.pv r7)).length (List.map E_kinfolkref09_Field.pv r7)) false))), (.one (.pv (.recs 3 (List.take ((List.map E_kinfolkref09_Field.pv r5)).length (List.map E_kinfolkref09_Field.pv r5)) false)))]) (objs' := []) (rows' := []) (kinfolkref09_Same_runs (List.take ((List.map E_kinfolkref09_Field.pv r7)).length r7) (List.take ((List.map E_kinfolkref09_Field.pv r5)).length r5) _ h12) ⟨.pv (.recsT (.eq (by first | rfl | (simp only [List.take_length]; done) | (simp only [List.take_length, List.length_append, List.drop_zero, List.map_append, List.map_take, List.map_drop, List.map_replicate, List.map_cons, List.map_nil, List.append_nil, List.nil_append, E_card_Field.pv, E_L_card_Field.pv, E_kinfolkref09_Field.pv, E_string.pv, E_card_Field.upd, E_L_card_Field.upd, E_kinfolkref09_Field.upd, E_string.upd]; done) | (simp; done)))), .pv (.recsT (.eq (by first | rfl | (simp only [List.take_length]; done) | (simp only [List.take_length, List.length_append, List.drop_zero, List.map_append, List.map_take, List.map_drop, List.map_replicate, List.map_cons, List.map_nil, List.append_nil, List.nil_append, E_card_Field.pv, E_L_card_Field.pv, E_kinfolkref09_Field.pv, E_string.pv, E_card_Field.upd, E_L_card_Field.upd, E_kinfolkref09_Field.upd, E_string.upd]; done) | (simp; done)))), trivial⟩ trivial trivial)
          rcases cond_of h with ⟨h13, h⟩ | ⟨h13, h⟩
          · obtain ⟨s3, h14, h⟩ := bind_of h
            have p14_ := fun {sc_ : List Ev} {Q_ : Prop} (t_ : Tell sc_ Q_) => tR (kinfolklaw09_awake_runs _ h1) <| tF (not_of2 h2) <| tR (kinfolklaw09_made_runs N l _ h3) <| tR (kinfolklaw09_made_runs N m _ h4) <| tF h5 <| tL q_6 <| tL q_7 <| tT h8 <| tF h9 <| tR (card_Card_Of_runs r kind _ h10) <| tR (kinfolklaw09_own_runs r6 _ h11) <| tR q_12 <| tT h13 <| tR (card_Card_Title_runs r _ h14) <| t_
            rcases cond_of h with ⟨h15, h⟩ | ⟨h15, h⟩
            · obtain ⟨s4, h16, h⟩ := bind_of h
              rcases cond_of h with ⟨h17, h⟩ | ⟨h17, h⟩
              · obtain ⟨b3, h18, h⟩ := bind_of h
                obtain ⟨b4, h19, h⟩ := bind_of h
                rcases cond_of h with ⟨h20, h⟩ | ⟨h20, h⟩
                · obtain ⟨b5, h21, h⟩ := bind_of h
                  have h := some_of h
                  subst h
                  have t_ := p14_ <| tT h15 <| tR (card_KindName_runs kind _ h16) <| tT h17 <| tR (card_Same_runs r r3 _ h18) <| tR (kinfolkref09_Same_runs r2 r4 _ h19) <| tT h20 <| tR (card_Same_runs r r _ h21) <| tN
                  exact runs_of (C := cfg) (objs := []) (sc := t_.ev) (.k0 t_.pf (by kernel_rfl))
                · have h := some_of h
                  subst h
                  have t_ := p14_ <| tT h15 <| tR (card_KindName_runs kind _ h16) <| tT h17 <| tR (card_Same_runs r r3 _ h18) <| tR (kinfolkref09_Same_runs r2 r4 _ h19) <| tF h20 <| tN
                  exact runs_of (C := cfg) (objs := []) (sc := t_.ev) (.k0 t_.pf (by kernel_rfl))
              · have h := some_of h
                subst h
                have t_ := p14_ <| tT h15 <| tR (card_KindName_runs kind _ h16) <| tF h17 <| tF (rfl : false = false) <| tN
                exact runs_of (C := cfg) (objs := []) (sc := t_.ev) (.k0 t_.pf (by kernel_rfl))
            · have h := some_of h
              subst h
              have t_ := p14_ <| tF h15 <| tF (rfl : false = false) <| tF (rfl : false = false) <| tN
              exact runs_of (C := cfg) (objs := []) (sc := t_.ev) (.k0 t_.pf (by kernel_rfl))
          · have h := some_of h
            subst h
            have t_ := tR (kinfolklaw09_awake_runs _ h1) <| tF (not_of2 h2) <| tR (kinfolklaw09_made_runs N l _ h3) <| tR (kinfolklaw09_made_runs N m _ h4) <| tF h5 <| tL q_6 <| tL q_7 <| tT h8 <| tF h9 <| tR (card_Card_Of_runs r kind _ h10) <| tR (kinfolklaw09_own_runs r6 _ h11) <| tR q_12 <| tF h13 <| tF (rfl : false = false) <| tF (rfl : false = false) <| tF (rfl : false = false) <| tN
            exact runs_of (C := cfg) (objs := []) (sc := t_.ev) (.k0 t_.pf (by kernel_rfl))
      · obtain ⟨r6, h9, h⟩ := bind_of h
        obtain ⟨r7, h10, h⟩ := bind_of h
        obtain ⟨b2, h11, h⟩ := bind_of h
        have q_11 := (Runs.coe (as' := [(.one (.pv (.recs 3 (List.take ((List.map E_kinfolkref09_Field.pv r7)).length (List.map E_kinfolkref09_Field.pv r7)) false))), (.one (.pv (.recs 3 (List.take ((List.map E_kinfolkref09_Field.pv r5)).length (List.map E_kinfolkref09_Field.pv r5)) false)))]) (objs' := []) (rows' := []) (kinfolkref09_Same_runs (List.take ((List.map E_kinfolkref09_Field.pv r7)).length r7) (List.take ((List.map E_kinfolkref09_Field.pv r5)).length r5) _ h11) ⟨.pv (.recsT (.eq (by first | rfl | (simp only [List.take_length]; done) | (simp only [List.take_length, List.length_append, List.drop_zero, List.map_append, List.map_take, List.map_drop, List.map_replicate, List.map_cons, List.map_nil, List.append_nil, List.nil_append, E_card_Field.pv, E_L_card_Field.pv, E_kinfolkref09_Field.pv, E_string.pv, E_card_Field.upd, E_L_card_Field.upd, E_kinfolkref09_Field.upd, E_string.upd]; done) | (simp; done)))), .pv (.recsT (.eq (by first | rfl | (simp only [List.take_length]; done) | (simp only [List.take_length, List.length_append, List.drop_zero, List.map_append, List.map_take, List.map_drop, List.map_replicate, List.map_cons, List.map_nil, List.append_nil, List.nil_append, E_card_Field.pv, E_L_card_Field.pv, E_kinfolkref09_Field.pv, E_string.pv, E_card_Field.upd, E_L_card_Field.upd, E_kinfolkref09_Field.upd, E_string.upd]; done) | (simp; done)))), trivial⟩ trivial trivial)
        rcases cond_of h with ⟨h12, h⟩ | ⟨h12, h⟩
        · obtain ⟨s3, h13, h⟩ := bind_of h
          have p13_ := fun {sc_ : List Ev} {Q_ : Prop} (t_ : Tell sc_ Q_) => tR (kinfolklaw09_awake_runs _ h1) <| tF (not_of2 h2) <| tR (kinfolklaw09_made_runs N l _ h3) <| tR (kinfolklaw09_made_runs N m _ h4) <| tF h5 <| tL q_6 <| tL q_7 <| tF h8 <| tF (rfl : false = false) <| tR (card_Card_Of_runs r kind _ h9) <| tR (kinfolklaw09_own_runs r6 _ h10) <| tR q_11 <| tT h12 <| tR (card_Card_Title_runs r _ h13) <| t_
          rcases cond_of h with ⟨h14, h⟩ | ⟨h14, h⟩
          · obtain ⟨s4, h15, h⟩ := bind_of h
            rcases cond_of h with ⟨h16, h⟩ | ⟨h16, h⟩
            · obtain ⟨b3, h17, h⟩ := bind_of h
              obtain ⟨b4, h18, h⟩ := bind_of h
              rcases cond_of h with ⟨h19, h⟩ | ⟨h19, h⟩
              · obtain ⟨b5, h20, h⟩ := bind_of h
                have h := some_of h
                subst h
                have t_ := p13_ <| tT h14 <| tR (card_KindName_runs kind _ h15) <| tT h16 <| tR (card_Same_runs r r3 _ h17) <| tR (kinfolkref09_Same_runs r2 r4 _ h18) <| tT h19 <| tR (card_Same_runs r r _ h20) <| tN
                exact runs_of (C := cfg) (objs := []) (sc := t_.ev) (.k0 t_.pf (by kernel_rfl))
              · have h := some_of h
                subst h
                have t_ := p13_ <| tT h14 <| tR (card_KindName_runs kind _ h15) <| tT h16 <| tR (card_Same_runs r r3 _ h17) <| tR (kinfolkref09_Same_runs r2 r4 _ h18) <| tF h19 <| tN
                exact runs_of (C := cfg) (objs := []) (sc := t_.ev) (.k0 t_.pf (by kernel_rfl))
            · have h := some_of h
              subst h
              have t_ := p13_ <| tT h14 <| tR (card_KindName_runs kind _ h15) <| tF h16 <| tF (rfl : false = false) <| tN
              exact runs_of (C := cfg) (objs := []) (sc := t_.ev) (.k0 t_.pf (by kernel_rfl))
          · have h := some_of h
            subst h
            have t_ := p13_ <| tF h14 <| tF (rfl : false = false) <| tF (rfl : false = false) <| tN
            exact runs_of (C := cfg) (objs := []) (sc := t_.ev) (.k0 t_.pf (by kernel_rfl))
        · have h := some_of h
          subst h
          have t_ := tR (kinfolklaw09_awake_runs _ h1) <| tF (not_of2 h2) <| tR (kinfolklaw09_made_runs N l _ h3) <| tR (kinfolklaw09_made_runs N m _ h4) <| tF h5 <| tL q_6 <| tL q_7 <| tF h8 <| tF (rfl : false = false) <| tR (card_Card_Of_runs r kind _ h9) <| tR (kinfolklaw09_own_runs r6 _ h10) <| tR q_11 <| tF h12 <| tF (rfl : false = false) <| tF (rfl : false = false) <| tF (rfl : false = false) <| tN
          exact runs_of (C := cfg) (objs := []) (sc := t_.ev) (.k0 t_.pf (by kernel_rfl))
  · have h := some_of h
    subst h
    have t_ := tR (kinfolklaw09_awake_runs _ h1) <| tT (not_of h2) <| tN
    exact runs_of (C := cfg) (objs := []) (sc := t_.ev) (.k0 t_.pf (by kernel_rfl))
/-! ### kinfolklaw09_CardOrders_out -/
def kinfolklaw09_CardOrders_out (l : List E_card_Field) (order : List Int) (a : Int) (a2 : ByteArray) (a3 : ByteArray) (b : Int) (b2 : ByteArray) (b3 : ByteArray) (c : Int) (c2 : ByteArray) (c3 : ByteArray) : Bool → Res
  | r1 => ([(.one (.pv (.bool r1)))], [], [])
/-! ### card_Less_out -/
def card_Less_out (a : Int) (a2 : ByteArray) (a3 : ByteArray) (b : Int) (b2 : ByteArray) (b3 : ByteArray) : Bool → Res
  | r1 => ([(.one (.pv (.bool r1)))], [], [])
/-! ### card_Less -/
noncomputable def card_Less (a : Int) (a2 : ByteArray) (a3 : ByteArray) (b : Int) (b2 : ByteArray) (b3 : ByteArray) : Option (Bool) :=
  (card_order a a2 a3 b b2 b3).bind fun n =>
  some (decide ((n : Int) < 0))
theorem card_Less_runs (a : Int) (a2 : ByteArray) (a3 : ByteArray) (b : Int) (b2 : ByteArray) (b3 : ByteArray) (r_ : Bool) (h : card_Less a a2 a3 b b2 b3 = some r_) : Runs Tryd.prog 22 [(.agg [(.pv (.int .i64 a)), (.pv (.str a2)), (.pv (.str a3))]), (.agg [(.pv (.int .i64 b)), (.pv (.str b2)), (.pv (.str b3))])] [] [] (card_Less_out a a2 a3 b b2 b3 r_) := by
  unfold card_Less at h
  obtain ⟨n, h1, h⟩ := bind_of h
  have h := some_of h
  subst h
  have t_ := tR (card_order_runs a a2 a3 b b2 b3 _ h1) <| tN
  exact runs_of (C := cfg) (objs := []) (sc := t_.ev) (.k0 t_.pf (by kernel_rfl))
/-! ### kinfolklaw09_CardOrders_L1_2 -/
def kinfolklaw09_CardOrders_L1_2_st (l : List E_card_Field) (order : List Int) (n : Int) (n2 : Int) (n3 : Int) (n4 : Int) (s : ByteArray) (s2 : ByteArray) (r : List E_card_Field) : Int → St
  | n5 => ⟨[(0, (.av (.one (.pv (.recs 3 (List.map E_card_Field.pv l) false))))), (1, (.av (.one (.pv (.ints .u8 order false))))), (11, (.av (.one (.own 0 0 ((List.map E_card_Field.pv r)).length false)))), (13, (.av (.one (.ref 0 0)))), (31, (.av (.one (.own 0 0 ((List.map E_card_Field.pv r)).length false)))), (32, (.av (.one (.pv (.int .i64 n))))), (33, (.av (.one (.pv (.int .i64 n2))))), (37, (.av (.one (.own 0 0 ((List.map E_card_Field.pv r)).length false)))), (38, (.av (.one (.pv (.int .i64 n3))))), (39, (.av (.one (.pv (.int .i64 n5)))))], [(0, [(.pv (.int .i64 n4)), (.pv (.str s)), (.pv (.str s2))])], [(0, (.live (.recs 3 (List.map E_card_Field.pv r))))]⟩
def kinfolklaw09_CardOrders_L1_2_ex (l : List E_card_Field) (order : List Int) (n : Int) (n2 : Int) (n3 : Int) (n4 : Int) (s : ByteArray) (s2 : ByteArray) (r : List E_card_Field) : (Unit) ⊕ (Unit) → Ex × St
  | .inl _ => (.ret, ⟨[(10, (.av (.one (.pv (.bool false)))))], [], []⟩)
  | .inr _ => ((.exit 2), ⟨[(0, (.av (.one (.pv (.recs 3 (List.map E_card_Field.pv l) false))))), (1, (.av (.one (.pv (.ints .u8 order false))))), (11, (.av (.one (.own 0 0 ((List.map E_card_Field.pv r)).length false)))), (31, (.av (.one (.own 0 0 ((List.map E_card_Field.pv r)).length false)))), (32, (.av (.one (.pv (.int .i64 n))))), (33, (.av (.one (.pv (.int .i64 n2)))))], [(0, [(.pv (.int .i64 n4)), (.pv (.str s)), (.pv (.str s2))])], [(0, (.live (.recs 3 (List.map E_card_Field.pv r))))]⟩)
noncomputable def kinfolklaw09_CardOrders_L1_2_step (l : List E_card_Field) (order : List Int) (n : Int) (n2 : Int) (n3 : Int) (n4 : Int) (s : ByteArray) (s2 : ByteArray) (r : List E_card_Field) : Int → Option ((Int) ⊕ ((Unit) ⊕ (Unit)))
  | n5 =>
  bif (decide ((n5 : Int) < n3)) then
    bif decide ((0 : Int) ≤ n5) && decide ((n5 : Int) < (((List.map E_card_Field.pv r)).length : Int)) then
    (r[(0 + (n5).toNat)]?).bind fun e_ => match e_ with
    | .mk n6 s3 s4 =>
    (card_Less n4 s s2 n6 s3 s4).bind fun b =>
    (kinfolkref09_Less n4 s s2 n6 s3 s4).bind fun b2 =>
    bif (b == b2) then
      bif b then
        (card_Less n6 s3 s4 n4 s s2).bind fun b3 =>
        bif b3 then
          some (.inr (.inl ()))
        else
          bif ((decide ((n4 : Int) = n6)) && ((decide ((s : ByteArray) = s3)) && ((decide ((s2 : ByteArray) = s4)) && true))) then
            some (.inl (iadd .i64 n5 1))
          else
            some (.inl (iadd .i64 n5 1))
      else
        bif ((decide ((n4 : Int) = n6)) && ((decide ((s : ByteArray) = s3)) && ((decide ((s2 : ByteArray) = s4)) && true))) then
          some (.inl (iadd .i64 n5 1))
        else
          (card_Less n6 s3 s4 n4 s s2).bind fun b3 =>
          bif b3 then
            some (.inl (iadd .i64 n5 1))
          else
            some (.inr (.inl ()))
    else
      some (.inr (.inl ()))
    else none
  else
    some (.inr (.inr ()))
theorem kinfolklaw09_CardOrders_L1_2_ok (l : List E_card_Field) (order : List Int) (n : Int) (n2 : Int) (n3 : Int) (n4 : Int) (s : ByteArray) (s2 : ByteArray) (r : List E_card_Field) (n5 : Int) (z_ : (Int) ⊕ ((Unit) ⊕ (Unit))) (h : kinfolklaw09_CardOrders_L1_2_step l order n n2 n3 n4 s s2 r n5 = some z_) : RoundOk Tryd.prog cfg 5 0 (loopAt Tryd.prog 5 1) (kinfolklaw09_CardOrders_L1_2_st l order n n2 n3 n4 s s2 r) (kinfolklaw09_CardOrders_L1_2_ex l order n n2 n3 n4 s s2 r) n5 z_ := by
  rcases cond_of h with ⟨h1, h⟩ | ⟨h1, h⟩
  · obtain ⟨h2, h⟩ := need_of h
    obtain ⟨⟨n6, s3, s4⟩, h3, h⟩ := bind_of h
    obtain ⟨b, h4, h⟩ := bind_of h
    obtain ⟨b2, h5, h⟩ := bind_of h
    have p5_ := fun {sc_ : List Ev} {Q_ : Prop} (t_ : Tell sc_ Q_) => tT h1 <| tO h2 <| tE (.el [(.int .i64 n6), (.str s3), (.str s4)]) <| tO (el_of (f := E_card_Field.pv) h3) <| tR (card_Less_runs n4 s s2 n6 s3 s4 _ h4) <| tR (card_Less_runs n4 s s2 n6 s3 s4 _ h4) <| tR (card_Less_runs n4 s s2 n6 s3 s4 _ h4) <| tR (card_Less_runs n4 s s2 n6 s3 s4 _ h4) <| tR (kinfolkref09_Less_runs n4 s s2 n6 s3 s4 _ h5) <| t_
    rcases cond_of h with ⟨h6, h⟩ | ⟨h6, h⟩
    · rcases cond_of h with ⟨h7, h⟩ | ⟨h7, h⟩
      · obtain ⟨b3, h8, h⟩ := bind_of h
        rcases cond_of h with ⟨h9, h⟩ | ⟨h9, h⟩
        · have h := some_of h
          subst h
          have t_ := p5_ <| tF (not_of2 h6) <| tR (card_Less_runs n4 s s2 n6 s3 s4 _ h4) <| tT h7 <| tR (card_Less_runs n6 s3 s4 n4 s s2 _ h8) <| tT h9 <| tT (rfl : true = true) <| tN
          exact ⟨t_.ev, (kinfolklaw09_CardOrders_L1_2_ex l order n n2 n3 n4 s s2 r (.inl ())).2, .k1 t_.pf (by kernel_rfl) (by kernel_rfl), .same (by kernel_rfl)⟩
        · rcases cond_of h with ⟨h10, h⟩ | ⟨h10, h⟩
          · have h := some_of h
            subst h
            have t_ := p5_ <| tF (not_of2 h6) <| tR (card_Less_runs n4 s s2 n6 s3 s4 _ h4) <| tT h7 <| tR (card_Less_runs n6 s3 s4 n4 s s2 _ h8) <| tF h9 <| tF (not_of2 h10) <| tF (rfl : false = false) <| tF (rfl : false = false) <| tN
            exact ⟨t_.ev, kinfolklaw09_CardOrders_L1_2_st l order n n2 n3 n4 s s2 r (iadd .i64 n5 1), .k1 t_.pf (by kernel_rfl) (by kernel_rfl), .same (by kernel_rfl)⟩
          · have h := some_of h
            subst h
            have t_ := p5_ <| tF (not_of2 h6) <| tR (card_Less_runs n4 s s2 n6 s3 s4 _ h4) <| tT h7 <| tR (card_Less_runs n6 s3 s4 n4 s s2 _ h8) <| tF h9 <| tT (not_of h10) <| tR (card_Less_runs n4 s s2 n6 s3 s4 _ h4) <| tF (not_of2 h7) <| tF (rfl : false = false) <| tN
            exact ⟨t_.ev, kinfolklaw09_CardOrders_L1_2_st l order n n2 n3 n4 s s2 r (iadd .i64 n5 1), .k1 t_.pf (by kernel_rfl) (by kernel_rfl), .same (by kernel_rfl)⟩
      · rcases cond_of h with ⟨h8, h⟩ | ⟨h8, h⟩
        · have h := some_of h
          subst h
          have t_ := p5_ <| tF (not_of2 h6) <| tR (card_Less_runs n4 s s2 n6 s3 s4 _ h4) <| tF h7 <| tF (rfl : false = false) <| tF (not_of2 h8) <| tF (rfl : false = false) <| tF (rfl : false = false) <| tN
          exact ⟨t_.ev, kinfolklaw09_CardOrders_L1_2_st l order n n2 n3 n4 s s2 r (iadd .i64 n5 1), .k1 t_.pf (by kernel_rfl) (by kernel_rfl), .same (by kernel_rfl)⟩
        · obtain ⟨b3, h9, h⟩ := bind_of h
          rcases cond_of h with ⟨h10, h⟩ | ⟨h10, h⟩
          · have h := some_of h
            subst h
            have t_ := p5_ <| tF (not_of2 h6) <| tR (card_Less_runs n4 s s2 n6 s3 s4 _ h4) <| tF h7 <| tF (rfl : false = false) <| tT (not_of h8) <| tR (card_Less_runs n4 s s2 n6 s3 s4 _ h4) <| tT (not_of h7) <| tR (card_Less_runs n6 s3 s4 n4 s s2 _ h9) <| tF (not_of2 h10) <| tN
            exact ⟨t_.ev, kinfolklaw09_CardOrders_L1_2_st l order n n2 n3 n4 s s2 r (iadd .i64 n5 1), .k1 t_.pf (by kernel_rfl) (by kernel_rfl), .same (by kernel_rfl)⟩
          · have h := some_of h
            subst h
            have t_ := p5_ <| tF (not_of2 h6) <| tR (card_Less_runs n4 s s2 n6 s3 s4 _ h4) <| tF h7 <| tF (rfl : false = false) <| tT (not_of h8) <| tR (card_Less_runs n4 s s2 n6 s3 s4 _ h4) <| tT (not_of h7) <| tR (card_Less_runs n6 s3 s4 n4 s s2 _ h9) <| tT (not_of h10) <| tN
            exact ⟨t_.ev, (kinfolklaw09_CardOrders_L1_2_ex l order n n2 n3 n4 s s2 r (.inl ())).2, .k1 t_.pf (by kernel_rfl) (by kernel_rfl), .same (by kernel_rfl)⟩
    · have h := some_of h
      subst h
      have t_ := p5_ <| tT (not_of h6) <| tT (rfl : true = true) <| tT (rfl : true = true) <| tN
      exact ⟨t_.ev, (kinfolklaw09_CardOrders_L1_2_ex l order n n2 n3 n4 s s2 r (.inl ())).2, .k1 t_.pf (by kernel_rfl) (by kernel_rfl), .same (by kernel_rfl)⟩
  · have h := some_of h
    subst h
    have t_ := tF h1 <| tN
    exact ⟨t_.ev, ⟨[(40, (.av (.one (.pv (.bool false))))), (0, (.av (.one (.pv (.recs 3 (List.map E_card_Field.pv l) false))))), (1, (.av (.one (.pv (.ints .u8 order false))))), (11, (.av (.one (.own 0 0 ((List.map E_card_Field.pv r)).length false)))), (13, (.av (.one (.ref 0 0)))), (31, (.av (.one (.own 0 0 ((List.map E_card_Field.pv r)).length false)))), (32, (.av (.one (.pv (.int .i64 n))))), (33, (.av (.one (.pv (.int .i64 n2))))), (37, (.av (.one (.own 0 0 ((List.map E_card_Field.pv r)).length false)))), (38, (.av (.one (.pv (.int .i64 n3))))), (39, (.av (.one (.pv (.int .i64 n5))))), (40, (.av (.one (.pv (.bool (decide ((n5 : Int) < n3)))))))], [(0, [(.pv (.int .i64 n4)), (.pv (.str s)), (.pv (.str s2))])], [(0, (.live (.recs 3 (List.map E_card_Field.pv r))))]⟩, .k0 t_.pf (by kernel_rfl), ⟨⟨⟨_, rfl, .eq rfl⟩, ⟨_, rfl, .eq rfl⟩, ⟨_, rfl, .eq rfl⟩, ⟨_, rfl, .eq rfl⟩, ⟨_, rfl, .eq rfl⟩, ⟨_, rfl, .eq rfl⟩, trivial⟩, ⟨⟨rfl, ⟨.eq rfl, .eq rfl, .eq rfl, trivial⟩⟩, trivial⟩, ⟨⟨rfl, .eq rfl⟩, trivial⟩⟩⟩
theorem kinfolklaw09_CardOrders_L1_2_runs (l : List E_card_Field) (order : List Int) (n : Int) (n2 : Int) (n3 : Int) (n4 : Int) (s : ByteArray) (s2 : ByteArray) (r : List E_card_Field) (s_ : Int) (r_ : (Unit) ⊕ (Unit)) (h : runL (kinfolklaw09_CardOrders_L1_2_step l order n n2 n3 n4 s s2 r) s_ = some r_) : LRuns Tryd.prog (lEnv Tryd.prog cfg 5 0).nt 0 (.loop (loopAt Tryd.prog 5 1)) (kinfolklaw09_CardOrders_L1_2_st l order n n2 n3 n4 s s2 r s_) (kinfolklaw09_CardOrders_L1_2_ex l order n n2 n3 n4 s s2 r r_).1 (kinfolklaw09_CardOrders_L1_2_ex l order n n2 n3 n4 s s2 r r_).2 :=
  loop_run h (kinfolklaw09_CardOrders_L1_2_ok l order n n2 n3 n4 s s2 r) (by intro r_; rcases r_ with _ | _ <;> simp [kinfolklaw09_CardOrders_L1_2_ex])
/-! ### kinfolklaw09_CardOrders_L0 -/
def kinfolklaw09_CardOrders_L0_st (l : List E_card_Field) (order : List Int) (n : Int) (r : List E_card_Field) : Int → St
  | n2 => ⟨[(0, (.av (.one (.pv (.recs 3 (List.map E_card_Field.pv l) false))))), (1, (.av (.one (.pv (.ints .u8 order false))))), (11, (.av (.one (.own 0 0 ((List.map E_card_Field.pv r)).length false)))), (31, (.av (.one (.own 0 0 ((List.map E_card_Field.pv r)).length false)))), (32, (.av (.one (.pv (.int .i64 n))))), (33, (.av (.one (.pv (.int .i64 n2)))))], [], [(0, (.live (.recs 3 (List.map E_card_Field.pv r))))]⟩
def kinfolklaw09_CardOrders_L0_ex (l : List E_card_Field) (order : List Int) (n : Int) (r : List E_card_Field) : (Unit) ⊕ (Unit) → Ex × St
  | .inl _ => (.ret, ⟨[(10, (.av (.one (.pv (.bool false)))))], [], []⟩)
  | .inr _ => ((.exit 0), ⟨[(0, (.av (.one (.pv (.recs 3 (List.map E_card_Field.pv l) false))))), (1, (.av (.one (.pv (.ints .u8 order false)))))], [], [(0, (.live (.recs 3 (List.map E_card_Field.pv r))))]⟩)
noncomputable def kinfolklaw09_CardOrders_L0_step (l : List E_card_Field) (order : List Int) (n : Int) (r : List E_card_Field) : Int → Option ((Int) ⊕ ((Unit) ⊕ (Unit)))
  | n2 =>
  bif (decide ((n2 : Int) < n)) then
    bif decide ((0 : Int) ≤ n2) && decide ((n2 : Int) < (((List.map E_card_Field.pv r)).length : Int)) then
    (r[(0 + (n2).toNat)]?).bind fun e_ => match e_ with
    | .mk n3 s s2 =>
    (runL (kinfolklaw09_CardOrders_L1_2_step l order n n2 (((List.map E_card_Field.pv r)).length : Int) n3 s s2 r) 0).bind fun z_ => match z_ with
    | .inl _ =>
      some (.inr (.inl ()))
    | .inr _ =>
      some (.inl (iadd .i64 n2 1))
    else none
  else
    some (.inr (.inr ()))
theorem kinfolklaw09_CardOrders_L0_ok (l : List E_card_Field) (order : List Int) (n : Int) (r : List E_card_Field) (n2 : Int) (z_ : (Int) ⊕ ((Unit) ⊕ (Unit))) (h : kinfolklaw09_CardOrders_L0_step l order n r n2 = some z_) : RoundOk Tryd.prog cfg 5 0 (loopAt Tryd.prog 5 0) (kinfolklaw09_CardOrders_L0_st l order n r) (kinfolklaw09_CardOrders_L0_ex l order n r) n2 z_ := by
  rcases cond_of h with ⟨h1, h⟩ | ⟨h1, h⟩
  · obtain ⟨h2, h⟩ := need_of h
    obtain ⟨⟨n3, s, s2⟩, h3, h⟩ := bind_of h
    obtain ⟨z_, h4, h⟩ := bind_of h
    rcases z_ with _ | _
    · have h := some_of h
      subst h
      have t_ := tT h1 <| tO h2 <| tE (.el [(.int .i64 n3), (.str s), (.str s2)]) <| tO (el_of (f := E_card_Field.pv) h3) <| tL (kinfolklaw09_CardOrders_L1_2_runs l order n n2 (((List.map E_card_Field.pv r)).length : Int) n3 s s2 r _ _ h4) <| tN
      exact ⟨t_.ev, (kinfolklaw09_CardOrders_L0_ex l order n r (.inl ())).2, .k0 t_.pf (by kernel_rfl), .same (by kernel_rfl)⟩
    · have h := some_of h
      subst h
      have t_ := tT h1 <| tO h2 <| tE (.el [(.int .i64 n3), (.str s), (.str s2)]) <| tO (el_of (f := E_card_Field.pv) h3) <| tL (kinfolklaw09_CardOrders_L1_2_runs l order n n2 (((List.map E_card_Field.pv r)).length : Int) n3 s s2 r _ _ h4) <| tN
      exact ⟨t_.ev, kinfolklaw09_CardOrders_L0_st l order n r (iadd .i64 n2 1), .k0 t_.pf (by kernel_rfl), .same (by kernel_rfl)⟩
  · have h := some_of h
    subst h
    have t_ := tF h1 <| tN
    exact ⟨t_.ev, ⟨[(34, (.av (.one (.pv (.bool false))))), (0, (.av (.one (.pv (.recs 3 (List.map E_card_Field.pv l) false))))), (1, (.av (.one (.pv (.ints .u8 order false))))), (11, (.av (.one (.own 0 0 ((List.map E_card_Field.pv r)).length false)))), (31, (.av (.one (.own 0 0 ((List.map E_card_Field.pv r)).length false)))), (32, (.av (.one (.pv (.int .i64 n))))), (33, (.av (.one (.pv (.int .i64 n2))))), (34, (.av (.one (.pv (.bool (decide ((n2 : Int) < n)))))))], [], [(0, (.live (.recs 3 (List.map E_card_Field.pv r))))]⟩, .k0 t_.pf (by kernel_rfl), ⟨⟨⟨_, rfl, .eq rfl⟩, ⟨_, rfl, .eq rfl⟩, trivial⟩, trivial, ⟨⟨rfl, .eq rfl⟩, trivial⟩⟩⟩
theorem kinfolklaw09_CardOrders_L0_runs (l : List E_card_Field) (order : List Int) (n : Int) (r : List E_card_Field) (s_ : Int) (r_ : (Unit) ⊕ (Unit)) (h : runL (kinfolklaw09_CardOrders_L0_step l order n r) s_ = some r_) : LRuns Tryd.prog (lEnv Tryd.prog cfg 5 0).nt 0 (.loop (loopAt Tryd.prog 5 0)) (kinfolklaw09_CardOrders_L0_st l order n r s_) (kinfolklaw09_CardOrders_L0_ex l order n r r_).1 (kinfolklaw09_CardOrders_L0_ex l order n r r_).2 :=
  loop_run h (kinfolklaw09_CardOrders_L0_ok l order n r) (by intro r_; rcases r_ with _ | _ <;> simp [kinfolklaw09_CardOrders_L0_ex])
/-! ### kinfolklaw09_CardOrders_L2 -/
def kinfolklaw09_CardOrders_L2_st (order : List Int) (y : List E_kinfolkref09_Field) (n : Int) (r : List E_card_Field) : Int × List E_card_Field → St
  | (n2, r2) => ⟨[(1, (.av (.one (.pv (.ints .u8 order false))))), (16, (.av (.one (.ref 0 0)))), (17, (.av (.one (.pv (.recs 3 (List.map E_kinfolkref09_Field.pv y) false))))), (18, (.av (.one (.own 0 0 ((List.map E_card_Field.pv r2)).length false)))), (87, (.av (.one (.pv (.int .i64 n))))), (88, (.av (.one (.pv (.int .i64 n2)))))], [(0, [(.pv (.recs 3 (List.map E_card_Field.pv r) false))])], [(0, (.live (.recs 3 (List.map E_card_Field.pv r2))))]⟩
def kinfolklaw09_CardOrders_L2_ex (order : List Int) (y : List E_kinfolkref09_Field) (n : Int) (r : List E_card_Field) : List E_card_Field → Ex × St
  | r1 => ((.exit 4), ⟨[(16, (.av (.one (.ref 0 0)))), (17, (.av (.one (.pv (.recs 3 (List.map E_kinfolkref09_Field.pv y) false))))), (18, (.av (.one (.own 0 0 ((List.map E_card_Field.pv r1)).length false))))], [(0, [(.pv (.recs 3 (List.map E_card_Field.pv r) false))])], [(0, (.live (.recs 3 (List.map E_card_Field.pv r1))))]⟩)
noncomputable def kinfolklaw09_CardOrders_L2_step (order : List Int) (y : List E_kinfolkref09_Field) (n : Int) (r : List E_card_Field) : Int × List E_card_Field → Option ((Int × List E_card_Field) ⊕ (List E_card_Field))
  | (n2, r2) =>
  bif (decide ((n2 : Int) < n)) then
    bif (decide ((n2 : Int) < ((order).length : Int))) then
      bif decide ((0 : Int) ≤ n2) && decide ((n2 : Int) < ((order).length : Int)) then
      bif !decide (((isub .i64 (((List.map E_card_Field.pv r2)).length : Int) n2) : Int) = 0) then
      bif decide ((0 : Int) ≤ (iadd .i64 n2 (irem .i64 (IntKind.i64.wrap (order.getD (n2).toNat 0)) (isub .i64 (((List.map E_card_Field.pv r2)).length : Int) n2)))) && decide (((iadd .i64 n2 (irem .i64 (IntKind.i64.wrap (order.getD (n2).toNat 0)) (isub .i64 (((List.map E_card_Field.pv r2)).length : Int) n2))) : Int) < (((List.map E_card_Field.pv r2)).length : Int)) then
      bif decide ((0 : Int) ≤ n2) && decide ((n2 : Int) < (((List.map E_card_Field.pv r2)).length : Int)) then
      (r2[(0 + ((iadd .i64 n2 (irem .i64 (IntKind.i64.wrap (order.getD (n2).toNat 0)) (isub .i64 (((List.map E_card_Field.pv r2)).length : Int) n2)))).toNat)]?).bind fun e_ => match e_ with
      | .mk n3 s s2 =>
      (r2[(0 + (n2).toNat)]?).bind fun e_ => match e_ with
      | .mk n4 s3 s4 =>
      some (.inl ((iadd .i64 n2 1), ((r2.set (0 + (n2).toNat) (E_card_Field.mk n3 s s2)).set (0 + ((iadd .i64 n2 (irem .i64 (IntKind.i64.wrap (order.getD (n2).toNat 0)) (isub .i64 (((List.map E_card_Field.pv r2)).length : Int) n2)))).toNat) (E_card_Field.mk n4 s3 s4))))
      else none
      else none
      else none
      else none
    else
      some (.inl ((iadd .i64 n2 1), r2))
  else
    some (.inr r2)
theorem kinfolklaw09_CardOrders_L2_ok (order : List Int) (y : List E_kinfolkref09_Field) (n : Int) (r : List E_card_Field) (s_ : Int × List E_card_Field) (z_ : (Int × List E_card_Field) ⊕ (List E_card_Field)) (h : kinfolklaw09_CardOrders_L2_step order y n r s_ = some z_) : RoundOk Tryd.prog cfg 5 0 (loopAt Tryd.prog 5 2) (kinfolklaw09_CardOrders_L2_st order y n r) (kinfolklaw09_CardOrders_L2_ex order y n r) s_ z_ := by
  rcases s_ with ⟨n2, r2⟩
  rcases cond_of h with ⟨h1, h⟩ | ⟨h1, h⟩
  · rcases cond_of h with ⟨h2, h⟩ | ⟨h2, h⟩
    · obtain ⟨h3, h⟩ := need_of h
      obtain ⟨h4, h⟩ := need_of h
      obtain ⟨h5, h⟩ := need_of h
      obtain ⟨h6, h⟩ := need_of h
      obtain ⟨⟨n3, s, s2⟩, h7, h⟩ := bind_of h
      obtain ⟨⟨n4, s3, s4⟩, h8, h⟩ := bind_of h
      have h := some_of h
      subst h
      have t_ := tT h1 <| tT h2 <| tO h3 <| tO h4 <| tO h5 <| tO h6 <| tE (.el [(.int .i64 n3), (.str s), (.str s2)]) <| tO (el_of (f := E_card_Field.pv) h7) <| tE (.el [(.int .i64 n4), (.str s3), (.str s4)]) <| tO (el_of (f := E_card_Field.pv) h8) <| tE (.el [(.int .i64 n3), (.str s), (.str s2)]) <| tO (el_of (f := E_card_Field.pv) h7) <| tE (.el [(.int .i64 n4), (.str s3), (.str s4)]) <| tO (el_of (f := E_card_Field.pv) h8) <| tO h6 <| tO h5 <| tN
      exact ⟨t_.ev, ⟨[(1, (.av (.one (.pv (.ints .u8 order false))))), (16, (.av (.one (.ref 0 0)))), (17, (.av (.one (.pv (.recs 3 (List.map E_kinfolkref09_Field.pv y) false))))), (18, (.av (.one (.own 0 0 ((List.map E_card_Field.pv r2)).length false)))), (87, (.av (.one (.pv (.int .i64 n))))), (88, (.av (.one (.pv (.int .i64 (iadd .i64 n2 1))))))], [(0, [(.pv (.recs 3 (List.map E_card_Field.pv r) false))])], [(0, (.live (.recs 3 (((List.map E_card_Field.pv r2).set (0 + (n2).toNat) (setL ((List.map E_card_Field.pv r2).getD (0 + (n2).toNat) []) 0 [(.int .i64 n3), (.str s), (.str s2)])).set (0 + ((iadd .i64 n2 (irem .i64 (IntKind.i64.wrap (order.getD (n2).toNat 0)) (isub .i64 (((List.map E_card_Field.pv r2)).length : Int) n2)))).toNat) (setL (((List.map E_card_Field.pv r2).set (0 + (n2).toNat) (setL ((List.map E_card_Field.pv r2).getD (0 + (n2).toNat) []) 0 [(.int .i64 n3), (.str s), (.str s2)])).getD (0 + ((iadd .i64 n2 (irem .i64 (IntKind.i64.wrap (order.getD (n2).toNat 0)) (isub .i64 (((List.map E_card_Field.pv r2)).length : Int) n2)))).toNat) []) 0 [(.int .i64 n4), (.str s3), (.str s4)])))))]⟩, .k1 t_.pf (by kernel_rfl) (by kernel_rfl), ⟨⟨⟨_, rfl, .eq rfl⟩, ⟨_, rfl, .eq rfl⟩, ⟨_, rfl, .eq rfl⟩, ⟨_, rfl, .own (by first | rfl | (simp only [List.take_length]; done) | (simp only [List.take_length, List.length_append, List.drop_zero, List.map_append, List.map_take, List.map_drop, List.map_replicate, List.map_cons, List.map_nil, List.append_nil, List.nil_append, E_card_Field.pv, E_L_card_Field.pv, E_kinfolkref09_Field.pv, E_string.pv, E_card_Field.upd, E_L_card_Field.upd, E_kinfolkref09_Field.upd, E_string.upd]; done) | (simp; done))⟩, ⟨_, rfl, .eq rfl⟩, ⟨_, rfl, .eq rfl⟩, trivial⟩, ⟨⟨rfl, ⟨.eq rfl, trivial⟩⟩, trivial⟩, ⟨⟨rfl, .recs (.eq (by first | rfl | (simp only [List.take_length]; done) | (simp only [List.take_length, List.length_append, List.drop_zero, List.map_append, List.map_take, List.map_drop, List.map_replicate, List.map_cons, List.map_nil, List.append_nil, List.nil_append, E_card_Field.pv, E_L_card_Field.pv, E_kinfolkref09_Field.pv, E_string.pv, E_card_Field.upd, E_L_card_Field.upd, E_kinfolkref09_Field.upd, E_string.upd]; done) | (simp; done)))⟩, trivial⟩⟩⟩
    · have h := some_of h
      subst h
      have t_ := tT h1 <| tF h2 <| tN
      exact ⟨t_.ev, kinfolklaw09_CardOrders_L2_st order y n r ((iadd .i64 n2 1), r2), .k0 t_.pf (by kernel_rfl), .same (by kernel_rfl)⟩
  · have h := some_of h
    subst h
    have t_ := tF h1 <| tN
    exact ⟨t_.ev, ⟨[(89, (.av (.one (.pv (.bool false))))), (1, (.av (.one (.pv (.ints .u8 order false))))), (16, (.av (.one (.ref 0 0)))), (17, (.av (.one (.pv (.recs 3 (List.map E_kinfolkref09_Field.pv y) false))))), (18, (.av (.one (.own 0 0 ((List.map E_card_Field.pv r2)).length false)))), (87, (.av (.one (.pv (.int .i64 n))))), (88, (.av (.one (.pv (.int .i64 n2))))), (89, (.av (.one (.pv (.bool (decide ((n2 : Int) < n)))))))], [(0, [(.pv (.recs 3 (List.map E_card_Field.pv r) false))])], [(0, (.live (.recs 3 (List.map E_card_Field.pv r2))))]⟩, .k0 t_.pf (by kernel_rfl), ⟨⟨⟨_, rfl, .eq rfl⟩, ⟨_, rfl, .eq rfl⟩, ⟨_, rfl, .eq rfl⟩, trivial⟩, ⟨⟨rfl, ⟨.eq rfl, trivial⟩⟩, trivial⟩, ⟨⟨rfl, .eq rfl⟩, trivial⟩⟩⟩
theorem kinfolklaw09_CardOrders_L2_runs (order : List Int) (y : List E_kinfolkref09_Field) (n : Int) (r : List E_card_Field) (s_ : Int × List E_card_Field) (r_ : List E_card_Field) (h : runL (kinfolklaw09_CardOrders_L2_step order y n r) s_ = some r_) : LRuns Tryd.prog (lEnv Tryd.prog cfg 5 0).nt 0 (.loop (loopAt Tryd.prog 5 2)) (kinfolklaw09_CardOrders_L2_st order y n r s_) (kinfolklaw09_CardOrders_L2_ex order y n r r_).1 (kinfolklaw09_CardOrders_L2_ex order y n r r_).2 :=
  loop_run h (kinfolklaw09_CardOrders_L2_ok order y n r) (by intro r_; rcases r_ with r1 <;> simp [kinfolklaw09_CardOrders_L2_ex])
/-! ### kinfolklaw09_CardOrders -/
noncomputable def kinfolklaw09_CardOrders (N : Nat) (l : List E_card_Field) (order : List Int) (a : Int) (a2 : ByteArray) (a3 : ByteArray) (b : Int) (b2 : ByteArray) (b3 : ByteArray) (c : Int) (c2 : ByteArray) (c3 : ByteArray) : Option (Bool) :=
  (kinfolklaw09_awake).bind fun b4 =>
  bif b4 then
    (kinfolklaw09_few [(E_card_Field.mk a a2 a3), (E_card_Field.mk b b2 b3), (E_card_Field.mk c c2 c3)]).bind fun r =>
    (runL (kinfolklaw09_CardOrders_L0_step l order (((List.map E_card_Field.pv r)).length : Int) r) 0).bind fun z_ => match z_ with
    | .inl _ =>
      some false
    | .inr _ =>
      (kinfolklaw09_made N l).bind fun (r2, r3) =>
      (card_Card_Fields r2).bind fun _ =>
      (runL (kinfolklaw09_CardOrders_L2_step order r3 (((List.map E_card_Field.pv r2)).length : Int) r2) (0, r2)).bind fun r4 =>
      (card_Make (List.take ((List.map E_card_Field.pv r4)).length r4)).bind fun (r5, n) =>
      bif (decide ((n : Int) = 0)) then
        (card_Same r2 r5).bind fun b5 =>
        bif b5 then
          (card_Card_Fields r5).bind fun _ =>
          (kinfolklaw09_own (List.take ((List.map E_card_Field.pv r5)).length r5)).bind fun r6 =>
          (kinfolkref09_Same (List.take ((List.map E_kinfolkref09_Field.pv r6)).length r6) r3).bind fun b6 =>
          bif b6 then
            (card_Card_Len []).bind fun n2 =>
            bif (decide ((n2 : Int) = 0)) then
              (card_Card_Title []).bind fun s =>
              bif (decide (s = (⟨#[]⟩ : ByteArray))) then
                (card_Card_Fields []).bind fun _ =>
                some (decide (((((List.map E_card_Field.pv [])).length : Int) : Int) = 0))
              else
                some false
            else
              some false
          else
            some false
        else
          some false
      else
        some false
  else
    some false
theorem kinfolklaw09_CardOrders_runs (N : Nat) (l : List E_card_Field) (order : List Int) (a : Int) (a2 : ByteArray) (a3 : ByteArray) (b : Int) (b2 : ByteArray) (b3 : ByteArray) (c : Int) (c2 : ByteArray) (c3 : ByteArray) (r_ : Bool) (h : kinfolklaw09_CardOrders N l order a a2 a3 b b2 b3 c c2 c3 = some r_) : Runs Tryd.prog 5 [(.one (.pv (.recs 3 (List.map E_card_Field.pv l) false))), (.one (.pv (.ints .u8 order false))), (.agg [(.pv (.int .i64 a)), (.pv (.str a2)), (.pv (.str a3))]), (.agg [(.pv (.int .i64 b)), (.pv (.str b2)), (.pv (.str b3))]), (.agg [(.pv (.int .i64 c)), (.pv (.str c2)), (.pv (.str c3))])] [] [] (kinfolklaw09_CardOrders_out l order a a2 a3 b b2 b3 c c2 c3 r_) := by
  unfold kinfolklaw09_CardOrders at h
  obtain ⟨b4, h1, h⟩ := bind_of h
  rcases cond_of h with ⟨h2, h⟩ | ⟨h2, h⟩
  · obtain ⟨r, h3, h⟩ := bind_of h
    have q_3 := (Runs.coe (as' := [(.one (.pv (.recs 3 [[(.int .i64 a), (.str a2), (.str a3)], [(.int .i64 b), (.str b2), (.str b3)], [(.int .i64 c), (.str c2), (.str c3)]] true)))]) (objs' := []) (rows' := []) (kinfolklaw09_few_runs [(E_card_Field.mk a a2 a3), (E_card_Field.mk b b2 b3), (E_card_Field.mk c c2 c3)] _ h3) ⟨.pv (.recs (.cons (.cons (.eq rfl) (.cons (.eq rfl) (.cons (.eq rfl) (.nil)))) (.cons (.cons (.eq rfl) (.cons (.eq rfl) (.cons (.eq rfl) (.nil)))) (.cons (.cons (.eq rfl) (.cons (.eq rfl) (.cons (.eq rfl) (.nil)))) (.nil))))), trivial⟩ trivial trivial)
    obtain ⟨z_, h4, h⟩ := bind_of h
    rcases z_ with _ | _
    · have h := some_of h
      subst h
      have t_ := tR (kinfolklaw09_awake_runs _ h1) <| tF (not_of2 h2) <| tR q_3 <| tL (kinfolklaw09_CardOrders_L0_runs l order (((List.map E_card_Field.pv r)).length : Int) r _ _ h4) <| tN
      exact runs_of (C := cfg) (objs := []) (sc := t_.ev) (.k0 t_.pf (by kernel_rfl))
    · have q_4 := (kinfolklaw09_CardOrders_L0_runs l order (((List.map E_card_Field.pv r)).length : Int) r _ _ h4)
      obtain ⟨⟨r2, r3⟩, h5, h⟩ := bind_of h
      obtain ⟨_, h6, h⟩ := bind_of h
      obtain ⟨r4, h7, h⟩ := bind_of h
      have q_7 := (kinfolklaw09_CardOrders_L2_runs order r3 (((List.map E_card_Field.pv r2)).length : Int) r2 _ _ h7)
      obtain ⟨⟨r5, n⟩, h8, h⟩ := bind_of h
      have q_8 := (Runs.coe (as' := [(.one (.pv (.recs 3 (List.take ((List.map E_card_Field.pv r4)).length (List.map E_card_Field.pv r4)) false)))]) (objs' := []) (rows' := []) (card_Make_runs (List.take ((List.map E_card_Field.pv r4)).length r4) _ h8) ⟨.pv (.recsT (.eq (by first | rfl | (simp only [List.take_length]; done) | (simp only [List.take_length, List.length_append, List.drop_zero, List.map_append, List.map_take, List.map_drop, List.map_replicate, List.map_cons, List.map_nil, List.append_nil, List.nil_append, E_card_Field.pv, E_L_card_Field.pv, E_kinfolkref09_Field.pv, E_string.pv, E_card_Field.upd, E_L_card_Field.upd, E_kinfolkref09_Field.upd, E_string.upd]; done) | (simp; done)))), trivial⟩ trivial trivial)
      rcases cond_of h with ⟨h9, h⟩ | ⟨h9, h⟩
      · obtain ⟨b5, h10, h⟩ := bind_of h
        rcases cond_of h with ⟨h11, h⟩ | ⟨h11, h⟩
        · obtain ⟨_, h12, h⟩ := bind_of h
          obtain ⟨r6, h13, h⟩ := bind_of h
          have q_13 := (Runs.coe (as' := [(.one (.pv (.recs 3 (List.take ((List.map E_card_Field.pv r5)).length (List.map E_card_Field.pv r5)) false)))]) (objs' := []) (rows' := []) (kinfolklaw09_own_runs (List.take ((List.map E_card_Field.pv r5)).length r5) _ h13) ⟨.pv (.recsT (.eq (by first | rfl | (simp only [List.take_length]; done) | (simp only [List.take_length, List.length_append, List.drop_zero, List.map_append, List.map_take, List.map_drop, List.map_replicate, List.map_cons, List.map_nil, List.append_nil, List.nil_append, E_card_Field.pv, E_L_card_Field.pv, E_kinfolkref09_Field.pv, E_string.pv, E_card_Field.upd, E_L_card_Field.upd, E_kinfolkref09_Field.upd, E_string.upd]; done) | (simp; done)))), trivial⟩ trivial trivial)
          obtain ⟨b6, h14, h⟩ := bind_of h
          have q_14 := (Runs.coe (as' := [(.one (.pv (.recs 3 (List.take ((List.map E_kinfolkref09_Field.pv r6)).length (List.map E_kinfolkref09_Field.pv r6)) false))), (.one (.pv (.recs 3 (List.map E_kinfolkref09_Field.pv r3) false)))]) (objs' := []) (rows' := []) (kinfolkref09_Same_runs (List.take ((List.map E_kinfolkref09_Field.pv r6)).length r6) r3 _ h14) ⟨.pv (.recsT (.eq (by first | rfl | (simp only [List.take_length]; done) | (simp only [List.take_length, List.length_append, List.drop_zero, List.map_append, List.map_take, List.map_drop, List.map_replicate, List.map_cons, List.map_nil, List.append_nil, List.nil_append, E_card_Field.pv, E_L_card_Field.pv, E_kinfolkref09_Field.pv, E_string.pv, E_card_Field.upd, E_L_card_Field.upd, E_kinfolkref09_Field.upd, E_string.upd]; done) | (simp; done)))), .eq rfl, trivial⟩ trivial trivial)
          rcases cond_of h with ⟨h15, h⟩ | ⟨h15, h⟩
          · obtain ⟨n2, h16, h⟩ := bind_of h
            have q_16 := (Runs.coe (as' := [(.agg [(.pv .nils)])]) (objs' := []) (rows' := []) (card_Card_Len_runs [] _ h16) ⟨⟨.pv (.nilsR), trivial⟩, trivial⟩ trivial trivial)
            have p16_ := fun {sc_ : List Ev} {Q_ : Prop} (t_ : Tell sc_ Q_) => tR (kinfolklaw09_awake_runs _ h1) <| tF (not_of2 h2) <| tR q_3 <| tL q_4 <| tR (kinfolklaw09_made_runs N l _ h5) <| tR (card_Card_Fields_runs r2 _ h6) <| tL q_7 <| tR q_8 <| tT h9 <| tR (card_Same_runs r2 r5 _ h10) <| tT h11 <| tR (card_Card_Fields_runs r5 _ h12) <| tR q_13 <| tR q_14 <| tT h15 <| tR q_16 <| t_
            rcases cond_of h with ⟨h17, h⟩ | ⟨h17, h⟩
            · obtain ⟨s, h18, h⟩ := bind_of h
              have q_18 := (Runs.coe (as' := [(.agg [(.pv .nils)])]) (objs' := []) (rows' := []) (card_Card_Title_runs [] _ h18) ⟨⟨.pv (.nilsR), trivial⟩, trivial⟩ trivial trivial)
              rcases cond_of h with ⟨h19, h⟩ | ⟨h19, h⟩
              · obtain ⟨_, h20, h⟩ := bind_of h
                have h := some_of h
                subst h
                have t_ := p16_ <| tT h17 <| tR q_18 <| tT h19 <| tR (Runs.coe (as' := [(.agg [(.pv .nils)])]) (objs' := []) (rows' := []) (card_Card_Fields_runs [] _ h20) ⟨⟨.pv (.nilsR), trivial⟩, trivial⟩ trivial trivial) <| tN
                exact runs_of (C := cfg) (objs := []) (sc := t_.ev) (.k0 t_.pf (by kernel_rfl))
              · have h := some_of h
                subst h
                have t_ := p16_ <| tT h17 <| tR q_18 <| tF h19 <| tN
                exact runs_of (C := cfg) (objs := []) (sc := t_.ev) (.k0 t_.pf (by kernel_rfl))
            · have h := some_of h
              subst h
              have t_ := p16_ <| tF h17 <| tF (rfl : false = false) <| tN
              exact runs_of (C := cfg) (objs := []) (sc := t_.ev) (.k0 t_.pf (by kernel_rfl))
          · have h := some_of h
            subst h
            have t_ := tR (kinfolklaw09_awake_runs _ h1) <| tF (not_of2 h2) <| tR q_3 <| tL q_4 <| tR (kinfolklaw09_made_runs N l _ h5) <| tR (card_Card_Fields_runs r2 _ h6) <| tL q_7 <| tR q_8 <| tT h9 <| tR (card_Same_runs r2 r5 _ h10) <| tT h11 <| tR (card_Card_Fields_runs r5 _ h12) <| tR q_13 <| tR q_14 <| tF h15 <| tF (rfl : false = false) <| tF (rfl : false = false) <| tN
            exact runs_of (C := cfg) (objs := []) (sc := t_.ev) (.k0 t_.pf (by kernel_rfl))
        · have h := some_of h
          subst h
          have t_ := tR (kinfolklaw09_awake_runs _ h1) <| tF (not_of2 h2) <| tR q_3 <| tL q_4 <| tR (kinfolklaw09_made_runs N l _ h5) <| tR (card_Card_Fields_runs r2 _ h6) <| tL q_7 <| tR q_8 <| tT h9 <| tR (card_Same_runs r2 r5 _ h10) <| tF h11 <| tF (rfl : false = false) <| tF (rfl : false = false) <| tF (rfl : false = false) <| tN
          exact runs_of (C := cfg) (objs := []) (sc := t_.ev) (.k0 t_.pf (by kernel_rfl))
      · have h := some_of h
        subst h
        have t_ := tR (kinfolklaw09_awake_runs _ h1) <| tF (not_of2 h2) <| tR q_3 <| tL q_4 <| tR (kinfolklaw09_made_runs N l _ h5) <| tR (card_Card_Fields_runs r2 _ h6) <| tL q_7 <| tR q_8 <| tF h9 <| tF (rfl : false = false) <| tF (rfl : false = false) <| tF (rfl : false = false) <| tF (rfl : false = false) <| tN
        exact runs_of (C := cfg) (objs := []) (sc := t_.ev) (.k0 t_.pf (by kernel_rfl))
  · have h := some_of h
    subst h
    have t_ := tR (kinfolklaw09_awake_runs _ h1) <| tT (not_of h2) <| tN
    exact runs_of (C := cfg) (objs := []) (sc := t_.ev) (.k0 t_.pf (by kernel_rfl))

end Go.Proofs.YteiikkpajcggfaaDoor
