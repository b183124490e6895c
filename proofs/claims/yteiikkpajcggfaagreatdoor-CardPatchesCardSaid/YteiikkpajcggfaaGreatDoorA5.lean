/- What functions compute, and that they do. -/
import Derived.Test.YteiikkpajcggfaaGreatDoorA4
set_option linter.unusedVariables false
set_option linter.unusedSimpArgs false
set_option maxRecDepth 100000
namespace Go.Proofs.YteiikkpajcggfaaGreatDoor
open Go.Ev

/-! ### slices_IndexFunc_card_Field_L0_3 -/
def slices_IndexFunc_card_Field_L0_3_st (s : List E_card_Field) (n : Int) (r : List E_card_Field) : Int → St
  | n2 => ⟨[(0, (.av (.one (.bor (.recs 3 (List.map E_card_Field.pv s) false))))), (1, (.av (.one (.fn 112 [(.ref 0 0)])))), (7, (.av (.one (.pv (.int .i64 n))))), (8, (.av (.one (.pv (.int .i64 n2)))))], [(0, [(.pv (.recs 3 (List.map E_card_Field.pv r) false))])], []⟩
def slices_IndexFunc_card_Field_L0_3_ex (s : List E_card_Field) (n : Int) (r : List E_card_Field) : (Int) ⊕ (Unit) → Ex × St
  | .inl r1 => (.ret, ⟨[(4, (.av (.one (.pv (.int .i64 r1)))))], [(0, [(.pv (.recs 3 (List.map E_card_Field.pv r) false))])], []⟩)
  | .inr _ => ((.exit 0), ⟨[], [(0, [(.pv (.recs 3 (List.map E_card_Field.pv r) false))])], []⟩)
noncomputable def slices_IndexFunc_card_Field_L0_3_step (s : List E_card_Field) (n : Int) (r : List E_card_Field) : Int → Option ((Int) ⊕ ((Int) ⊕ (Unit)))
  | n2 =>
  bif (decide ((n2 : Int) < n)) then
    bif decide ((0 : Int) ≤ n2) && decide ((n2 : Int) < (((List.map E_card_Field.pv s)).length : Int)) then
    (s[(n2).toNat]?).bind fun e_ => match e_ with
    | .mk n3 s2 s3 =>
    (card_less_1 n3 s2 s3 r).bind fun b =>
    bif b then
      some (.inr (.inl n2))
    else
      some (.inl (iadd .i64 n2 1))
    else none
  else
    some (.inr (.inr ()))
theorem slices_IndexFunc_card_Field_L0_3_ok (s : List E_card_Field) (n : Int) (r : List E_card_Field) (n2 : Int) (z_ : (Int) ⊕ ((Int) ⊕ (Unit))) (h : slices_IndexFunc_card_Field_L0_3_step s n r n2 = some z_) : RoundOk Tryz.prog cfg 98 1 (loopAt Tryz.prog 98 0) (slices_IndexFunc_card_Field_L0_3_st s n r) (slices_IndexFunc_card_Field_L0_3_ex s n r) n2 z_ := by
  rcases cond_of h with ⟨h1, h⟩ | ⟨h1, h⟩
  · obtain ⟨h2, h⟩ := need_of h
    obtain ⟨⟨n3, s2, s3⟩, h3, h⟩ := bind_of h
    obtain ⟨b, h4, h⟩ := bind_of h
    rcases cond_of h with ⟨h5, h⟩ | ⟨h5, h⟩
    · have h := some_of h
      subst h
      have t_ := tT h1 <| tO h2 <| tE (.el [(.int .i64 n3), (.str s2), (.str s3)]) <| tO (el_of (f := E_card_Field.pv) h3) <| tR (card_less_1_runs n3 s2 s3 r _ h4) <| tT h5 <| tN
      exact ⟨t_.ev, (slices_IndexFunc_card_Field_L0_3_ex s n r (.inl n2)).2, .k0 t_.pf (by kernel_rfl), .same (by kernel_rfl)⟩
    · have h := some_of h
      subst h
      have t_ := tT h1 <| tO h2 <| tE (.el [(.int .i64 n3), (.str s2), (.str s3)]) <| tO (el_of (f := E_card_Field.pv) h3) <| tR (card_less_1_runs n3 s2 s3 r _ h4) <| tF h5 <| tN
      exact ⟨t_.ev, slices_IndexFunc_card_Field_L0_3_st s n r (iadd .i64 n2 1), .k0 t_.pf (by kernel_rfl), .same (by kernel_rfl)⟩
  · have h := some_of h
    subst h
    have t_ := tF h1 <| tN
    exact ⟨t_.ev, ⟨[(9, (.av (.one (.pv (.bool false))))), (0, (.av (.one (.bor (.recs 3 (List.map E_card_Field.pv s) false))))), (1, (.av (.one (.fn 112 [(.ref 0 0)])))), (7, (.av (.one (.pv (.int .i64 n))))), (8, (.av (.one (.pv (.int .i64 n2))))), (9, (.av (.one (.pv (.bool (decide ((n2 : Int) < n)))))))], [(0, [(.pv (.recs 3 (List.map E_card_Field.pv r) false))])], []⟩, .k0 t_.pf (by kernel_rfl), ⟨trivial, ⟨⟨rfl, ⟨.eq rfl, trivial⟩⟩, trivial⟩, trivial⟩⟩
theorem slices_IndexFunc_card_Field_L0_3_runs (s : List E_card_Field) (n : Int) (r : List E_card_Field) (s_ : Int) (r_ : (Int) ⊕ (Unit)) (h : runL (slices_IndexFunc_card_Field_L0_3_step s n r) s_ = some r_) : LRuns Tryz.prog (lEnv Tryz.prog cfg 98 1).nt 1 (.loop (loopAt Tryz.prog 98 0)) (slices_IndexFunc_card_Field_L0_3_st s n r s_) (slices_IndexFunc_card_Field_L0_3_ex s n r r_).1 (slices_IndexFunc_card_Field_L0_3_ex s n r r_).2 :=
  loop_run h (slices_IndexFunc_card_Field_L0_3_ok s n r) (by intro r_; rcases r_ with r1 | _ <;> simp [slices_IndexFunc_card_Field_L0_3_ex])
/-! ### slices_IndexFunc_card_Field_3 -/
noncomputable def slices_IndexFunc_card_Field_3 (s : List E_card_Field) (r : List E_card_Field) : Option (Int) :=
  (runL (slices_IndexFunc_card_Field_L0_3_step s (((List.map E_card_Field.pv s)).length : Int) r) 0).bind fun z_ => match z_ with
  | .inl n =>
    some n
  | .inr _ =>
    some (-1)
theorem slices_IndexFunc_card_Field_3_runs (s : List E_card_Field) (r : List E_card_Field) (r_ : Int) (h : slices_IndexFunc_card_Field_3 s r = some r_) : Runs Tryz.prog 98 [(.one (.bor (.recs 3 (List.map E_card_Field.pv s) false))), (.one (.fn 112 [(.ref 0 0)]))] [[(.pv (.recs 3 (List.map E_card_Field.pv r) false))]] [] (slices_IndexFunc_card_Field_3_out s r r_) := by
  unfold slices_IndexFunc_card_Field_3 at h
  obtain ⟨z_, h1, h⟩ := bind_of h
  rcases z_ with n | _
  · have h := some_of h
    subst h
    have t_ := tL (slices_IndexFunc_card_Field_L0_3_runs s (((List.map E_card_Field.pv s)).length : Int) r _ _ h1) <| tN
    exact runs_of (C := cfg) (objs := [[(.pv (.recs 3 (List.map E_card_Field.pv r) false))]]) (sc := t_.ev) (.k0 t_.pf (by kernel_rfl))
  · have h := some_of h
    subst h
    have t_ := tL (slices_IndexFunc_card_Field_L0_3_runs s (((List.map E_card_Field.pv s)).length : Int) r _ _ h1) <| tN
    exact runs_of (C := cfg) (objs := [[(.pv (.recs 3 (List.map E_card_Field.pv r) false))]]) (sc := t_.ev) (.k0 t_.pf (by kernel_rfl))
/-! ### slices_DeleteFunc_card_Field_L0_3 -/
def slices_DeleteFunc_card_Field_L0_3_st (r : List E_card_Field) : Int × Int × List E_card_Field → St
  | (i, j, r2) => ⟨[(0, (.av (.one (.own 0 0 ((List.map E_card_Field.pv r2)).length false)))), (1, (.av (.one (.fn 112 [(.ref 0 0)])))), (5, (.av (.one (.pv (.int .i64 i))))), (6, (.av (.one (.pv (.int .i64 j)))))], [(0, [(.pv (.recs 3 (List.map E_card_Field.pv r) false))])], [(0, (.live (.recs 3 (List.map E_card_Field.pv r2))))]⟩
def slices_DeleteFunc_card_Field_L0_3_ex (r : List E_card_Field) : Int × List E_card_Field → Ex × St
  | (r1, r2) => ((.exit 0), ⟨[(0, (.av (.one (.own 0 0 ((List.map E_card_Field.pv r2)).length false)))), (5, (.av (.one (.pv (.int .i64 r1)))))], [(0, [(.pv (.recs 3 (List.map E_card_Field.pv r) false))])], [(0, (.live (.recs 3 (List.map E_card_Field.pv r2))))]⟩)
noncomputable def slices_DeleteFunc_card_Field_L0_3_step (r : List E_card_Field) : Int × Int × List E_card_Field → Option ((Int × Int × List E_card_Field) ⊕ (Int × List E_card_Field))
  | (i, j, r2) =>
  bif (decide ((j : Int) < (((List.map E_card_Field.pv r2)).length : Int))) then
    bif decide ((0 : Int) ≤ j) && decide ((j : Int) < (((List.map E_card_Field.pv r2)).length : Int)) then
    (r2[(0 + (j).toNat)]?).bind fun e_ => match e_ with
    | .mk n s s2 =>
    (card_less_1 n s s2 r).bind fun b =>
    bif b then
      some (.inl (i, (iadd .i64 j 1), r2))
    else
      bif decide ((0 : Int) ≤ i) && decide ((i : Int) < (((List.map E_card_Field.pv r2)).length : Int)) then
      some (.inl ((iadd .i64 i 1), (iadd .i64 j 1), (r2.set (0 + (i).toNat) (E_card_Field.mk n s s2))))
      else none
    else none
  else
    some (.inr (i, r2))
theorem slices_DeleteFunc_card_Field_L0_3_ok (r : List E_card_Field) (s_ : Int × Int × List E_card_Field) (z_ : (Int × Int × List E_card_Field) ⊕ (Int × List E_card_Field)) (h : slices_DeleteFunc_card_Field_L0_3_step r s_ = some z_) : RoundOk Tryz.prog cfg 57 1 (loopAt Tryz.prog 57 0) (slices_DeleteFunc_card_Field_L0_3_st r) (slices_DeleteFunc_card_Field_L0_3_ex r) s_ z_ := by
  rcases s_ with ⟨i, j, r2⟩
  rcases cond_of h with ⟨h1, h⟩ | ⟨h1, h⟩
  · obtain ⟨h2, h⟩ := need_of h
    obtain ⟨⟨n, s, s2⟩, h3, h⟩ := bind_of h
    obtain ⟨b, h4, h⟩ := bind_of h
    rcases cond_of h with ⟨h5, h⟩ | ⟨h5, h⟩
    · have h := some_of h
      subst h
      have t_ := tT h1 <| tO h2 <| tE (.el [(.int .i64 n), (.str s), (.str s2)]) <| tO (el_of (f := E_card_Field.pv) h3) <| tR (card_less_1_runs n s s2 r _ h4) <| tF (not_of2 h5) <| tN
      exact ⟨t_.ev, slices_DeleteFunc_card_Field_L0_3_st r (i, (iadd .i64 j 1), r2), .k0 t_.pf (by kernel_rfl), .same (by kernel_rfl)⟩
    · obtain ⟨h6, h⟩ := need_of h
      have h := some_of h
      subst h
      have t_ := tT h1 <| tO h2 <| tE (.el [(.int .i64 n), (.str s), (.str s2)]) <| tO (el_of (f := E_card_Field.pv) h3) <| tR (card_less_1_runs n s s2 r _ h4) <| tT (not_of h5) <| tO h6 <| tN
      exact ⟨t_.ev, ⟨[(0, (.av (.one (.own 0 0 ((List.map E_card_Field.pv r2)).length false)))), (1, (.av (.one (.fn 112 [(.ref 0 0)])))), (5, (.av (.one (.pv (.int .i64 (iadd .i64 i 1)))))), (6, (.av (.one (.pv (.int .i64 (iadd .i64 j 1))))))], [(0, [(.pv (.recs 3 (List.map E_card_Field.pv r) false))])], [(0, (.live (.recs 3 ((List.map E_card_Field.pv r2).set (0 + (i).toNat) (setL ((List.map E_card_Field.pv r2).getD (0 + (i).toNat) []) 0 [(.int .i64 n), (.str s), (.str s2)])))))]⟩, .k0 t_.pf (by kernel_rfl), ⟨⟨⟨_, rfl, .own (by first | rfl | (simp only [List.take_length]; done) | (simp only [List.take_length, List.length_append, List.drop_zero, List.map_append, List.map_take, List.map_drop, List.map_replicate, List.map_cons, List.map_nil, List.append_nil, List.nil_append, E_card_Field.pv, E_L_card_Field.pv, E_kinfolkref09_Field.pv, E_card_Field.upd, E_L_card_Field.upd, E_kinfolkref09_Field.upd]; done) | (simp; done))⟩, ⟨_, rfl, .eq rfl⟩, ⟨_, rfl, .eq rfl⟩, ⟨_, rfl, .eq rfl⟩, trivial⟩, ⟨⟨rfl, ⟨.eq rfl, trivial⟩⟩, trivial⟩, ⟨⟨rfl, .recs (.eq (by first | rfl | (simp only [List.take_length]; done) | (simp only [List.take_length, List.length_append, List.drop_zero, List.map_append, List.map_take, List.map_drop, List.map_replicate, List.map_cons, List.map_nil, List.append_nil, List.nil_append, E_card_Field.pv, E_L_card_Field.pv, E_kinfolkref09_Field.pv, E_card_Field.upd, E_L_card_Field.upd, E_kinfolkref09_Field.upd]; done) | (simp; done)))⟩, trivial⟩⟩⟩
  · have h := some_of h
    subst h
    have t_ := tF h1 <| tN
    exact ⟨t_.ev, ⟨[(19, (.av (.one (.pv (.bool false))))), (0, (.av (.one (.own 0 0 ((List.map E_card_Field.pv r2)).length false)))), (1, (.av (.one (.fn 112 [(.ref 0 0)])))), (5, (.av (.one (.pv (.int .i64 i))))), (6, (.av (.one (.pv (.int .i64 j))))), (19, (.av (.one (.pv (.bool (decide ((j : Int) < (((List.map E_card_Field.pv r2)).length : Int))))))))], [(0, [(.pv (.recs 3 (List.map E_card_Field.pv r) false))])], [(0, (.live (.recs 3 (List.map E_card_Field.pv r2))))]⟩, .k0 t_.pf (by kernel_rfl), ⟨⟨⟨_, rfl, .eq rfl⟩, ⟨_, rfl, .eq rfl⟩, trivial⟩, ⟨⟨rfl, ⟨.eq rfl, trivial⟩⟩, trivial⟩, ⟨⟨rfl, .eq rfl⟩, trivial⟩⟩⟩
theorem slices_DeleteFunc_card_Field_L0_3_runs (r : List E_card_Field) (s_ : Int × Int × List E_card_Field) (r_ : Int × List E_card_Field) (h : runL (slices_DeleteFunc_card_Field_L0_3_step r) s_ = some r_) : LRuns Tryz.prog (lEnv Tryz.prog cfg 57 1).nt 1 (.loop (loopAt Tryz.prog 57 0)) (slices_DeleteFunc_card_Field_L0_3_st r s_) (slices_DeleteFunc_card_Field_L0_3_ex r r_).1 (slices_DeleteFunc_card_Field_L0_3_ex r r_).2 :=
  loop_run h (slices_DeleteFunc_card_Field_L0_3_ok r) (by intro r_; rcases r_ with ⟨r1, r2⟩ <;> simp [slices_DeleteFunc_card_Field_L0_3_ex])
/-! ### slices_DeleteFunc_card_Field_3 -/
noncomputable def slices_DeleteFunc_card_Field_3 (r : List E_card_Field) (r2 : List E_card_Field) : Option ((Unit) ⊕ (Nat × List E_card_Field)) :=
  (slices_IndexFunc_card_Field_3 (List.take ((List.map E_card_Field.pv r2)).length r2) r).bind fun n =>
  bif (decide ((n : Int) = (-1))) then
    some (.inl ())
  else
    (runL (slices_DeleteFunc_card_Field_L0_3_step r) (n, (iadd .i64 n 1), r2)).bind fun (n2, r3) =>
    bif decide ((0 : Int) ≤ n2) && decide ((n2 : Int) ≤ (((List.map E_card_Field.pv r3)).length : Int)) && decide (((((List.map E_card_Field.pv r3)).length : Int) : Int) ≤ (((List.map E_card_Field.pv r3)).length : Int)) && decide (((((List.map E_card_Field.pv r3)).length : Int) : Int) = (((List.map E_card_Field.pv r3)).length : Int)) then
    bif decide ((0 : Int) ≤ 0) && decide ((0 : Int) ≤ n2) && decide ((n2 : Int) ≤ (((List.map E_card_Field.pv r3)).length : Int)) && decide ((n2 : Int) = n2) then
    some (.inr ((n2 - 0).toNat, (List.take (0 + (n2).toNat) r3 ++ (List.replicate ((((List.map E_card_Field.pv r3)).length : Int) - n2).toNat (E_card_Field.mk 0 (⟨#[]⟩ : ByteArray) (⟨#[]⟩ : ByteArray)) ++ List.drop ((0 + (n2).toNat) + ((((List.map E_card_Field.pv r3)).length : Int) - n2).toNat) r3))))
    else none
    else none
theorem slices_DeleteFunc_card_Field_3_runs (r : List E_card_Field) (r2 : List E_card_Field) (r_ : (Unit) ⊕ (Nat × List E_card_Field)) (h : slices_DeleteFunc_card_Field_3 r r2 = some r_) : Runs Tryz.prog 57 [(.one (.own 0 0 ((List.map E_card_Field.pv r2)).length false)), (.one (.fn 112 [(.ref 0 0)]))] [[(.pv (.recs 3 (List.map E_card_Field.pv r) false))]] [(.recs 3 (List.map E_card_Field.pv r2))] (slices_DeleteFunc_card_Field_3_out r r2 r_) := by
  unfold slices_DeleteFunc_card_Field_3 at h
  obtain ⟨n, h1, h⟩ := bind_of h
  have q_1 := (Runs.coe (as' := [(.one (.bor (.recs 3 (List.take ((List.map E_card_Field.pv r2)).length (List.map E_card_Field.pv r2)) false))), (.one (.fn 112 [(.ref 0 0)]))]) (objs' := [[(.pv (.recs 3 (List.map E_card_Field.pv r) false))]]) (rows' := []) (slices_IndexFunc_card_Field_3_runs (List.take ((List.map E_card_Field.pv r2)).length r2) r _ h1) ⟨.bor (.recsT (.eq (by first | rfl | (simp only [List.take_length]; done) | (simp only [List.take_length, List.length_append, List.drop_zero, List.map_append, List.map_take, List.map_drop, List.map_replicate, List.map_cons, List.map_nil, List.append_nil, List.nil_append, E_card_Field.pv, E_L_card_Field.pv, E_kinfolkref09_Field.pv, E_card_Field.upd, E_L_card_Field.upd, E_kinfolkref09_Field.upd]; done) | (simp; done)))), .eq rfl, trivial⟩ ⟨⟨.eq rfl, trivial⟩, trivial⟩ trivial)
  rcases cond_of h with ⟨h2, h⟩ | ⟨h2, h⟩
  · have h := some_of h
    subst h
    have t_ := tR q_1 <| tT h2 <| tN
    exact runs_of (C := cfg) (objs := [[(.pv (.recs 3 (List.map E_card_Field.pv r) false))]]) (sc := t_.ev) (.k0 t_.pf (by kernel_rfl))
  · obtain ⟨⟨n2, r3⟩, h3, h⟩ := bind_of h
    obtain ⟨h4, h⟩ := need_of h
    obtain ⟨h5, h⟩ := need_of h
    have h := some_of h
    subst h
    have t_ := tR q_1 <| tF h2 <| tL (slices_DeleteFunc_card_Field_L0_3_runs r _ _ h3) <| tO h4 <| tO h5 <| tN
    have e_ : Runs Tryz.prog 57 [(.one (.own 0 0 ((List.map E_card_Field.pv r2)).length false)), (.one (.fn 112 [(.ref 0 0)]))] [[(.pv (.recs 3 (List.map E_card_Field.pv r) false))]] [(.recs 3 (List.map E_card_Field.pv r2))] ([(.one (.own 0 0 (n2 - 0).toNat false))], [[(.pv (.recs 3 (List.map E_card_Field.pv r) false))]], [(.recs 3 (List.take (0 + (n2).toNat) (List.map E_card_Field.pv r3) ++ (List.replicate ((((List.map E_card_Field.pv r3)).length : Int) - n2).toNat [(.int .i64 0), (.str (⟨#[]⟩ : ByteArray)), (.str (⟨#[]⟩ : ByteArray))] ++ List.drop ((0 + (n2).toNat) + ((((List.map E_card_Field.pv r3)).length : Int) - n2).toNat) (List.map E_card_Field.pv r3))))]) := runs_of (C := cfg) (objs := [[(.pv (.recs 3 (List.map E_card_Field.pv r) false))]]) (sc := t_.ev) (.k0 t_.pf (by kernel_rfl))
    exact e_.out ⟨.eq rfl, trivial⟩ ⟨⟨.eq rfl, trivial⟩, trivial⟩ ⟨.recs (.eq (by first | rfl | (simp only [List.take_length]; done) | (simp only [List.take_length, List.length_append, List.drop_zero, List.map_append, List.map_take, List.map_drop, List.map_replicate, List.map_cons, List.map_nil, List.append_nil, List.nil_append, E_card_Field.pv, E_L_card_Field.pv, E_kinfolkref09_Field.pv, E_card_Field.upd, E_L_card_Field.upd, E_kinfolkref09_Field.upd]; done) | (simp; done))), trivial⟩ rfl
/-! ### card_less -/
noncomputable def card_less (a : List E_card_Field) (b : List E_card_Field) : Option (List E_card_Field) :=
  (card_Card_Fields a).bind fun _ =>
  (slices_DeleteFunc_card_Field_3 b a).bind fun z_ => match z_ with
  | .inl _ =>
    some (List.take ((List.map E_card_Field.pv a)).length a)
  | .inr (k, r) =>
    some (List.take k r)
theorem card_less_runs (a : List E_card_Field) (b : List E_card_Field) (r_ : List E_card_Field) (h : card_less a b = some r_) : Runs Tryz.prog 68 [(.agg [(.pv (.recs 3 (List.map E_card_Field.pv a) false))]), (.agg [(.pv (.recs 3 (List.map E_card_Field.pv b) false))])] [] [] (card_less_out a b r_) := by
  unfold card_less at h
  obtain ⟨_, h1, h⟩ := bind_of h
  obtain ⟨z_, h2, h⟩ := bind_of h
  rcases z_ with _ | ⟨k, r⟩
  · have h := some_of h
    subst h
    have t_ := tR (card_Card_Fields_runs a _ h1) <| tR (slices_DeleteFunc_card_Field_3_runs b a _ h2) <| tN
    have e_ : Runs Tryz.prog 68 [(.agg [(.pv (.recs 3 (List.map E_card_Field.pv a) false))]), (.agg [(.pv (.recs 3 (List.map E_card_Field.pv b) false))])] [] [] ([(.one (.own 0 0 ((List.map E_card_Field.pv a)).length false))], [], [(.recs 3 (List.map E_card_Field.pv a))]) := runs_of (C := cfg) (objs := []) (sc := t_.ev) (.k0 t_.pf (by kernel_rfl))
    have e_ := e_.shut (res' := ([(.one (.pv (.recs 3 (List.take ((List.map E_card_Field.pv a)).length (List.map E_card_Field.pv a)) false)))], [], [])) [0] (by kernel_rfl)
    exact e_.out ⟨.pv (.recsT (.eq (by first | rfl | (simp only [List.take_length]; done) | (simp only [List.take_length, List.length_append, List.drop_zero, List.map_append, List.map_take, List.map_drop, List.map_replicate, List.map_cons, List.map_nil, List.append_nil, List.nil_append, E_card_Field.pv, E_L_card_Field.pv, E_kinfolkref09_Field.pv, E_card_Field.upd, E_L_card_Field.upd, E_kinfolkref09_Field.upd]; done) | (simp; done)))), trivial⟩ trivial trivial rfl
  · have h := some_of h
    subst h
    have t_ := tR (card_Card_Fields_runs a _ h1) <| tR (slices_DeleteFunc_card_Field_3_runs b a _ h2) <| tN
    have e_ : Runs Tryz.prog 68 [(.agg [(.pv (.recs 3 (List.map E_card_Field.pv a) false))]), (.agg [(.pv (.recs 3 (List.map E_card_Field.pv b) false))])] [] [] ([(.one (.own 0 0 k false))], [], [(.recs 3 (List.map E_card_Field.pv r))]) := runs_of (C := cfg) (objs := []) (sc := t_.ev) (.k0 t_.pf (by kernel_rfl))
    have e_ := e_.shut (res' := ([(.one (.pv (.recs 3 (List.take k (List.map E_card_Field.pv r)) false)))], [], [])) [0] (by kernel_rfl)
    exact e_.out ⟨.pv (.recsT (.eq (by first | rfl | (simp only [List.take_length]; done) | (simp only [List.take_length, List.length_append, List.drop_zero, List.map_append, List.map_take, List.map_drop, List.map_replicate, List.map_cons, List.map_nil, List.append_nil, List.nil_append, E_card_Field.pv, E_L_card_Field.pv, E_kinfolkref09_Field.pv, E_card_Field.upd, E_L_card_Field.upd, E_kinfolkref09_Field.upd]; done) | (simp; done)))), trivial⟩ trivial trivial rfl
/-! ### card_Diff -/
noncomputable def card_Diff (a : List E_card_Field) (b : List E_card_Field) : Option (List E_card_Field × List E_card_Field) :=
  (card_less b a).bind fun r =>
  (card_less a b).bind fun r2 =>
  some (r, r2)
theorem card_Diff_runs (a : List E_card_Field) (b : List E_card_Field) (r_ : List E_card_Field × List E_card_Field) (h : card_Diff a b = some r_) : Runs Tryz.prog 23 [(.agg [(.pv (.recs 3 (List.map E_card_Field.pv a) false))]), (.agg [(.pv (.recs 3 (List.map E_card_Field.pv b) false))])] [] [] (card_Diff_out a b r_) := by
  unfold card_Diff at h
  obtain ⟨r, h1, h⟩ := bind_of h
  obtain ⟨r2, h2, h⟩ := bind_of h
  have h := some_of h
  subst h
  have t_ := tR (card_less_runs b a _ h1) <| tR (card_less_runs b a _ h1) <| tR (card_less_runs b a _ h1) <| tR (card_less_runs b a _ h1) <| tR (card_less_runs a b _ h2) <| tN
  have e_ : Runs Tryz.prog 23 [(.agg [(.pv (.recs 3 (List.map E_card_Field.pv a) false))]), (.agg [(.pv (.recs 3 (List.map E_card_Field.pv b) false))])] [] [] ([(.agg [(.pv (.recs 3 (List.map E_card_Field.pv r) false)), (.pv (.recs 3 (List.map E_card_Field.pv r2) false)), (.pv .nils)])], [], []) := runs_of (C := cfg) (objs := []) (sc := t_.ev) (.k1 t_.pf (by kernel_rfl) (by kernel_rfl))
  exact e_.out ⟨⟨.eq rfl, .eq rfl, .pv (.nilsI), trivial⟩, trivial⟩ trivial trivial rfl
/-! ### kinfolkref09_Less2_out -/
def kinfolkref09_Less2_out (a : List E_kinfolkref09_Field) (b : List E_kinfolkref09_Field) : List E_kinfolkref09_Field → Res
  | r1 => ([(.one (.own 0 0 ((List.map E_kinfolkref09_Field.pv r1)).length false))], [], [(.recs 3 (List.map E_kinfolkref09_Field.pv r1))])
/-! ### kinfolkref09_Less2_L0_2 -/
def kinfolkref09_Less2_L0_2_st (b : List E_kinfolkref09_Field) (r : List E_kinfolkref09_Field) (n : Int) : Int × List E_kinfolkref09_Field → St
  | (n2, r2) => ⟨[(1, (.av (.one (.pv (.recs 3 (List.map E_kinfolkref09_Field.pv b) false))))), (5, (.av (.one (.own 0 0 ((List.map E_kinfolkref09_Field.pv r2)).length false)))), (8, (.av (.one (.pv (.recs 3 (List.map E_kinfolkref09_Field.pv r) false))))), (9, (.av (.one (.pv (.int .i64 n))))), (10, (.av (.one (.pv (.int .i64 n2)))))], [], [(0, (.live (.recs 3 (List.map E_kinfolkref09_Field.pv r2))))]⟩
def kinfolkref09_Less2_L0_2_ex (b : List E_kinfolkref09_Field) (r : List E_kinfolkref09_Field) (n : Int) : List E_kinfolkref09_Field → Ex × St
  | r1 => ((.exit 0), ⟨[(5, (.av (.one (.own 0 0 ((List.map E_kinfolkref09_Field.pv r1)).length false))))], [], [(0, (.live (.recs 3 (List.map E_kinfolkref09_Field.pv r1))))]⟩)
noncomputable def kinfolkref09_Less2_L0_2_step (b : List E_kinfolkref09_Field) (r : List E_kinfolkref09_Field) (n : Int) : Int × List E_kinfolkref09_Field → Option ((Int × List E_kinfolkref09_Field) ⊕ (List E_kinfolkref09_Field))
  | (n2, r2) =>
  bif (decide ((n2 : Int) < n)) then
    bif decide ((0 : Int) ≤ n2) && decide ((n2 : Int) < (((List.map E_kinfolkref09_Field.pv r)).length : Int)) then
    (r[(n2).toNat]?).bind fun e_ => match e_ with
    | .mk n3 s s2 =>
    (kinfolkref09_Has b n3 s s2).bind fun b2 =>
    bif b2 then
      some (.inl ((iadd .i64 n2 1), r2))
    else
      bif fits (((List.map E_kinfolkref09_Field.pv r2) ++ ([[(.int .i64 n3), (.str s), (.str s2)]] : List (List PV)))).length then
      some (.inl ((iadd .i64 n2 1), (r2 ++ [(E_kinfolkref09_Field.mk n3 s s2)])))
      else none
    else none
  else
    some (.inr r2)
theorem kinfolkref09_Less2_L0_2_ok (b : List E_kinfolkref09_Field) (r : List E_kinfolkref09_Field) (n : Int) (s_ : Int × List E_kinfolkref09_Field) (z_ : (Int × List E_kinfolkref09_Field) ⊕ (List E_kinfolkref09_Field)) (h : kinfolkref09_Less2_L0_2_step b r n s_ = some z_) : RoundOk Tryz.prog cfg 24 0 (loopAt Tryz.prog 24 0) (kinfolkref09_Less2_L0_2_st b r n) (kinfolkref09_Less2_L0_2_ex b r n) s_ z_ := by
  rcases s_ with ⟨n2, r2⟩
  rcases cond_of h with ⟨h1, h⟩ | ⟨h1, h⟩
  · obtain ⟨h2, h⟩ := need_of h
    obtain ⟨⟨n3, s, s2⟩, h3, h⟩ := bind_of h
    obtain ⟨b2, h4, h⟩ := bind_of h
    rcases cond_of h with ⟨h5, h⟩ | ⟨h5, h⟩
    · have h := some_of h
      subst h
      have t_ := tT h1 <| tO h2 <| tE (.el [(.int .i64 n3), (.str s), (.str s2)]) <| tO (el_of (f := E_kinfolkref09_Field.pv) h3) <| tR (kinfolkref09_Has_runs b n3 s s2 _ h4) <| tF (not_of2 h5) <| tN
      exact ⟨t_.ev, kinfolkref09_Less2_L0_2_st b r n ((iadd .i64 n2 1), r2), .k0 t_.pf (by kernel_rfl), .same (by kernel_rfl)⟩
    · obtain ⟨h6, h⟩ := need_of h
      have h := some_of h
      subst h
      have t_ := tT h1 <| tO h2 <| tE (.el [(.int .i64 n3), (.str s), (.str s2)]) <| tO (el_of (f := E_kinfolkref09_Field.pv) h3) <| tR (kinfolkref09_Has_runs b n3 s s2 _ h4) <| tT (not_of h5) <| tO (show (Nat.beq ((List.map E_kinfolkref09_Field.pv r2)).length ((List.map E_kinfolkref09_Field.pv r2)).length) = true from Nat.beq_refl _) <| tO h6 <| tN
      exact ⟨t_.ev, ⟨[(1, (.av (.one (.pv (.recs 3 (List.map E_kinfolkref09_Field.pv b) false))))), (5, (.av (.one (.own 0 0 (((List.map E_kinfolkref09_Field.pv r2) ++ ([[(.int .i64 n3), (.str s), (.str s2)]] : List (List PV)))).length false)))), (8, (.av (.one (.pv (.recs 3 (List.map E_kinfolkref09_Field.pv r) false))))), (9, (.av (.one (.pv (.int .i64 n))))), (10, (.av (.one (.pv (.int .i64 (iadd .i64 n2 1))))))], [], [(0, (.live (.recs 3 ((List.map E_kinfolkref09_Field.pv r2) ++ ([[(.int .i64 n3), (.str s), (.str s2)]] : List (List PV))))))]⟩, .k0 t_.pf (by kernel_rfl), ⟨⟨⟨_, rfl, .eq rfl⟩, ⟨_, rfl, .own (by first | rfl | (simp only [List.take_length]; done) | (simp only [List.take_length, List.length_append, List.drop_zero, List.map_append, List.map_take, List.map_drop, List.map_replicate, List.map_cons, List.map_nil, List.append_nil, List.nil_append, E_card_Field.pv, E_L_card_Field.pv, E_kinfolkref09_Field.pv, E_card_Field.upd, E_L_card_Field.upd, E_kinfolkref09_Field.upd]; done) | (simp; done))⟩, ⟨_, rfl, .eq rfl⟩, ⟨_, rfl, .eq rfl⟩, ⟨_, rfl, .eq rfl⟩, trivial⟩, trivial, ⟨⟨rfl, .recs (.app (.eq rfl) (.cons (.cons (.eq rfl) (.cons (.eq rfl) (.cons (.eq rfl) (.nil)))) (.nil)))⟩, trivial⟩⟩⟩
  · have h := some_of h
    subst h
    have t_ := tF h1 <| tN
    exact ⟨t_.ev, ⟨[(11, (.av (.one (.pv (.bool false))))), (1, (.av (.one (.pv (.recs 3 (List.map E_kinfolkref09_Field.pv b) false))))), (5, (.av (.one (.own 0 0 ((List.map E_kinfolkref09_Field.pv r2)).length false)))), (8, (.av (.one (.pv (.recs 3 (List.map E_kinfolkref09_Field.pv r) false))))), (9, (.av (.one (.pv (.int .i64 n))))), (10, (.av (.one (.pv (.int .i64 n2))))), (11, (.av (.one (.pv (.bool (decide ((n2 : Int) < n)))))))], [], [(0, (.live (.recs 3 (List.map E_kinfolkref09_Field.pv r2))))]⟩, .k0 t_.pf (by kernel_rfl), ⟨⟨⟨_, rfl, .eq rfl⟩, trivial⟩, trivial, ⟨⟨rfl, .eq rfl⟩, trivial⟩⟩⟩
theorem kinfolkref09_Less2_L0_2_runs (b : List E_kinfolkref09_Field) (r : List E_kinfolkref09_Field) (n : Int) (s_ : Int × List E_kinfolkref09_Field) (r_ : List E_kinfolkref09_Field) (h : runL (kinfolkref09_Less2_L0_2_step b r n) s_ = some r_) : LRuns Tryz.prog (lEnv Tryz.prog cfg 24 0).nt 0 (.loop (loopAt Tryz.prog 24 0)) (kinfolkref09_Less2_L0_2_st b r n s_) (kinfolkref09_Less2_L0_2_ex b r n r_).1 (kinfolkref09_Less2_L0_2_ex b r n r_).2 :=
  loop_run h (kinfolkref09_Less2_L0_2_ok b r n) (by intro r_; rcases r_ with r1 <;> simp [kinfolkref09_Less2_L0_2_ex])
/-! ### kinfolkref09_Less2 -/
noncomputable def kinfolkref09_Less2 (a : List E_kinfolkref09_Field) (b : List E_kinfolkref09_Field) : Option (List E_kinfolkref09_Field) :=
  (runL (kinfolkref09_Less2_L0_2_step b a (((List.map E_kinfolkref09_Field.pv a)).length : Int)) (0, [])).bind fun r =>
  some r
theorem kinfolkref09_Less2_runs (a : List E_kinfolkref09_Field) (b : List E_kinfolkref09_Field) (r_ : List E_kinfolkref09_Field) (h : kinfolkref09_Less2 a b = some r_) : Runs Tryz.prog 24 [(.one (.pv (.recs 3 (List.map E_kinfolkref09_Field.pv a) false))), (.one (.pv (.recs 3 (List.map E_kinfolkref09_Field.pv b) false)))] [] [] (kinfolkref09_Less2_out a b r_) := by
  unfold kinfolkref09_Less2 at h
  obtain ⟨r, h1, h⟩ := bind_of h
  have h := some_of h
  subst h
  have t_ := tL (LRuns.coe (s0 := ⟨[(1, (.av (.one (.pv (.recs 3 (List.map E_kinfolkref09_Field.pv b) false))))), (5, (.av (.one (.own 0 0 0 false)))), (8, (.av (.one (.pv (.recs 3 (List.map E_kinfolkref09_Field.pv a) false))))), (9, (.av (.one (.pv (.int .i64 (((List.map E_kinfolkref09_Field.pv a)).length : Int)))))), (10, (.av (.one (.pv (.int .i64 0)))))], [], [(0, (.live (.recs 3 [])))]⟩) (kinfolkref09_Less2_L0_2_runs b a (((List.map E_kinfolkref09_Field.pv a)).length : Int) _ _ h1) ⟨⟨⟨_, rfl, .eq rfl⟩, ⟨_, rfl, .own (by first | rfl | (simp only [List.take_length]; done) | (simp only [List.take_length, List.length_append, List.drop_zero, List.map_append, List.map_take, List.map_drop, List.map_replicate, List.map_cons, List.map_nil, List.append_nil, List.nil_append, E_card_Field.pv, E_L_card_Field.pv, E_kinfolkref09_Field.pv, E_card_Field.upd, E_L_card_Field.upd, E_kinfolkref09_Field.upd]; done) | (simp; done))⟩, ⟨_, rfl, .eq rfl⟩, ⟨_, rfl, .eq rfl⟩, ⟨_, rfl, .eq rfl⟩, trivial⟩, trivial, ⟨⟨rfl, .recs (.nil)⟩, trivial⟩⟩) <| tN
  exact runs_of (C := cfg) (objs := []) (sc := t_.ev) (.k0 t_.pf (by kernel_rfl))
/-! ### kinfolklaw09_CardDiffs -/
noncomputable def kinfolklaw09_CardDiffs (N : Nat) (l : List E_card_Field) (m : List E_card_Field) : Option (Bool) :=
  (kinfolklaw09_awake).bind fun b =>
  bif b then
    (kinfolklaw09_made N l).bind fun (r, r2) =>
    (kinfolklaw09_made N m).bind fun (r3, r4) =>
    (card_Diff r r3).bind fun (r5, r6) =>
    (card_Card_Patch r r5 r6 []).bind fun (r7, n) =>
    bif (decide ((n : Int) = 0)) then
      (card_Same r7 r3).bind fun b2 =>
      bif b2 then
        (kinfolklaw09_own r5).bind fun r8 =>
        (kinfolkref09_Less2 r4 r2).bind fun r9 =>
        (kinfolkref09_Same (List.take ((List.map E_kinfolkref09_Field.pv r8)).length r8) (List.take ((List.map E_kinfolkref09_Field.pv r9)).length r9)).bind fun b3 =>
        bif b3 then
          (kinfolklaw09_own r6).bind fun r10 =>
          (kinfolkref09_Less2 r2 r4).bind fun r11 =>
          (kinfolkref09_Same (List.take ((List.map E_kinfolkref09_Field.pv r10)).length r10) (List.take ((List.map E_kinfolkref09_Field.pv r11)).length r11)).bind fun b4 =>
          bif b4 then
            (card_Same r r3).bind fun b5 =>
            some ((decide (((iadd .i64 (((List.map E_card_Field.pv r5)).length : Int) (((List.map E_card_Field.pv r6)).length : Int)) : Int) = 0)) == b5)
          else
            some false
        else
          some false
      else
        some false
    else
      some false
  else
    some false
theorem kinfolklaw09_CardDiffs_runs (N : Nat) (l : List E_card_Field) (m : List E_card_Field) (r_ : Bool) (h : kinfolklaw09_CardDiffs N l m = some r_) : Runs Tryz.prog 5 [(.one (.pv (.recs 3 (List.map E_card_Field.pv l) false))), (.one (.pv (.recs 3 (List.map E_card_Field.pv m) false)))] [] [] (kinfolklaw09_CardDiffs_out l m r_) := by
  unfold kinfolklaw09_CardDiffs at h
  obtain ⟨b, h1, h⟩ := bind_of h
  rcases cond_of h with ⟨h2, h⟩ | ⟨h2, h⟩
  · obtain ⟨⟨r, r2⟩, h3, h⟩ := bind_of h
    obtain ⟨⟨r3, r4⟩, h4, h⟩ := bind_of h
    obtain ⟨⟨r5, r6⟩, h5, h⟩ := bind_of h
    obtain ⟨⟨r7, n⟩, h6, h⟩ := bind_of h
    rcases cond_of h with ⟨h7, h⟩ | ⟨h7, h⟩
    · obtain ⟨b2, h8, h⟩ := bind_of h
      rcases cond_of h with ⟨h9, h⟩ | ⟨h9, h⟩
      · obtain ⟨r8, h10, h⟩ := bind_of h
        obtain ⟨r9, h11, h⟩ := bind_of h
        obtain ⟨b3, h12, h⟩ := bind_of h
        have q_12 := (Runs.coe (as' := [(.one (.pv (.recs 3 (List.take ((List.map E_kinfolkref09_Field.pv r8)).length (List.map E_kinfolkref09_Field.pv r8)) false))), (.one (.pv (.recs 3 (List.take ((List.map E_kinfolkref09_Field.pv r9)).length (List.map E_kinfolkref09_Field.pv r9)) false)))]) (objs' := []) (rows' := []) (kinfolkref09_Same_runs (List.take ((List.map E_kinfolkref09_Field.pv r8)).length r8) (List.take ((List.map E_kinfolkref09_Field.pv r9)).length r9) _ h12) ⟨.pv (.recsT (.eq (by first | rfl | (simp only [List.take_length]; done) | (simp only [List.take_length, List.length_append, List.drop_zero, List.map_append, List.map_take, List.map_drop, List.map_replicate, List.map_cons, List.map_nil, List.append_nil, List.nil_append, E_card_Field.pv, E_L_card_Field.pv, E_kinfolkref09_Field.pv, E_card_Field.upd, E_L_card_Field.upd, E_kinfolkref09_Field.upd]; done) | (simp; done)))), .pv (.recsT (.eq (by first | rfl | (simp only [List.take_length]; done) | (simp only [List.take_length, List.length_append, List.drop_zero, List.map_append, List.map_take, List.map_drop, List.map_replicate, List.map_cons, List.map_nil, List.append_nil, List.nil_append, E_card_Field.pv, E_L_card_Field.pv, E_kinfolkref09_Field.pv, E_card_Field.upd, E_L_card_Field.upd, E_kinfolkref09_Field.upd]; done) | (simp; done)))), trivial⟩ trivial trivial)
        have p12_ := fun {sc_ : List Ev} {Q_ : Prop} (t_ : Tell sc_ Q_) => tR (kinfolklaw09_awake_runs _ h1) <| tF (not_of2 h2) <| tR (kinfolklaw09_made_runs N l _ h3) <| tR (kinfolklaw09_made_runs N m _ h4) <| tR (card_Diff_runs r r3 _ h5) <| tR (card_Card_Patch_runs r r5 r6 [] _ h6) <| tT h7 <| tR (card_Same_runs r7 r3 _ h8) <| tT h9 <| tR (kinfolklaw09_own_runs r5 _ h10) <| tR (kinfolkref09_Less2_runs r4 r2 _ h11) <| tR q_12 <| t_
        rcases cond_of h with ⟨h13, h⟩ | ⟨h13, h⟩
        · obtain ⟨r10, h14, h⟩ := bind_of h
          obtain ⟨r11, h15, h⟩ := bind_of h
          obtain ⟨b4, h16, h⟩ := bind_of h
          have q_16 := (Runs.coe (as' := [(.one (.pv (.recs 3 (List.take ((List.map E_kinfolkref09_Field.pv r10)).length (List.map E_kinfolkref09_Field.pv r10)) false))), (.one (.pv (.recs 3 (List.take ((List.map E_kinfolkref09_Field.pv r11)).length (List.map E_kinfolkref09_Field.pv r11)) false)))]) (objs' := []) (rows' := []) (kinfolkref09_Same_runs (List.take ((List.map E_kinfolkref09_Field.pv r10)).length r10) (List.take ((List.map E_kinfolkref09_Field.pv r11)).length r11) _ h16) ⟨.pv (.recsT (.eq (by first | rfl | (simp only [List.take_length]; done) | (simp only [List.take_length, List.length_append, List.drop_zero, List.map_append, List.map_take, List.map_drop, List.map_replicate, List.map_cons, List.map_nil, List.append_nil, List.nil_append, E_card_Field.pv, E_L_card_Field.pv, E_kinfolkref09_Field.pv, E_card_Field.upd, E_L_card_Field.upd, E_kinfolkref09_Field.upd]; done) | (simp; done)))), .pv (.recsT (.eq (by first | rfl | (simp only [List.take_length]; done) | (simp only [List.take_length, List.length_append, List.drop_zero, List.map_append, List.map_take, List.map_drop, List.map_replicate, List.map_cons, List.map_nil, List.append_nil, List.nil_append, E_card_Field.pv, E_L_card_Field.pv, E_kinfolkref09_Field.pv, E_card_Field.upd, E_L_card_Field.upd, E_kinfolkref09_Field.upd]; done) | (simp; done)))), trivial⟩ trivial trivial)
          rcases cond_of h with ⟨h17, h⟩ | ⟨h17, h⟩
          · obtain ⟨b5, h18, h⟩ := bind_of h
            have h := some_of h
            subst h
            have t_ := p12_ <| tT h13 <| tR (kinfolklaw09_own_runs r6 _ h14) <| tR (kinfolkref09_Less2_runs r2 r4 _ h15) <| tR q_16 <| tT h17 <| tT (rfl : true = true) <| tR (card_Same_runs r r3 _ h18) <| tR (card_Same_runs r r3 _ h18) <| tR (card_Same_runs r r3 _ h18) <| tR (card_Same_runs r r3 _ h18) <| tN
            exact runs_of (C := cfg) (objs := []) (sc := t_.ev) (.k1 t_.pf (by kernel_rfl) (by kernel_rfl))
          · have h := some_of h
            subst h
            have t_ := p12_ <| tT h13 <| tR (kinfolklaw09_own_runs r6 _ h14) <| tR (kinfolkref09_Less2_runs r2 r4 _ h15) <| tR q_16 <| tF h17 <| tF (rfl : false = false) <| tN
            exact runs_of (C := cfg) (objs := []) (sc := t_.ev) (.k1 t_.pf (by kernel_rfl) (by kernel_rfl))
        · have h := some_of h
          subst h
          have t_ := p12_ <| tF h13 <| tF (rfl : false = false) <| tF (rfl : false = false) <| tN
          exact runs_of (C := cfg) (objs := []) (sc := t_.ev) (.k1 t_.pf (by kernel_rfl) (by kernel_rfl))
      · have h := some_of h
        subst h
        have t_ := tR (kinfolklaw09_awake_runs _ h1) <| tF (not_of2 h2) <| tR (kinfolklaw09_made_runs N l _ h3) <| tR (kinfolklaw09_made_runs N m _ h4) <| tR (card_Diff_runs r r3 _ h5) <| tR (card_Card_Patch_runs r r5 r6 [] _ h6) <| tT h7 <| tR (card_Same_runs r7 r3 _ h8) <| tF h9 <| tF (rfl : false = false) <| tF (rfl : false = false) <| tF (rfl : false = false) <| tN
        exact runs_of (C := cfg) (objs := []) (sc := t_.ev) (.k1 t_.pf (by kernel_rfl) (by kernel_rfl))
    · have h := some_of h
      subst h
      have t_ := tR (kinfolklaw09_awake_runs _ h1) <| tF (not_of2 h2) <| tR (kinfolklaw09_made_runs N l _ h3) <| tR (kinfolklaw09_made_runs N m _ h4) <| tR (card_Diff_runs r r3 _ h5) <| tR (card_Card_Patch_runs r r5 r6 [] _ h6) <| tF h7 <| tF (rfl : false = false) <| tF (rfl : false = false) <| tF (rfl : false = false) <| tF (rfl : false = false) <| tN
      exact runs_of (C := cfg) (objs := []) (sc := t_.ev) (.k1 t_.pf (by kernel_rfl) (by kernel_rfl))
  · have h := some_of h
    subst h
    have t_ := tR (kinfolklaw09_awake_runs _ h1) <| tT (not_of h2) <| tN
    exact runs_of (C := cfg) (objs := []) (sc := t_.ev) (.k0 t_.pf (by kernel_rfl))

end Go.Proofs.YteiikkpajcggfaaGreatDoor
