/- What functions compute, and that they do. -/
import Derived.Test.YtjjakdmcnkldoaaDoorSA2
set_option linter.unusedVariables false
set_option linter.unusedSimpArgs false
set_option maxRecDepth 100000
namespace Go.Proofs.YtjjakdmcnkldoaaDoor
open Go.Ev

/-! ### kinfolkref01_Has -/
noncomputable def kinfolkref01_Has_b (rec_kinfolkref01_Has : T_kinfolkref01_ID → Int → Option (List Bool)) (i : T_kinfolkref01_ID) (depth : Int) : Option (List Bool) :=
  bif (decide ((depth : Int) = 0)) then
    match i with
    | .nil =>
      none
    | .mk n t t2 =>
      some [(decide ((n : Int) = 1))]
  else
    (kinfolkref01_Left i).bind fun t =>
    (rec_kinfolkref01_Has t (isub .i64 depth 1)).bind fun l_ =>
    (kinfolkref01_Right i).bind fun t2 =>
    (rec_kinfolkref01_Has t2 (isub .i64 depth 1)).bind fun l_2 =>
    bif fits ((l_ ++ (List.take (l_2).length l_2))).length then
    some (l_ ++ l_2)
    else none
theorem kinfolkref01_Has_b_runs (rec_kinfolkref01_Has : T_kinfolkref01_ID → Int → Option (List Bool)) (hrec_kinfolkref01_Has : ∀ i depth r_, rec_kinfolkref01_Has i depth = some r_ → Runs Tryd.prog 28 [(.one (.pv (T_kinfolkref01_ID.pv i))), (.one (.pv (.int .i64 depth)))] [] [] (kinfolkref01_Has_out i depth r_)) (i : T_kinfolkref01_ID) (depth : Int) (r_ : List Bool) (h : kinfolkref01_Has_b rec_kinfolkref01_Has i depth = some r_) : Runs Tryd.prog 28 [(.one (.pv (T_kinfolkref01_ID.pv i))), (.one (.pv (.int .i64 depth)))] [] [] (kinfolkref01_Has_out i depth r_) := by
  unfold kinfolkref01_Has_b at h
  rcases cond_of h with ⟨h1, h⟩ | ⟨h1, h⟩
  · cases i with
    | nil =>
      cases h
    | mk n t t2 =>
      have h := some_of h
      subst h
      have e_ : Runs Tryd.prog 28 [(.one (.pv (T_kinfolkref01_ID.pv (T_kinfolkref01_ID.mk n t t2)))), (.one (.pv (.int .i64 depth)))] [] [] ([(.one (.own 0 0 1 true))], [], [(.bools [(decide ((n : Int) = 1))])]) := runs_of (C := cfg) (objs := []) (sc := [.br true]) (.k0 (an_ h1 trivial) (by kernel_rfl))
      exact e_.out ⟨.ownF (by first | rfl | (simp only [List.take_length]; done) | (simp only [List.take_length, List.length_append, List.drop_zero, List.map_append, List.map_take, List.map_drop, List.map_cons, List.map_nil, List.append_nil, List.nil_append]; done) | (simp; done)), trivial⟩ trivial ⟨.eq rfl, trivial⟩ rfl
  · obtain ⟨t, h2, h⟩ := bind_of h
    obtain ⟨l_, h3, h⟩ := bind_of h
    obtain ⟨t2, h4, h⟩ := bind_of h
    obtain ⟨l_2, h5, h⟩ := bind_of h
    obtain ⟨h6, h⟩ := need_of h
    have h := some_of h
    subst h
    have e_ : Runs Tryd.prog 28 [(.one (.pv (T_kinfolkref01_ID.pv i))), (.one (.pv (.int .i64 depth)))] [] [] ([(.one (.own 0 0 ((l_ ++ (List.take (l_2).length l_2))).length false))], [], [(.bools (l_ ++ (List.take (l_2).length l_2)))]) := runs_of (C := cfg) (objs := []) (sc := [.br false, .res (kinfolkref01_Left_out i t), .res (kinfolkref01_Has_out t (isub .i64 depth 1) l_), .res (kinfolkref01_Right_out i t2), .res (kinfolkref01_Has_out t2 (isub .i64 depth 1) l_2)]) (.k0 (an_ h1 (an_ (kinfolkref01_Left_runs i _ h2) (an_ (hrec_kinfolkref01_Has t (isub .i64 depth 1) _ h3) (an_ (kinfolkref01_Right_runs i _ h4) (an_ (hrec_kinfolkref01_Has t2 (isub .i64 depth 1) _ h5) (an_ (show (Nat.beq (l_).length (l_).length) = true from Nat.beq_refl _) (an_ h6 trivial))))))) (by kernel_rfl))
    exact e_.out ⟨.own (by first | rfl | (simp only [List.take_length]; done) | (simp only [List.take_length, List.length_append, List.drop_zero, List.map_append, List.map_take, List.map_drop, List.map_cons, List.map_nil, List.append_nil, List.nil_append]; done) | (simp; done)), trivial⟩ trivial ⟨.eq (by first | rfl | (simp only [List.take_length]; done) | (simp only [List.take_length, List.length_append, List.drop_zero, List.map_append, List.map_take, List.map_drop, List.map_cons, List.map_nil, List.append_nil, List.nil_append]; done) | (simp; done)), trivial⟩ rfl
noncomputable def kinfolkref01_Has : Nat → T_kinfolkref01_ID → Int → Option (List Bool)
  | 0, _, _ => none
  | N + 1, i, depth => kinfolkref01_Has_b (kinfolkref01_Has N) i depth
theorem kinfolkref01_Has_runs : ∀ (N : Nat) (i : T_kinfolkref01_ID) (depth : Int) (r_ : List Bool), kinfolkref01_Has N i depth = some r_ → Runs Tryd.prog 28 [(.one (.pv (T_kinfolkref01_ID.pv i))), (.one (.pv (.int .i64 depth)))] [] [] (kinfolkref01_Has_out i depth r_)
  | 0, _, _, _, h => by cases h
  | N + 1, i, depth, r_, h => kinfolkref01_Has_b_runs (kinfolkref01_Has N) (kinfolkref01_Has_runs N) i depth r_ h
/-! ### kinfolklaw04_StampFills_L0 -/
def kinfolklaw04_StampFills_L0_st (y : T_kinfolkref02_Event) (n : Int) (b : Bool) (t : T_id_halves) (n2 : Int) (t2 : T_event_halves) (t3 : T_kinfolkref01_ID) (t4 : T_kinfolkref02_Event) (n3 : Int) (t5 : T_event_halves) (l : List Int) (l2 : List Int) (l3 : List Bool) : Int → St
  | n4 => ⟨[(5, (.av (.one (.ref 0 0)))), (6, (.av (.one (.ref 1 0)))), (7, (.av (.one (.ref 2 0)))), (8, (.av (.one (.pv (T_kinfolkref02_Event.pv y))))), (10, (.av (.one (.own 0 0 (l).length false)))), (11, (.av (.one (.own 1 0 (l2).length false)))), (12, (.av (.one (.own 2 0 (l3).length false)))), (44, (.av (.one (.pv (.int .i64 n))))), (45, (.av (.one (.pv (.int .i64 n4)))))], [(0, [(.pv (.bool b)), (.pv (T_id_halves.pv t)), (.pv (.int .u64 n2)), (.pv (T_event_halves.pv t2))]), (1, [(.pv (T_kinfolkref01_ID.pv t3)), (.pv (T_kinfolkref02_Event.pv t4))]), (2, [(.pv (.int .u64 n3)), (.pv (T_event_halves.pv t5))])], [(0, (.live (.ints .u64 l))), (1, (.live (.ints .u64 l2))), (2, (.live (.bools l3)))]⟩
def kinfolklaw04_StampFills_L0_ex (y : T_kinfolkref02_Event) (n : Int) (b : Bool) (t : T_id_halves) (n2 : Int) (t2 : T_event_halves) (t3 : T_kinfolkref01_ID) (t4 : T_kinfolkref02_Event) (n3 : Int) (t5 : T_event_halves) (l : List Int) (l2 : List Int) (l3 : List Bool) : (Unit) ⊕ (Unit) → Ex × St
  | .inl _ => (.ret, ⟨[(4, (.av (.one (.pv (.bool false)))))], [], []⟩)
  | .inr _ => ((.exit 0), ⟨[(5, (.av (.one (.ref 0 0)))), (7, (.av (.one (.ref 2 0)))), (8, (.av (.one (.pv (T_kinfolkref02_Event.pv y)))))], [(0, [(.pv (.bool b)), (.pv (T_id_halves.pv t)), (.pv (.int .u64 n2)), (.pv (T_event_halves.pv t2))]), (1, [(.pv (T_kinfolkref01_ID.pv t3)), (.pv (T_kinfolkref02_Event.pv t4))]), (2, [(.pv (.int .u64 n3)), (.pv (T_event_halves.pv t5))])], [(0, (.live (.ints .u64 l))), (1, (.live (.ints .u64 l2))), (2, (.live (.bools l3)))]⟩)
noncomputable def kinfolklaw04_StampFills_L0_step (N : Nat) (y : T_kinfolkref02_Event) (n : Int) (b : Bool) (t : T_id_halves) (n2 : Int) (t2 : T_event_halves) (t3 : T_kinfolkref01_ID) (t4 : T_kinfolkref02_Event) (n3 : Int) (t5 : T_event_halves) (l : List Int) (l2 : List Int) (l3 : List Bool) : Int → Option ((Int) ⊕ ((Unit) ⊕ (Unit)))
  | n4 =>
  bif (decide ((n4 : Int) < n)) then
    bif decide ((0 : Int) ≤ n4) && decide ((n4 : Int) < ((l2).length : Int)) then
    bif decide ((0 : Int) ≤ n4) && decide ((n4 : Int) < ((l).length : Int)) then
    bif (decide (((l2.getD (0 + (n4).toNat) 0) : Int) < (l.getD (0 + (n4).toNat) 0))) then
      some (.inr (.inl ()))
    else
      (kinfolkref02_Max N t4).bind fun n5 =>
      bif (decide ((n5 : Int) < (l2.getD (0 + (n4).toNat) 0))) then
        some (.inr (.inl ()))
      else
        bif (decide (((l.getD (0 + (n4).toNat) 0) : Int) = (l2.getD (0 + (n4).toNat) 0))) then
          some (.inl (iadd .i64 n4 1))
        else
          bif decide ((0 : Int) ≤ n4) && decide ((n4 : Int) < ((l3).length : Int)) then
          bif (l3.getD (0 + (n4).toNat) false) then
            some (.inl (iadd .i64 n4 1))
          else
            some (.inr (.inl ()))
          else none
    else none
    else none
  else
    some (.inr (.inr ()))
theorem kinfolklaw04_StampFills_L0_ok (N : Nat) (y : T_kinfolkref02_Event) (n : Int) (b : Bool) (t : T_id_halves) (n2 : Int) (t2 : T_event_halves) (t3 : T_kinfolkref01_ID) (t4 : T_kinfolkref02_Event) (n3 : Int) (t5 : T_event_halves) (l : List Int) (l2 : List Int) (l3 : List Bool) (n4 : Int) (z_ : (Int) ⊕ ((Unit) ⊕ (Unit))) (h : kinfolklaw04_StampFills_L0_step N y n b t n2 t2 t3 t4 n3 t5 l l2 l3 n4 = some z_) : RoundOk Tryd.prog cfg 4 0 (loopAt Tryd.prog 4 0) (kinfolklaw04_StampFills_L0_st y n b t n2 t2 t3 t4 n3 t5 l l2 l3) (kinfolklaw04_StampFills_L0_ex y n b t n2 t2 t3 t4 n3 t5 l l2 l3) n4 z_ := by
  rcases cond_of h with ⟨h1, h⟩ | ⟨h1, h⟩
  · obtain ⟨h2, h⟩ := need_of h
    obtain ⟨h3, h⟩ := need_of h
    rcases cond_of h with ⟨h4, h⟩ | ⟨h4, h⟩
    · have h := some_of h
      subst h
      exact ⟨[.br true, .br true, .br true, .br true], (kinfolklaw04_StampFills_L0_ex y n b t n2 t2 t3 t4 n3 t5 l l2 l3 (.inl ())).2, .k1 (an_ h1 (an_ h2 (an_ h3 (an_ h4 (an_ (rfl : true = true) (an_ (rfl : true = true) trivial)))))) (by kernel_rfl) (by kernel_rfl), .same (by kernel_rfl)⟩
    · obtain ⟨n5, h5, h⟩ := bind_of h
      rcases cond_of h with ⟨h6, h⟩ | ⟨h6, h⟩
      · have h := some_of h
        subst h
        exact ⟨[.br true, .br false, .res (kinfolkref02_Max_out t4 n5), .res (kinfolkref02_Max_out t4 n5), .br true, .br true], (kinfolklaw04_StampFills_L0_ex y n b t n2 t2 t3 t4 n3 t5 l l2 l3 (.inl ())).2, .k1 (an_ h1 (an_ h2 (an_ h3 (an_ h4 (an_ h2 (an_ (kinfolkref02_Max_runs N t4 _ h5) (an_ (kinfolkref02_Max_runs N t4 _ h5) (an_ h6 (an_ (rfl : true = true) trivial))))))))) (by kernel_rfl) (by kernel_rfl), .same (by kernel_rfl)⟩
      · rcases cond_of h with ⟨h7, h⟩ | ⟨h7, h⟩
        · have h := some_of h
          subst h
          exact ⟨[.br true, .br false, .res (kinfolkref02_Max_out t4 n5), .res (kinfolkref02_Max_out t4 n5), .br false, .br false, .br false], kinfolklaw04_StampFills_L0_st y n b t n2 t2 t3 t4 n3 t5 l l2 l3 (iadd .i64 n4 1), .k1 (an_ h1 (an_ h2 (an_ h3 (an_ h4 (an_ h2 (an_ (kinfolkref02_Max_runs N t4 _ h5) (an_ (kinfolkref02_Max_runs N t4 _ h5) (an_ h6 (an_ h3 (an_ h2 (an_ (not_of2 h7) (an_ (rfl : false = false) trivial)))))))))))) (by kernel_rfl) (by kernel_rfl), .same (by kernel_rfl)⟩
        · obtain ⟨h8, h⟩ := need_of h
          rcases cond_of h with ⟨h9, h⟩ | ⟨h9, h⟩
          · have h := some_of h
            subst h
            exact ⟨[.br true, .br false, .res (kinfolkref02_Max_out t4 n5), .res (kinfolkref02_Max_out t4 n5), .br false, .br true, .br false], kinfolklaw04_StampFills_L0_st y n b t n2 t2 t3 t4 n3 t5 l l2 l3 (iadd .i64 n4 1), .k1 (an_ h1 (an_ h2 (an_ h3 (an_ h4 (an_ h2 (an_ (kinfolkref02_Max_runs N t4 _ h5) (an_ (kinfolkref02_Max_runs N t4 _ h5) (an_ h6 (an_ h3 (an_ h2 (an_ (not_of h7) (an_ h8 (an_ (not_of2 h9) trivial))))))))))))) (by kernel_rfl) (by kernel_rfl), .same (by kernel_rfl)⟩
          · have h := some_of h
            subst h
            exact ⟨[.br true, .br false, .res (kinfolkref02_Max_out t4 n5), .res (kinfolkref02_Max_out t4 n5), .br false, .br true, .br true], (kinfolklaw04_StampFills_L0_ex y n b t n2 t2 t3 t4 n3 t5 l l2 l3 (.inl ())).2, .k1 (an_ h1 (an_ h2 (an_ h3 (an_ h4 (an_ h2 (an_ (kinfolkref02_Max_runs N t4 _ h5) (an_ (kinfolkref02_Max_runs N t4 _ h5) (an_ h6 (an_ h3 (an_ h2 (an_ (not_of h7) (an_ h8 (an_ (not_of h9) trivial))))))))))))) (by kernel_rfl) (by kernel_rfl), .same (by kernel_rfl)⟩
  · have h := some_of h
    subst h
    exact ⟨[.br false], ⟨[(46, (.av (.one (.pv (.bool false))))), (5, (.av (.one (.ref 0 0)))), (6, (.av (.one (.ref 1 0)))), (7, (.av (.one (.ref 2 0)))), (8, (.av (.one (.pv (T_kinfolkref02_Event.pv y))))), (10, (.av (.one (.own 0 0 (l).length false)))), (11, (.av (.one (.own 1 0 (l2).length false)))), (12, (.av (.one (.own 2 0 (l3).length false)))), (44, (.av (.one (.pv (.int .i64 n))))), (45, (.av (.one (.pv (.int .i64 n4))))), (46, (.av (.one (.pv (.bool (decide ((n4 : Int) < n)))))))], [(0, [(.pv (.bool b)), (.pv (T_id_halves.pv t)), (.pv (.int .u64 n2)), (.pv (T_event_halves.pv t2))]), (1, [(.pv (T_kinfolkref01_ID.pv t3)), (.pv (T_kinfolkref02_Event.pv t4))]), (2, [(.pv (.int .u64 n3)), (.pv (T_event_halves.pv t5))])], [(0, (.live (.ints .u64 l))), (1, (.live (.ints .u64 l2))), (2, (.live (.bools l3)))]⟩, .k0 (an_ h1 trivial) (by kernel_rfl), ⟨⟨⟨_, rfl, .eq rfl⟩, ⟨_, rfl, .eq rfl⟩, ⟨_, rfl, .eq rfl⟩, trivial⟩, ⟨⟨rfl, ⟨.eq rfl, .eq rfl, .eq rfl, .eq rfl, trivial⟩⟩, ⟨rfl, ⟨.eq rfl, .eq rfl, trivial⟩⟩, ⟨rfl, ⟨.eq rfl, .eq rfl, trivial⟩⟩, trivial⟩, ⟨⟨rfl, .eq rfl⟩, ⟨rfl, .eq rfl⟩, ⟨rfl, .eq rfl⟩, trivial⟩⟩⟩
theorem kinfolklaw04_StampFills_L0_runs (N : Nat) (y : T_kinfolkref02_Event) (n : Int) (b : Bool) (t : T_id_halves) (n2 : Int) (t2 : T_event_halves) (t3 : T_kinfolkref01_ID) (t4 : T_kinfolkref02_Event) (n3 : Int) (t5 : T_event_halves) (l : List Int) (l2 : List Int) (l3 : List Bool) (s_ : Int) (r_ : (Unit) ⊕ (Unit)) (h : runL (kinfolklaw04_StampFills_L0_step N y n b t n2 t2 t3 t4 n3 t5 l l2 l3) s_ = some r_) : LRuns Tryd.prog (lEnv Tryd.prog cfg 4 0).nt 0 (.loop (loopAt Tryd.prog 4 0)) (kinfolklaw04_StampFills_L0_st y n b t n2 t2 t3 t4 n3 t5 l l2 l3 s_) (kinfolklaw04_StampFills_L0_ex y n b t n2 t2 t3 t4 n3 t5 l l2 l3 r_).1 (kinfolklaw04_StampFills_L0_ex y n b t n2 t2 t3 t4 n3 t5 l l2 l3 r_).2 :=
  loop_run h (kinfolklaw04_StampFills_L0_ok N y n b t n2 t2 t3 t4 n3 t5 l l2 l3) (by intro r_; rcases r_ with _ | _ <;> simp [kinfolklaw04_StampFills_L0_ex])
/-! ### kinfolklaw04_StampFills -/
noncomputable def kinfolklaw04_StampFills (N : Nat) (p : List Int) (q : List Int) : Option (Bool) :=
  (kinfolklaw04_awake N).bind fun b =>
  bif b then
    (kinfolklaw04_made N p q).bind fun (b2, t, n, t2, t3, t4) =>
    (stamp_Fill N b2 t n t2).bind fun (n2, t5) =>
    (kinfolkref04_Fill N t3 t4).bind fun t6 =>
    (kinfolkref02_Heights N t4 7).bind fun l_ =>
    (kinfolkref02_Heights N t6 7).bind fun l_2 =>
    (kinfolkref01_Has N t3 7).bind fun l_3 =>
    (runL (kinfolklaw04_StampFills_L0_step N t6 ((l_).length : Int) b2 t n t2 t3 t4 n2 t5 l_ l_2 l_3) 0).bind fun z_ => match z_ with
    | .inl _ =>
      some false
    | .inr _ =>
      (event_Event_Text N n2 t5).bind fun s =>
      (kinfolkref02_Text N t6).bind fun s2 =>
      bif (decide (s = s2)) then
        (stamp_Fill N b2 t n2 t5).bind fun (n3, t7) =>
        (event_Same N n3 t7 n2 t5).bind fun b3 =>
        bif b3 then
          (event_Event_Max N n2 t5).bind fun n4 =>
          (event_Event_Max N n t2).bind fun n5 =>
          some (decide ((n4 : Int) = n5))
        else
          some false
      else
        some false
  else
    some false
theorem kinfolklaw04_StampFills_runs (N : Nat) (p : List Int) (q : List Int) (r_ : Bool) (h : kinfolklaw04_StampFills N p q = some r_) : Runs Tryd.prog 4 [(.one (.pv (.ints .u8 p false))), (.one (.pv (.ints .u8 q false)))] [] [] (kinfolklaw04_StampFills_out p q r_) := by
  unfold kinfolklaw04_StampFills at h
  obtain ⟨b, h1, h⟩ := bind_of h
  rcases cond_of h with ⟨h2, h⟩ | ⟨h2, h⟩
  · obtain ⟨⟨b2, t, n, t2, t3, t4⟩, h3, h⟩ := bind_of h
    obtain ⟨⟨n2, t5⟩, h4, h⟩ := bind_of h
    obtain ⟨t6, h5, h⟩ := bind_of h
    obtain ⟨l_, h6, h⟩ := bind_of h
    obtain ⟨l_2, h7, h⟩ := bind_of h
    obtain ⟨l_3, h8, h⟩ := bind_of h
    obtain ⟨z_, h9, h⟩ := bind_of h
    rcases z_ with _ | _
    · have h := some_of h
      subst h
      exact runs_of (C := cfg) (objs := []) (sc := [.res (kinfolklaw04_awake_out b), .br false, .res (kinfolklaw04_made_out p q (b2, t, n, t2, t3, t4)), .res (stamp_Fill_out b2 t n t2 (n2, t5)), .res (kinfolkref04_Fill_out t3 t4 t6), .res (kinfolkref02_Heights_out t4 7 l_), .res (kinfolkref02_Heights_out t6 7 l_2), .res (kinfolkref02_Heights_out t4 7 l_), .res (kinfolkref02_Heights_out t6 7 l_2), .res (kinfolkref01_Has_out t3 7 l_3), .lp (kinfolklaw04_StampFills_L0_ex t6 ((l_).length : Int) b2 t n t2 t3 t4 n2 t5 l_ l_2 l_3 (.inl ())).1 (kinfolklaw04_StampFills_L0_ex t6 ((l_).length : Int) b2 t n t2 t3 t4 n2 t5 l_ l_2 l_3 (.inl ())).2]) (.k1 (an_ (kinfolklaw04_awake_runs N _ h1) (an_ (not_of2 h2) (an_ (kinfolklaw04_made_runs N p q _ h3) (an_ (stamp_Fill_runs N b2 t n t2 _ h4) (an_ (kinfolkref04_Fill_runs N t3 t4 _ h5) (an_ (kinfolkref02_Heights_runs N t4 7 _ h6) (an_ (kinfolkref02_Heights_runs N t6 7 _ h7) (an_ (kinfolkref02_Heights_runs N t4 7 _ h6) (an_ (kinfolkref02_Heights_runs N t6 7 _ h7) (an_ (kinfolkref01_Has_runs N t3 7 _ h8) (an_ (kinfolklaw04_StampFills_L0_runs N t6 ((l_).length : Int) b2 t n t2 t3 t4 n2 t5 l_ l_2 l_3 _ _ h9) trivial))))))))))) (by kernel_rfl) (by kernel_rfl))
    · obtain ⟨s, h10, h⟩ := bind_of h
      obtain ⟨s2, h11, h⟩ := bind_of h
      rcases cond_of h with ⟨h12, h⟩ | ⟨h12, h⟩
      · obtain ⟨⟨n3, t7⟩, h13, h⟩ := bind_of h
        obtain ⟨b3, h14, h⟩ := bind_of h
        rcases cond_of h with ⟨h15, h⟩ | ⟨h15, h⟩
        · obtain ⟨n4, h16, h⟩ := bind_of h
          obtain ⟨n5, h17, h⟩ := bind_of h
          have h := some_of h
          subst h
          exact runs_of (C := cfg) (objs := []) (sc := [.res (kinfolklaw04_awake_out b), .br false, .res (kinfolklaw04_made_out p q (b2, t, n, t2, t3, t4)), .res (stamp_Fill_out b2 t n t2 (n2, t5)), .res (kinfolkref04_Fill_out t3 t4 t6), .res (kinfolkref02_Heights_out t4 7 l_), .res (kinfolkref02_Heights_out t6 7 l_2), .res (kinfolkref02_Heights_out t4 7 l_), .res (kinfolkref02_Heights_out t6 7 l_2), .res (kinfolkref01_Has_out t3 7 l_3), .lp (kinfolklaw04_StampFills_L0_ex t6 ((l_).length : Int) b2 t n t2 t3 t4 n2 t5 l_ l_2 l_3 (.inr ())).1 (kinfolklaw04_StampFills_L0_ex t6 ((l_).length : Int) b2 t n t2 t3 t4 n2 t5 l_ l_2 l_3 (.inr ())).2, .res (event_Event_Text_out n2 t5 s), .res (kinfolkref02_Text_out t6 s2), .br true, .res (stamp_Fill_out b2 t n2 t5 (n3, t7)), .res (stamp_Fill_out b2 t n2 t5 (n3, t7)), .res (event_Same_out n3 t7 n2 t5 b3), .br true, .res (event_Event_Max_out n2 t5 n4), .res (event_Event_Max_out n2 t5 n4), .res (event_Event_Max_out n t2 n5)]) (.k1 (an_ (kinfolklaw04_awake_runs N _ h1) (an_ (not_of2 h2) (an_ (kinfolklaw04_made_runs N p q _ h3) (an_ (stamp_Fill_runs N b2 t n t2 _ h4) (an_ (kinfolkref04_Fill_runs N t3 t4 _ h5) (an_ (kinfolkref02_Heights_runs N t4 7 _ h6) (an_ (kinfolkref02_Heights_runs N t6 7 _ h7) (an_ (kinfolkref02_Heights_runs N t4 7 _ h6) (an_ (kinfolkref02_Heights_runs N t6 7 _ h7) (an_ (kinfolkref01_Has_runs N t3 7 _ h8) (an_ (kinfolklaw04_StampFills_L0_runs N t6 ((l_).length : Int) b2 t n t2 t3 t4 n2 t5 l_ l_2 l_3 _ _ h9) (an_ (event_Event_Text_runs N n2 t5 _ h10) (an_ (kinfolkref02_Text_runs N t6 _ h11) (an_ h12 (an_ (stamp_Fill_runs N b2 t n2 t5 _ h13) (an_ (stamp_Fill_runs N b2 t n2 t5 _ h13) (an_ (event_Same_runs N n3 t7 n2 t5 _ h14) (an_ h15 (an_ (event_Event_Max_runs N n2 t5 _ h16) (an_ (event_Event_Max_runs N n2 t5 _ h16) (an_ (event_Event_Max_runs N n t2 _ h17) trivial))))))))))))))))))))) (by kernel_rfl) (by kernel_rfl))
        · have h := some_of h
          subst h
          exact runs_of (C := cfg) (objs := []) (sc := [.res (kinfolklaw04_awake_out b), .br false, .res (kinfolklaw04_made_out p q (b2, t, n, t2, t3, t4)), .res (stamp_Fill_out b2 t n t2 (n2, t5)), .res (kinfolkref04_Fill_out t3 t4 t6), .res (kinfolkref02_Heights_out t4 7 l_), .res (kinfolkref02_Heights_out t6 7 l_2), .res (kinfolkref02_Heights_out t4 7 l_), .res (kinfolkref02_Heights_out t6 7 l_2), .res (kinfolkref01_Has_out t3 7 l_3), .lp (kinfolklaw04_StampFills_L0_ex t6 ((l_).length : Int) b2 t n t2 t3 t4 n2 t5 l_ l_2 l_3 (.inr ())).1 (kinfolklaw04_StampFills_L0_ex t6 ((l_).length : Int) b2 t n t2 t3 t4 n2 t5 l_ l_2 l_3 (.inr ())).2, .res (event_Event_Text_out n2 t5 s), .res (kinfolkref02_Text_out t6 s2), .br true, .res (stamp_Fill_out b2 t n2 t5 (n3, t7)), .res (stamp_Fill_out b2 t n2 t5 (n3, t7)), .res (event_Same_out n3 t7 n2 t5 b3), .br false]) (.k1 (an_ (kinfolklaw04_awake_runs N _ h1) (an_ (not_of2 h2) (an_ (kinfolklaw04_made_runs N p q _ h3) (an_ (stamp_Fill_runs N b2 t n t2 _ h4) (an_ (kinfolkref04_Fill_runs N t3 t4 _ h5) (an_ (kinfolkref02_Heights_runs N t4 7 _ h6) (an_ (kinfolkref02_Heights_runs N t6 7 _ h7) (an_ (kinfolkref02_Heights_runs N t4 7 _ h6) (an_ (kinfolkref02_Heights_runs N t6 7 _ h7) (an_ (kinfolkref01_Has_runs N t3 7 _ h8) (an_ (kinfolklaw04_StampFills_L0_runs N t6 ((l_).length : Int) b2 t n t2 t3 t4 n2 t5 l_ l_2 l_3 _ _ h9) (an_ (event_Event_Text_runs N n2 t5 _ h10) (an_ (kinfolkref02_Text_runs N t6 _ h11) (an_ h12 (an_ (stamp_Fill_runs N b2 t n2 t5 _ h13) (an_ (stamp_Fill_runs N b2 t n2 t5 _ h13) (an_ (event_Same_runs N n3 t7 n2 t5 _ h14) (an_ h15 trivial)))))))))))))))))) (by kernel_rfl) (by kernel_rfl))
      · have h := some_of h
        subst h
        exact runs_of (C := cfg) (objs := []) (sc := [.res (kinfolklaw04_awake_out b), .br false, .res (kinfolklaw04_made_out p q (b2, t, n, t2, t3, t4)), .res (stamp_Fill_out b2 t n t2 (n2, t5)), .res (kinfolkref04_Fill_out t3 t4 t6), .res (kinfolkref02_Heights_out t4 7 l_), .res (kinfolkref02_Heights_out t6 7 l_2), .res (kinfolkref02_Heights_out t4 7 l_), .res (kinfolkref02_Heights_out t6 7 l_2), .res (kinfolkref01_Has_out t3 7 l_3), .lp (kinfolklaw04_StampFills_L0_ex t6 ((l_).length : Int) b2 t n t2 t3 t4 n2 t5 l_ l_2 l_3 (.inr ())).1 (kinfolklaw04_StampFills_L0_ex t6 ((l_).length : Int) b2 t n t2 t3 t4 n2 t5 l_ l_2 l_3 (.inr ())).2, .res (event_Event_Text_out n2 t5 s), .res (kinfolkref02_Text_out t6 s2), .br false, .br false]) (.k1 (an_ (kinfolklaw04_awake_runs N _ h1) (an_ (not_of2 h2) (an_ (kinfolklaw04_made_runs N p q _ h3) (an_ (stamp_Fill_runs N b2 t n t2 _ h4) (an_ (kinfolkref04_Fill_runs N t3 t4 _ h5) (an_ (kinfolkref02_Heights_runs N t4 7 _ h6) (an_ (kinfolkref02_Heights_runs N t6 7 _ h7) (an_ (kinfolkref02_Heights_runs N t4 7 _ h6) (an_ (kinfolkref02_Heights_runs N t6 7 _ h7) (an_ (kinfolkref01_Has_runs N t3 7 _ h8) (an_ (kinfolklaw04_StampFills_L0_runs N t6 ((l_).length : Int) b2 t n t2 t3 t4 n2 t5 l_ l_2 l_3 _ _ h9) (an_ (event_Event_Text_runs N n2 t5 _ h10) (an_ (kinfolkref02_Text_runs N t6 _ h11) (an_ h12 (an_ (rfl : false = false) trivial))))))))))))))) (by kernel_rfl) (by kernel_rfl))
  · have h := some_of h
    subst h
    exact runs_of (C := cfg) (objs := []) (sc := [.res (kinfolklaw04_awake_out b), .br true]) (.k0 (an_ (kinfolklaw04_awake_runs N _ h1) (an_ (not_of h2) trivial)) (by kernel_rfl))
/-! ### kinfolklaw04_StampLimits_out -/
def kinfolklaw04_StampLimits_out (n : Int) (turns : Int) : Bool → Res
  | r1 => ([(.one (.pv (.bool r1)))], [], [])
/-! ### stamp_Same_out -/
def stamp_Same_out (a : Bool) (a2 : T_id_halves) (a3 : Int) (a4 : T_event_halves) (b : Bool) (b2 : T_id_halves) (b3 : Int) (b4 : T_event_halves) : Bool → Res
  | r1 => ([(.one (.pv (.bool r1)))], [], [])
/-! ### id_Same_out -/
def id_Same_out (a : Bool) (a2 : T_id_halves) (b : Bool) (b2 : T_id_halves) : Bool → Res
  | r1 => ([(.one (.pv (.bool r1)))], [], [])
/-! ### id_Covers_out -/
def id_Covers_out (a : Bool) (a2 : T_id_halves) (b : Bool) (b2 : T_id_halves) : Bool → Res
  | r1 => ([(.one (.pv (.bool r1)))], [], [])
/-! ### id_Covers -/
noncomputable def id_Covers_b (rec_id_Covers : Bool → T_id_halves → Bool → T_id_halves → Option (Bool)) (a : Bool) (a2 : T_id_halves) (b : Bool) (b2 : T_id_halves) : Option (Bool) :=
  (id_ID_IsOne a a2).bind fun _ =>
  bif a then
    some true
  else
    (id_ID_IsZero b b2).bind fun b3 =>
    bif b3 then
      some true
    else
      (id_ID_IsZero a a2).bind fun b4 =>
      bif b4 then
        some false
      else
        (id_ID_IsOne b b2).bind fun _ =>
        bif b then
          some false
        else
          match b2 with
          | .nil =>
            none
          | .mk b5 t b6 t2 =>
            match a2 with
            | .nil =>
              none
            | .mk b7 t3 b8 t4 =>
              (rec_id_Covers b7 t3 b5 t).bind fun b9 =>
              bif b9 then
                (rec_id_Covers b8 t4 b6 t2).bind fun b10 =>
                some b10
              else
                some false
theorem id_Covers_b_runs (rec_id_Covers : Bool → T_id_halves → Bool → T_id_halves → Option (Bool)) (hrec_id_Covers : ∀ a a2 b b2 r_, rec_id_Covers a a2 b b2 = some r_ → Runs Tryd.prog 109 [(.agg [(.pv (.bool a)), (.pv (T_id_halves.pv a2))]), (.agg [(.pv (.bool b)), (.pv (T_id_halves.pv b2))])] [] [] (id_Covers_out a a2 b b2 r_)) (a : Bool) (a2 : T_id_halves) (b : Bool) (b2 : T_id_halves) (r_ : Bool) (h : id_Covers_b rec_id_Covers a a2 b b2 = some r_) : Runs Tryd.prog 109 [(.agg [(.pv (.bool a)), (.pv (T_id_halves.pv a2))]), (.agg [(.pv (.bool b)), (.pv (T_id_halves.pv b2))])] [] [] (id_Covers_out a a2 b b2 r_) := by
  unfold id_Covers_b at h
  obtain ⟨_, h1, h⟩ := bind_of h
  rcases cond_of h with ⟨h2, h⟩ | ⟨h2, h⟩
  · have h := some_of h
    subst h
    exact runs_of (C := cfg) (objs := []) (sc := [.res (id_ID_IsOne_out a a2 ()), .br true, .br true]) (.k0 (an_ (id_ID_IsOne_runs a a2 _ h1) (an_ h2 (an_ (rfl : true = true) trivial))) (by kernel_rfl))
  · obtain ⟨b3, h3, h⟩ := bind_of h
    rcases cond_of h with ⟨h4, h⟩ | ⟨h4, h⟩
    · have h := some_of h
      subst h
      exact runs_of (C := cfg) (objs := []) (sc := [.res (id_ID_IsOne_out a a2 ()), .br false, .res (id_ID_IsZero_out b b2 b3), .br true]) (.k0 (an_ (id_ID_IsOne_runs a a2 _ h1) (an_ h2 (an_ (id_ID_IsZero_runs b b2 _ h3) (an_ h4 trivial)))) (by kernel_rfl))
    · obtain ⟨b4, h5, h⟩ := bind_of h
      rcases cond_of h with ⟨h6, h⟩ | ⟨h6, h⟩
      · have h := some_of h
        subst h
        exact runs_of (C := cfg) (objs := []) (sc := [.res (id_ID_IsOne_out a a2 ()), .br false, .res (id_ID_IsZero_out b b2 b3), .br false, .res (id_ID_IsZero_out a a2 b4), .br true, .br true]) (.k0 (an_ (id_ID_IsOne_runs a a2 _ h1) (an_ h2 (an_ (id_ID_IsZero_runs b b2 _ h3) (an_ h4 (an_ (id_ID_IsZero_runs a a2 _ h5) (an_ h6 (an_ (rfl : true = true) trivial))))))) (by kernel_rfl))
      · obtain ⟨_, h7, h⟩ := bind_of h
        rcases cond_of h with ⟨h8, h⟩ | ⟨h8, h⟩
        · have h := some_of h
          subst h
          exact runs_of (C := cfg) (objs := []) (sc := [.res (id_ID_IsOne_out a a2 ()), .br false, .res (id_ID_IsZero_out b b2 b3), .br false, .res (id_ID_IsZero_out a a2 b4), .br false, .res (id_ID_IsOne_out b b2 ()), .br true]) (.k0 (an_ (id_ID_IsOne_runs a a2 _ h1) (an_ h2 (an_ (id_ID_IsZero_runs b b2 _ h3) (an_ h4 (an_ (id_ID_IsZero_runs a a2 _ h5) (an_ h6 (an_ (id_ID_IsOne_runs b b2 _ h7) (an_ h8 trivial)))))))) (by kernel_rfl))
        · cases b2 with
          | nil =>
            cases h
          | mk b5 t b6 t2 =>
            cases a2 with
            | nil =>
              cases h
            | mk b7 t3 b8 t4 =>
              obtain ⟨b9, h9, h⟩ := bind_of h
              rcases cond_of h with ⟨h10, h⟩ | ⟨h10, h⟩
              · obtain ⟨b10, h11, h⟩ := bind_of h
                have h := some_of h
                subst h
                exact runs_of (C := cfg) (objs := []) (sc := [.res (id_ID_IsOne_out a (T_id_halves.mk b7 t3 b8 t4) ()), .br false, .res (id_ID_IsZero_out b (T_id_halves.mk b5 t b6 t2) b3), .br false, .res (id_ID_IsZero_out a (T_id_halves.mk b7 t3 b8 t4) b4), .br false, .res (id_ID_IsOne_out b (T_id_halves.mk b5 t b6 t2) ()), .br false, .res (id_Covers_out b7 t3 b5 t b9), .br true, .res (id_Covers_out b8 t4 b6 t2 b10)]) (.k1 (an_ (id_ID_IsOne_runs a (T_id_halves.mk b7 t3 b8 t4) _ h1) (an_ h2 (an_ (id_ID_IsZero_runs b (T_id_halves.mk b5 t b6 t2) _ h3) (an_ h4 (an_ (id_ID_IsZero_runs a (T_id_halves.mk b7 t3 b8 t4) _ h5) (an_ h6 (an_ (id_ID_IsOne_runs b (T_id_halves.mk b5 t b6 t2) _ h7) (an_ h8 (an_ (hrec_id_Covers b7 t3 b5 t _ h9) (an_ h10 (an_ (hrec_id_Covers b8 t4 b6 t2 _ h11) trivial))))))))))) (by kernel_rfl) (by kernel_rfl))
              · have h := some_of h
                subst h
                exact runs_of (C := cfg) (objs := []) (sc := [.res (id_ID_IsOne_out a (T_id_halves.mk b7 t3 b8 t4) ()), .br false, .res (id_ID_IsZero_out b (T_id_halves.mk b5 t b6 t2) b3), .br false, .res (id_ID_IsZero_out a (T_id_halves.mk b7 t3 b8 t4) b4), .br false, .res (id_ID_IsOne_out b (T_id_halves.mk b5 t b6 t2) ()), .br false, .res (id_Covers_out b7 t3 b5 t b9), .br false]) (.k1 (an_ (id_ID_IsOne_runs a (T_id_halves.mk b7 t3 b8 t4) _ h1) (an_ h2 (an_ (id_ID_IsZero_runs b (T_id_halves.mk b5 t b6 t2) _ h3) (an_ h4 (an_ (id_ID_IsZero_runs a (T_id_halves.mk b7 t3 b8 t4) _ h5) (an_ h6 (an_ (id_ID_IsOne_runs b (T_id_halves.mk b5 t b6 t2) _ h7) (an_ h8 (an_ (hrec_id_Covers b7 t3 b5 t _ h9) (an_ h10 trivial)))))))))) (by kernel_rfl) (by kernel_rfl))
noncomputable def id_Covers : Nat → Bool → T_id_halves → Bool → T_id_halves → Option (Bool)
  | 0, _, _, _, _ => none
  | N + 1, a, a2, b, b2 => id_Covers_b (id_Covers N) a a2 b b2
theorem id_Covers_runs : ∀ (N : Nat) (a : Bool) (a2 : T_id_halves) (b : Bool) (b2 : T_id_halves) (r_ : Bool), id_Covers N a a2 b b2 = some r_ → Runs Tryd.prog 109 [(.agg [(.pv (.bool a)), (.pv (T_id_halves.pv a2))]), (.agg [(.pv (.bool b)), (.pv (T_id_halves.pv b2))])] [] [] (id_Covers_out a a2 b b2 r_)
  | 0, _, _, _, _, _, h => by cases h
  | N + 1, a, a2, b, b2, r_, h => id_Covers_b_runs (id_Covers N) (id_Covers_runs N) a a2 b b2 r_ h
/-! ### id_Same -/
noncomputable def id_Same (N : Nat) (a : Bool) (a2 : T_id_halves) (b : Bool) (b2 : T_id_halves) : Option (Bool) :=
  (id_Covers N a a2 b b2).bind fun b3 =>
  bif b3 then
    (id_Covers N b b2 a a2).bind fun b4 =>
    some b4
  else
    some false
theorem id_Same_runs (N : Nat) (a : Bool) (a2 : T_id_halves) (b : Bool) (b2 : T_id_halves) (r_ : Bool) (h : id_Same N a a2 b b2 = some r_) : Runs Tryd.prog 42 [(.agg [(.pv (.bool a)), (.pv (T_id_halves.pv a2))]), (.agg [(.pv (.bool b)), (.pv (T_id_halves.pv b2))])] [] [] (id_Same_out a a2 b b2 r_) := by
  unfold id_Same at h
  obtain ⟨b3, h1, h⟩ := bind_of h
  rcases cond_of h with ⟨h2, h⟩ | ⟨h2, h⟩
  · obtain ⟨b4, h3, h⟩ := bind_of h
    have h := some_of h
    subst h
    exact runs_of (C := cfg) (objs := []) (sc := [.res (id_Covers_out a a2 b b2 b3), .br true, .res (id_Covers_out b b2 a a2 b4)]) (.k0 (an_ (id_Covers_runs N a a2 b b2 _ h1) (an_ h2 (an_ (id_Covers_runs N b b2 a a2 _ h3) trivial))) (by kernel_rfl))
  · have h := some_of h
    subst h
    exact runs_of (C := cfg) (objs := []) (sc := [.res (id_Covers_out a a2 b b2 b3), .br false]) (.k0 (an_ (id_Covers_runs N a a2 b b2 _ h1) (an_ h2 trivial)) (by kernel_rfl))
/-! ### stamp_Same -/
noncomputable def stamp_Same (N : Nat) (a : Bool) (a2 : T_id_halves) (a3 : Int) (a4 : T_event_halves) (b : Bool) (b2 : T_id_halves) (b3 : Int) (b4 : T_event_halves) : Option (Bool) :=
  (id_Same N a a2 b b2).bind fun b5 =>
  bif b5 then
    (event_Same N a3 a4 b3 b4).bind fun b6 =>
    some b6
  else
    some false
theorem stamp_Same_runs (N : Nat) (a : Bool) (a2 : T_id_halves) (a3 : Int) (a4 : T_event_halves) (b : Bool) (b2 : T_id_halves) (b3 : Int) (b4 : T_event_halves) (r_ : Bool) (h : stamp_Same N a a2 a3 a4 b b2 b3 b4 = some r_) : Runs Tryd.prog 34 [(.agg [(.pv (.bool a)), (.pv (T_id_halves.pv a2)), (.pv (.int .u64 a3)), (.pv (T_event_halves.pv a4))]), (.agg [(.pv (.bool b)), (.pv (T_id_halves.pv b2)), (.pv (.int .u64 b3)), (.pv (T_event_halves.pv b4))])] [] [] (stamp_Same_out a a2 a3 a4 b b2 b3 b4 r_) := by
  unfold stamp_Same at h
  obtain ⟨b5, h1, h⟩ := bind_of h
  rcases cond_of h with ⟨h2, h⟩ | ⟨h2, h⟩
  · obtain ⟨b6, h3, h⟩ := bind_of h
    have h := some_of h
    subst h
    exact runs_of (C := cfg) (objs := []) (sc := [.res (id_Same_out a a2 b b2 b5), .br true, .res (event_Same_out a3 a4 b3 b4 b6)]) (.k0 (an_ (id_Same_runs N a a2 b b2 _ h1) (an_ h2 (an_ (event_Same_runs N a3 a4 b3 b4 _ h3) trivial))) (by kernel_rfl))
  · have h := some_of h
    subst h
    exact runs_of (C := cfg) (objs := []) (sc := [.res (id_Same_out a a2 b b2 b5), .br false]) (.k0 (an_ (id_Same_runs N a a2 b b2 _ h1) (an_ h2 trivial)) (by kernel_rfl))
/-! ### kinfolklaw04_StampLimits_L0 -/
def kinfolklaw04_StampLimits_L0_st (n : Int) (turns : Int) : Int × Int × T_event_halves → St
  | (n3, n2, t) => ⟨[(0, (.av (.one (.pv (.int .u8 n))))), (1, (.av (.one (.pv (.int .u16 turns))))), (7, (.av (.one (.ref 0 0)))), (30, (.av (.one (.pv (.int .i64 n3)))))], [(0, [(.pv (.bool true)), (.pv (T_id_halves.pv T_id_halves.nil)), (.pv (.int .u64 n2)), (.pv (T_event_halves.pv t))])], []⟩
def kinfolklaw04_StampLimits_L0_ex (n : Int) (turns : Int) : (Unit) ⊕ (Int × T_event_halves) → Ex × St
  | .inl _ => (.ret, ⟨[(4, (.av (.one (.pv (.bool false)))))], [], []⟩)
  | .inr (r1, r2) => ((.exit 0), ⟨[(1, (.av (.one (.pv (.int .u16 turns))))), (7, (.av (.one (.ref 0 0))))], [(0, [(.pv (.bool true)), (.pv (T_id_halves.pv T_id_halves.nil)), (.pv (.int .u64 r1)), (.pv (T_event_halves.pv r2))])], []⟩)
noncomputable def kinfolklaw04_StampLimits_L0_step (N : Nat) (n : Int) (turns : Int) : Int × Int × T_event_halves → Option ((Int × Int × T_event_halves) ⊕ ((Unit) ⊕ (Int × T_event_halves)))
  | (n3, n2, t) =>
  bif (decide ((n3 : Int) < 4)) then
    (stamp_Stamp_Tick N true T_id_halves.nil n2 t).bind fun (n4, t2, n5) =>
    bif ((decide ((n5 : Int) = 0)) == (decide ((n3 : Int) < (IntKind.i64.wrap (irem .u8 n 3))))) then
      bif (decide ((n5 : Int) = 0)) then
        some (.inl ((iadd .i64 n3 1), n4, t2))
      else
        bif (decide ((n5 : Int) = 4)) then
          (stamp_Same N true T_id_halves.nil n4 t2 true T_id_halves.nil n2 t).bind fun b =>
          bif b then
            some (.inl ((iadd .i64 n3 1), n4, t2))
          else
            some (.inr (.inl ()))
        else
          some (.inr (.inl ()))
    else
      some (.inr (.inl ()))
  else
    some (.inr (.inr (n2, t)))
theorem kinfolklaw04_StampLimits_L0_ok (N : Nat) (n : Int) (turns : Int) (s_ : Int × Int × T_event_halves) (z_ : (Int × Int × T_event_halves) ⊕ ((Unit) ⊕ (Int × T_event_halves))) (h : kinfolklaw04_StampLimits_L0_step N n turns s_ = some z_) : RoundOk Tryd.prog cfg 5 0 (loopAt Tryd.prog 5 0) (kinfolklaw04_StampLimits_L0_st n turns) (kinfolklaw04_StampLimits_L0_ex n turns) s_ z_ := by
  rcases s_ with ⟨n3, n2, t⟩
  rcases cond_of h with ⟨h1, h⟩ | ⟨h1, h⟩
  · obtain ⟨⟨n4, t2, n5⟩, h2, h⟩ := bind_of h
    rcases cond_of h with ⟨h3, h⟩ | ⟨h3, h⟩
    · rcases cond_of h with ⟨h4, h⟩ | ⟨h4, h⟩
      · have h := some_of h
        subst h
        exact ⟨[.br true, .res (stamp_Stamp_Tick_out true T_id_halves.nil n2 t (n4, t2, n5)), .br false, .br false, .br false], kinfolklaw04_StampLimits_L0_st n turns ((iadd .i64 n3 1), n4, t2), .k0 (an_ h1 (an_ (stamp_Stamp_Tick_runs N true T_id_halves.nil n2 t _ h2) (an_ (rfl : true = true) (an_ (not_of2 h3) (an_ (not_of2 h4) (an_ (rfl : false = false) trivial)))))) (by kernel_rfl), .same (by kernel_rfl)⟩
      · rcases cond_of h with ⟨h5, h⟩ | ⟨h5, h⟩
        · obtain ⟨b, h6, h⟩ := bind_of h
          rcases cond_of h with ⟨h7, h⟩ | ⟨h7, h⟩
          · have h := some_of h
            subst h
            exact ⟨[.br true, .res (stamp_Stamp_Tick_out true T_id_halves.nil n2 t (n4, t2, n5)), .br false, .br true, .br false, .res (stamp_Same_out true T_id_halves.nil n4 t2 true T_id_halves.nil n2 t b), .br false], kinfolklaw04_StampLimits_L0_st n turns ((iadd .i64 n3 1), n4, t2), .k0 (an_ h1 (an_ (stamp_Stamp_Tick_runs N true T_id_halves.nil n2 t _ h2) (an_ (rfl : true = true) (an_ (not_of2 h3) (an_ (not_of h4) (an_ (not_of2 h5) (an_ (stamp_Same_runs N true T_id_halves.nil n4 t2 true T_id_halves.nil n2 t _ h6) (an_ (not_of2 h7) trivial)))))))) (by kernel_rfl), .same (by kernel_rfl)⟩
          · have h := some_of h
            subst h
            exact ⟨[.br true, .res (stamp_Stamp_Tick_out true T_id_halves.nil n2 t (n4, t2, n5)), .br false, .br true, .br false, .res (stamp_Same_out true T_id_halves.nil n4 t2 true T_id_halves.nil n2 t b), .br true], (kinfolklaw04_StampLimits_L0_ex n turns (.inl ())).2, .k0 (an_ h1 (an_ (stamp_Stamp_Tick_runs N true T_id_halves.nil n2 t _ h2) (an_ (rfl : true = true) (an_ (not_of2 h3) (an_ (not_of h4) (an_ (not_of2 h5) (an_ (stamp_Same_runs N true T_id_halves.nil n4 t2 true T_id_halves.nil n2 t _ h6) (an_ (not_of h7) trivial)))))))) (by kernel_rfl), .same (by kernel_rfl)⟩
        · have h := some_of h
          subst h
          exact ⟨[.br true, .res (stamp_Stamp_Tick_out true T_id_halves.nil n2 t (n4, t2, n5)), .br false, .br true, .br true, .br true], (kinfolklaw04_StampLimits_L0_ex n turns (.inl ())).2, .k0 (an_ h1 (an_ (stamp_Stamp_Tick_runs N true T_id_halves.nil n2 t _ h2) (an_ (rfl : true = true) (an_ (not_of2 h3) (an_ (not_of h4) (an_ (not_of h5) (an_ (rfl : true = true) trivial))))))) (by kernel_rfl), .same (by kernel_rfl)⟩
    · have h := some_of h
      subst h
      exact ⟨[.br true, .res (stamp_Stamp_Tick_out true T_id_halves.nil n2 t (n4, t2, n5)), .br true, .br true], (kinfolklaw04_StampLimits_L0_ex n turns (.inl ())).2, .k0 (an_ h1 (an_ (stamp_Stamp_Tick_runs N true T_id_halves.nil n2 t _ h2) (an_ (rfl : true = true) (an_ (not_of h3) (an_ (rfl : true = true) trivial))))) (by kernel_rfl), .same (by kernel_rfl)⟩
  · have h := some_of h
    subst h
    exact ⟨[.br false], ⟨[(31, (.av (.one (.pv (.bool false))))), (0, (.av (.one (.pv (.int .u8 n))))), (1, (.av (.one (.pv (.int .u16 turns))))), (7, (.av (.one (.ref 0 0)))), (30, (.av (.one (.pv (.int .i64 n3))))), (31, (.av (.one (.pv (.bool (decide ((n3 : Int) < 4)))))))], [(0, [(.pv (.bool true)), (.pv (T_id_halves.pv T_id_halves.nil)), (.pv (.int .u64 n2)), (.pv (T_event_halves.pv t))])], []⟩, .k0 (an_ h1 trivial) (by kernel_rfl), ⟨⟨⟨_, rfl, .eq rfl⟩, ⟨_, rfl, .eq rfl⟩, trivial⟩, ⟨⟨rfl, ⟨.eq rfl, .eq rfl, .eq rfl, .eq rfl, trivial⟩⟩, trivial⟩, trivial⟩⟩
theorem kinfolklaw04_StampLimits_L0_runs (N : Nat) (n : Int) (turns : Int) (s_ : Int × Int × T_event_halves) (r_ : (Unit) ⊕ (Int × T_event_halves)) (h : runL (kinfolklaw04_StampLimits_L0_step N n turns) s_ = some r_) : LRuns Tryd.prog (lEnv Tryd.prog cfg 5 0).nt 0 (.loop (loopAt Tryd.prog 5 0)) (kinfolklaw04_StampLimits_L0_st n turns s_) (kinfolklaw04_StampLimits_L0_ex n turns r_).1 (kinfolklaw04_StampLimits_L0_ex n turns r_).2 :=
  loop_run h (kinfolklaw04_StampLimits_L0_ok N n turns) (by intro r_; rcases r_ with _ | ⟨r1, r2⟩ <;> simp [kinfolklaw04_StampLimits_L0_ex])
/-! ### kinfolklaw04_StampLimits_L1 -/
def kinfolklaw04_StampLimits_L1_st (turns : Int) : Int × Bool × T_id_halves × Int × T_event_halves → St
  | (n, b, t, n2, t2) => ⟨[(1, (.av (.one (.pv (.int .u16 turns))))), (7, (.av (.one (.ref 0 0)))), (63, (.av (.one (.pv (.int .i64 n)))))], [(0, [(.pv (.bool b)), (.pv (T_id_halves.pv t)), (.pv (.int .u64 n2)), (.pv (T_event_halves.pv t2))])], []⟩
def kinfolklaw04_StampLimits_L1_ex (turns : Int) : (Unit) ⊕ (Bool × T_id_halves × Int × T_event_halves) → Ex × St
  | .inl _ => (.ret, ⟨[(4, (.av (.one (.pv (.bool false)))))], [], []⟩)
  | .inr (r1, r2, r3, r4) => ((.exit 2), ⟨[(7, (.av (.one (.ref 0 0))))], [(0, [(.pv (.bool r1)), (.pv (T_id_halves.pv r2)), (.pv (.int .u64 r3)), (.pv (T_event_halves.pv r4))])], []⟩)
noncomputable def kinfolklaw04_StampLimits_L1_step (N : Nat) (turns : Int) : Int × Bool × T_id_halves × Int × T_event_halves → Option ((Int × Bool × T_id_halves × Int × T_event_halves) ⊕ ((Unit) ⊕ (Bool × T_id_halves × Int × T_event_halves)))
  | (n, b, t, n2, t2) =>
  bif (decide ((n : Int) < 18)) then
    (stamp_Stamp_Fork N b t n2 t2).bind fun (b2, t3, n3, t4, b3, t5, n4, t6, n5) =>
    bif ((decide ((n5 : Int) = 0)) == (decide ((n : Int) < 16))) then
      bif (decide ((n5 : Int) = 0)) then
        bif decide ((0 : Int) ≤ n) then
        bif (decide (((irem .u16 (ishr .u16 turns n) 2) : Int) = 1)) then
          some (.inl ((iadd .i64 n 1), b3, t5, n4, t6))
        else
          some (.inl ((iadd .i64 n 1), b2, t3, n3, t4))
        else none
      else
        bif (decide ((n5 : Int) = 3)) then
          some (.inl ((iadd .i64 n 1), b, t, n2, t2))
        else
          some (.inr (.inl ()))
    else
      some (.inr (.inl ()))
  else
    some (.inr (.inr (b, t, n2, t2)))
theorem kinfolklaw04_StampLimits_L1_ok (N : Nat) (turns : Int) (s_ : Int × Bool × T_id_halves × Int × T_event_halves) (z_ : (Int × Bool × T_id_halves × Int × T_event_halves) ⊕ ((Unit) ⊕ (Bool × T_id_halves × Int × T_event_halves))) (h : kinfolklaw04_StampLimits_L1_step N turns s_ = some z_) : RoundOk Tryd.prog cfg 5 0 (loopAt Tryd.prog 5 1) (kinfolklaw04_StampLimits_L1_st turns) (kinfolklaw04_StampLimits_L1_ex turns) s_ z_ := by
  rcases s_ with ⟨n, b, t, n2, t2⟩
  rcases cond_of h with ⟨h1, h⟩ | ⟨h1, h⟩
  · obtain ⟨⟨b2, t3, n3, t4, b3, t5, n4, t6, n5⟩, h2, h⟩ := bind_of h
    rcases cond_of h with ⟨h3, h⟩ | ⟨h3, h⟩
    · rcases cond_of h with ⟨h4, h⟩ | ⟨h4, h⟩
      · obtain ⟨h5, h⟩ := need_of h
        rcases cond_of h with ⟨h6, h⟩ | ⟨h6, h⟩
        · have h := some_of h
          subst h
          exact ⟨[.br true, .res (stamp_Stamp_Fork_out b t n2 t2 (b2, t3, n3, t4, b3, t5, n4, t6, n5)), .br false, .br false, .br false, .br false, .br true], kinfolklaw04_StampLimits_L1_st turns ((iadd .i64 n 1), b3, t5, n4, t6), .k0 (an_ h1 (an_ (stamp_Stamp_Fork_runs N b t n2 t2 _ h2) (an_ (not_of2 h3) (an_ (not_of2 h4) (an_ (rfl : false = false) (an_ (not_of2 h4) (an_ h5 (an_ (rfl : true = true) (an_ h6 trivial))))))))) (by kernel_rfl), .same (by kernel_rfl)⟩
        · have h := some_of h
          subst h
          exact ⟨[.br true, .res (stamp_Stamp_Fork_out b t n2 t2 (b2, t3, n3, t4, b3, t5, n4, t6, n5)), .br false, .br false, .br false, .br false, .br false], kinfolklaw04_StampLimits_L1_st turns ((iadd .i64 n 1), b2, t3, n3, t4), .k0 (an_ h1 (an_ (stamp_Stamp_Fork_runs N b t n2 t2 _ h2) (an_ (not_of2 h3) (an_ (not_of2 h4) (an_ (rfl : false = false) (an_ (not_of2 h4) (an_ h5 (an_ (rfl : true = true) (an_ h6 trivial))))))))) (by kernel_rfl), .same (by kernel_rfl)⟩
      · rcases cond_of h with ⟨h5, h⟩ | ⟨h5, h⟩
        · have h := some_of h
          subst h
          exact ⟨[.br true, .res (stamp_Stamp_Fork_out b t n2 t2 (b2, t3, n3, t4, b3, t5, n4, t6, n5)), .br false, .br true, .br false, .br true], kinfolklaw04_StampLimits_L1_st turns ((iadd .i64 n 1), b, t, n2, t2), .k0 (an_ h1 (an_ (stamp_Stamp_Fork_runs N b t n2 t2 _ h2) (an_ (not_of2 h3) (an_ (not_of h4) (an_ (not_of2 h5) (an_ (not_of h4) trivial)))))) (by kernel_rfl), .same (by kernel_rfl)⟩
        · have h := some_of h
          subst h
          exact ⟨[.br true, .res (stamp_Stamp_Fork_out b t n2 t2 (b2, t3, n3, t4, b3, t5, n4, t6, n5)), .br false, .br true, .br true], (kinfolklaw04_StampLimits_L1_ex turns (.inl ())).2, .k0 (an_ h1 (an_ (stamp_Stamp_Fork_runs N b t n2 t2 _ h2) (an_ (not_of2 h3) (an_ (not_of h4) (an_ (not_of h5) trivial))))) (by kernel_rfl), .same (by kernel_rfl)⟩
    · have h := some_of h
      subst h
      exact ⟨[.br true, .res (stamp_Stamp_Fork_out b t n2 t2 (b2, t3, n3, t4, b3, t5, n4, t6, n5)), .br true, .br true], (kinfolklaw04_StampLimits_L1_ex turns (.inl ())).2, .k0 (an_ h1 (an_ (stamp_Stamp_Fork_runs N b t n2 t2 _ h2) (an_ (not_of h3) (an_ (rfl : true = true) trivial)))) (by kernel_rfl), .same (by kernel_rfl)⟩
  · have h := some_of h
    subst h
    exact ⟨[.br false], ⟨[(64, (.av (.one (.pv (.bool false))))), (1, (.av (.one (.pv (.int .u16 turns))))), (7, (.av (.one (.ref 0 0)))), (63, (.av (.one (.pv (.int .i64 n))))), (64, (.av (.one (.pv (.bool (decide ((n : Int) < 18)))))))], [(0, [(.pv (.bool b)), (.pv (T_id_halves.pv t)), (.pv (.int .u64 n2)), (.pv (T_event_halves.pv t2))])], []⟩, .k0 (an_ h1 trivial) (by kernel_rfl), ⟨⟨⟨_, rfl, .eq rfl⟩, trivial⟩, ⟨⟨rfl, ⟨.eq rfl, .eq rfl, .eq rfl, .eq rfl, trivial⟩⟩, trivial⟩, trivial⟩⟩
theorem kinfolklaw04_StampLimits_L1_runs (N : Nat) (turns : Int) (s_ : Int × Bool × T_id_halves × Int × T_event_halves) (r_ : (Unit) ⊕ (Bool × T_id_halves × Int × T_event_halves)) (h : runL (kinfolklaw04_StampLimits_L1_step N turns) s_ = some r_) : LRuns Tryd.prog (lEnv Tryd.prog cfg 5 0).nt 0 (.loop (loopAt Tryd.prog 5 1)) (kinfolklaw04_StampLimits_L1_st turns s_) (kinfolklaw04_StampLimits_L1_ex turns r_).1 (kinfolklaw04_StampLimits_L1_ex turns r_).2 :=
  loop_run h (kinfolklaw04_StampLimits_L1_ok N turns) (by intro r_; rcases r_ with _ | ⟨r1, r2, r3, r4⟩ <;> simp [kinfolklaw04_StampLimits_L1_ex])
/-! ### kinfolklaw04_StampLimits -/
noncomputable def kinfolklaw04_StampLimits (N : Nat) (n : Int) (turns : Int) : Option (Bool) :=
  (kinfolklaw04_awake N).bind fun b =>
  bif b then
    (event_Leaf (isub .u64 1048576 (IntKind.u64.wrap (irem .u8 n 3)))).bind fun (n2, n3) =>
    (id_One).bind fun _ =>
    (runL (kinfolklaw04_StampLimits_L0_step N n turns) (0, n2, T_event_halves.nil)).bind fun z_ => match z_ with
    | .inl _ =>
      some false
    | .inr (n4, t) =>
      (stamp_Seed).bind fun _ =>
      (runL (kinfolklaw04_StampLimits_L1_step N turns) (0, true, T_id_halves.nil, 0, T_event_halves.nil)).bind fun z_ => match z_ with
      | .inl _ =>
        some false
      | .inr (b2, t2, n5, t3) =>
        (stamp_Stamp_Tick N b2 t2 n5 t3).bind fun (n6, t4, n7) =>
        bif (decide ((n7 : Int) = 0)) then
          (event_Event_Depth N n6 t4).bind fun n8 =>
          bif (decide ((n8 : Int) = 16)) then
            (event_Event_Max N n6 t4).bind fun n9 =>
            some (decide ((n9 : Int) = 1))
          else
            some false
        else
          some false
  else
    some false
theorem kinfolklaw04_StampLimits_runs (N : Nat) (n : Int) (turns : Int) (r_ : Bool) (h : kinfolklaw04_StampLimits N n turns = some r_) : Runs Tryd.prog 5 [(.one (.pv (.int .u8 n))), (.one (.pv (.int .u16 turns)))] [] [] (kinfolklaw04_StampLimits_out n turns r_) := by
  unfold kinfolklaw04_StampLimits at h
  obtain ⟨b, h1, h⟩ := bind_of h
  rcases cond_of h with ⟨h2, h⟩ | ⟨h2, h⟩
  · obtain ⟨⟨n2, n3⟩, h3, h⟩ := bind_of h
    obtain ⟨_, h4, h⟩ := bind_of h
    obtain ⟨z_, h5, h⟩ := bind_of h
    rcases z_ with _ | ⟨n4, t⟩
    · have h := some_of h
      subst h
      exact runs_of (C := cfg) (objs := []) (sc := [.res (kinfolklaw04_awake_out b), .br false, .res (event_Leaf_out (isub .u64 1048576 (IntKind.u64.wrap (irem .u8 n 3))) (n2, n3)), .res (id_One_out ()), .res (id_One_out ()), .res (id_One_out ()), .res (id_One_out ()), .lp (kinfolklaw04_StampLimits_L0_ex n turns (.inl ())).1 (kinfolklaw04_StampLimits_L0_ex n turns (.inl ())).2]) (.k1 (an_ (kinfolklaw04_awake_runs N _ h1) (an_ (not_of2 h2) (an_ (rfl : true = true) (an_ (event_Leaf_runs (isub .u64 1048576 (IntKind.u64.wrap (irem .u8 n 3))) _ h3) (an_ (id_One_runs _ h4) (an_ (id_One_runs _ h4) (an_ (id_One_runs _ h4) (an_ (id_One_runs _ h4) (an_ (kinfolklaw04_StampLimits_L0_runs N n turns _ _ h5) trivial))))))))) (by kernel_rfl) (by kernel_rfl))
    · obtain ⟨_, h6, h⟩ := bind_of h
      obtain ⟨z_, h7, h⟩ := bind_of h
      rcases z_ with _ | ⟨b2, t2, n5, t3⟩
      · have h := some_of h
        subst h
        exact runs_of (C := cfg) (objs := []) (sc := [.res (kinfolklaw04_awake_out b), .br false, .res (event_Leaf_out (isub .u64 1048576 (IntKind.u64.wrap (irem .u8 n 3))) (n2, n3)), .res (id_One_out ()), .res (id_One_out ()), .res (id_One_out ()), .res (id_One_out ()), .lp (kinfolklaw04_StampLimits_L0_ex n turns (.inr (n4, t))).1 (kinfolklaw04_StampLimits_L0_ex n turns (.inr (n4, t))).2, .res (stamp_Seed_out ()), .lp (kinfolklaw04_StampLimits_L1_ex turns (.inl ())).1 (kinfolklaw04_StampLimits_L1_ex turns (.inl ())).2]) (.k1 (an_ (kinfolklaw04_awake_runs N _ h1) (an_ (not_of2 h2) (an_ (rfl : true = true) (an_ (event_Leaf_runs (isub .u64 1048576 (IntKind.u64.wrap (irem .u8 n 3))) _ h3) (an_ (id_One_runs _ h4) (an_ (id_One_runs _ h4) (an_ (id_One_runs _ h4) (an_ (id_One_runs _ h4) (an_ (kinfolklaw04_StampLimits_L0_runs N n turns _ _ h5) (an_ (stamp_Seed_runs _ h6) (an_ (kinfolklaw04_StampLimits_L1_runs N turns _ _ h7) trivial))))))))))) (by kernel_rfl) (by kernel_rfl))
      · obtain ⟨⟨n6, t4, n7⟩, h8, h⟩ := bind_of h
        rcases cond_of h with ⟨h9, h⟩ | ⟨h9, h⟩
        · obtain ⟨n8, h10, h⟩ := bind_of h
          rcases cond_of h with ⟨h11, h⟩ | ⟨h11, h⟩
          · obtain ⟨n9, h12, h⟩ := bind_of h
            have h := some_of h
            subst h
            exact runs_of (C := cfg) (objs := []) (sc := [.res (kinfolklaw04_awake_out b), .br false, .res (event_Leaf_out (isub .u64 1048576 (IntKind.u64.wrap (irem .u8 n 3))) (n2, n3)), .res (id_One_out ()), .res (id_One_out ()), .res (id_One_out ()), .res (id_One_out ()), .lp (kinfolklaw04_StampLimits_L0_ex n turns (.inr (n4, t))).1 (kinfolklaw04_StampLimits_L0_ex n turns (.inr (n4, t))).2, .res (stamp_Seed_out ()), .lp (kinfolklaw04_StampLimits_L1_ex turns (.inr (b2, t2, n5, t3))).1 (kinfolklaw04_StampLimits_L1_ex turns (.inr (b2, t2, n5, t3))).2, .res (stamp_Stamp_Tick_out b2 t2 n5 t3 (n6, t4, n7)), .br true, .res (event_Event_Depth_out n6 t4 n8), .br true, .res (event_Event_Max_out n6 t4 n9)]) (.k1 (an_ (kinfolklaw04_awake_runs N _ h1) (an_ (not_of2 h2) (an_ (rfl : true = true) (an_ (event_Leaf_runs (isub .u64 1048576 (IntKind.u64.wrap (irem .u8 n 3))) _ h3) (an_ (id_One_runs _ h4) (an_ (id_One_runs _ h4) (an_ (id_One_runs _ h4) (an_ (id_One_runs _ h4) (an_ (kinfolklaw04_StampLimits_L0_runs N n turns _ _ h5) (an_ (stamp_Seed_runs _ h6) (an_ (kinfolklaw04_StampLimits_L1_runs N turns _ _ h7) (an_ (stamp_Stamp_Tick_runs N b2 t2 n5 t3 _ h8) (an_ h9 (an_ (event_Event_Depth_runs N n6 t4 _ h10) (an_ h11 (an_ (event_Event_Max_runs N n6 t4 _ h12) trivial)))))))))))))))) (by kernel_rfl) (by kernel_rfl))
          · have h := some_of h
            subst h
            exact runs_of (C := cfg) (objs := []) (sc := [.res (kinfolklaw04_awake_out b), .br false, .res (event_Leaf_out (isub .u64 1048576 (IntKind.u64.wrap (irem .u8 n 3))) (n2, n3)), .res (id_One_out ()), .res (id_One_out ()), .res (id_One_out ()), .res (id_One_out ()), .lp (kinfolklaw04_StampLimits_L0_ex n turns (.inr (n4, t))).1 (kinfolklaw04_StampLimits_L0_ex n turns (.inr (n4, t))).2, .res (stamp_Seed_out ()), .lp (kinfolklaw04_StampLimits_L1_ex turns (.inr (b2, t2, n5, t3))).1 (kinfolklaw04_StampLimits_L1_ex turns (.inr (b2, t2, n5, t3))).2, .res (stamp_Stamp_Tick_out b2 t2 n5 t3 (n6, t4, n7)), .br true, .res (event_Event_Depth_out n6 t4 n8), .br false]) (.k1 (an_ (kinfolklaw04_awake_runs N _ h1) (an_ (not_of2 h2) (an_ (rfl : true = true) (an_ (event_Leaf_runs (isub .u64 1048576 (IntKind.u64.wrap (irem .u8 n 3))) _ h3) (an_ (id_One_runs _ h4) (an_ (id_One_runs _ h4) (an_ (id_One_runs _ h4) (an_ (id_One_runs _ h4) (an_ (kinfolklaw04_StampLimits_L0_runs N n turns _ _ h5) (an_ (stamp_Seed_runs _ h6) (an_ (kinfolklaw04_StampLimits_L1_runs N turns _ _ h7) (an_ (stamp_Stamp_Tick_runs N b2 t2 n5 t3 _ h8) (an_ h9 (an_ (event_Event_Depth_runs N n6 t4 _ h10) (an_ h11 trivial))))))))))))))) (by kernel_rfl) (by kernel_rfl))
        · have h := some_of h
          subst h
          exact runs_of (C := cfg) (objs := []) (sc := [.res (kinfolklaw04_awake_out b), .br false, .res (event_Leaf_out (isub .u64 1048576 (IntKind.u64.wrap (irem .u8 n 3))) (n2, n3)), .res (id_One_out ()), .res (id_One_out ()), .res (id_One_out ()), .res (id_One_out ()), .lp (kinfolklaw04_StampLimits_L0_ex n turns (.inr (n4, t))).1 (kinfolklaw04_StampLimits_L0_ex n turns (.inr (n4, t))).2, .res (stamp_Seed_out ()), .lp (kinfolklaw04_StampLimits_L1_ex turns (.inr (b2, t2, n5, t3))).1 (kinfolklaw04_StampLimits_L1_ex turns (.inr (b2, t2, n5, t3))).2, .res (stamp_Stamp_Tick_out b2 t2 n5 t3 (n6, t4, n7)), .br false, .br false]) (.k1 (an_ (kinfolklaw04_awake_runs N _ h1) (an_ (not_of2 h2) (an_ (rfl : true = true) (an_ (event_Leaf_runs (isub .u64 1048576 (IntKind.u64.wrap (irem .u8 n 3))) _ h3) (an_ (id_One_runs _ h4) (an_ (id_One_runs _ h4) (an_ (id_One_runs _ h4) (an_ (id_One_runs _ h4) (an_ (kinfolklaw04_StampLimits_L0_runs N n turns _ _ h5) (an_ (stamp_Seed_runs _ h6) (an_ (kinfolklaw04_StampLimits_L1_runs N turns _ _ h7) (an_ (stamp_Stamp_Tick_runs N b2 t2 n5 t3 _ h8) (an_ h9 (an_ (rfl : false = false) trivial)))))))))))))) (by kernel_rfl) (by kernel_rfl))
  · have h := some_of h
    subst h
    exact runs_of (C := cfg) (objs := []) (sc := [.res (kinfolklaw04_awake_out b), .br true]) (.k0 (an_ (kinfolklaw04_awake_runs N _ h1) (an_ (not_of h2) trivial)) (by kernel_rfl))
/-! ### kinfolklaw04_StampTicks_out -/
def kinfolklaw04_StampTicks_out (p : List Int) (q : List Int) : Bool → Res
  | r1 => ([(.one (.pv (.bool r1)))], [], [])
/-! ### kinfolkref04_Tick_out -/
def kinfolkref04_Tick_out (s : T_kinfolkref01_ID) (s2 : T_kinfolkref02_Event) : T_kinfolkref02_Event × Int → Res
  | (r1, r2) => ([(.agg [(.pv (T_kinfolkref01_ID.pv s)), (.pv (T_kinfolkref02_Event.pv r1))]), (.one (.pv (.int .i64 r2)))], [], [])
/-! ### kinfolkref02_Same_out -/
def kinfolkref02_Same_out (a : T_kinfolkref02_Event) (b : T_kinfolkref02_Event) : Bool → Res
  | r1 => ([(.one (.pv (.bool r1)))], [], [])
/-! ### kinfolkref02_Leq_out -/
def kinfolkref02_Leq_out (a : T_kinfolkref02_Event) (b : T_kinfolkref02_Event) : Bool → Res
  | r1 => ([(.one (.pv (.bool r1)))], [], [])
/-! ### kinfolkref02_Leq -/
noncomputable def kinfolkref02_Leq_b (rec_kinfolkref02_Leq : T_kinfolkref02_Event → T_kinfolkref02_Event → Option (Bool)) (a : T_kinfolkref02_Event) (b : T_kinfolkref02_Event) : Option (Bool) :=
  match a with
  | .nil =>
    none
  | .mk n t t2 =>
    match t with
    | .nil =>
      match b with
      | .nil =>
        none
      | .mk n2 t3 t4 =>
        match t3 with
        | .nil =>
          some (decide ((n : Int) ≤ n2))
        | .mk n3 t5 t6 =>
          (kinfolkref02_Left a).bind fun t7 =>
          (kinfolkref02_Left b).bind fun t8 =>
          (rec_kinfolkref02_Leq t7 t8).bind fun b2 =>
          bif b2 then
            (kinfolkref02_Right a).bind fun t9 =>
            (kinfolkref02_Right b).bind fun t10 =>
            (rec_kinfolkref02_Leq t9 t10).bind fun b3 =>
            some b3
          else
            some false
    | .mk n2 t3 t4 =>
      (kinfolkref02_Left a).bind fun t5 =>
      (kinfolkref02_Left b).bind fun t6 =>
      (rec_kinfolkref02_Leq t5 t6).bind fun b2 =>
      bif b2 then
        (kinfolkref02_Right a).bind fun t7 =>
        (kinfolkref02_Right b).bind fun t8 =>
        (rec_kinfolkref02_Leq t7 t8).bind fun b3 =>
        some b3
      else
        some false
theorem kinfolkref02_Leq_b_runs (rec_kinfolkref02_Leq : T_kinfolkref02_Event → T_kinfolkref02_Event → Option (Bool)) (hrec_kinfolkref02_Leq : ∀ a b r_, rec_kinfolkref02_Leq a b = some r_ → Runs Tryd.prog 142 [(.one (.pv (T_kinfolkref02_Event.pv a))), (.one (.pv (T_kinfolkref02_Event.pv b)))] [] [] (kinfolkref02_Leq_out a b r_)) (a : T_kinfolkref02_Event) (b : T_kinfolkref02_Event) (r_ : Bool) (h : kinfolkref02_Leq_b rec_kinfolkref02_Leq a b = some r_) : Runs Tryd.prog 142 [(.one (.pv (T_kinfolkref02_Event.pv a))), (.one (.pv (T_kinfolkref02_Event.pv b)))] [] [] (kinfolkref02_Leq_out a b r_) := by
  unfold kinfolkref02_Leq_b at h
  cases a with
  | nil =>
    cases h
  | mk n t t2 =>
    cases t with
    | nil =>
      cases b with
      | nil =>
        cases h
      | mk n2 t3 t4 =>
        cases t3 with
        | nil =>
          have h := some_of h
          subst h
          exact runs_of (C := cfg) (objs := []) (sc := [.br true, .br true]) (.k0 (an_ (rfl : true = true) (an_ (rfl : true = true) trivial)) (by kernel_rfl))
        | mk n3 t5 t6 =>
          obtain ⟨t7, h1, h⟩ := bind_of h
          obtain ⟨t8, h2, h⟩ := bind_of h
          obtain ⟨b2, h3, h⟩ := bind_of h
          rcases cond_of h with ⟨h4, h⟩ | ⟨h4, h⟩
          · obtain ⟨t9, h5, h⟩ := bind_of h
            obtain ⟨t10, h6, h⟩ := bind_of h
            obtain ⟨b3, h7, h⟩ := bind_of h
            have h := some_of h
            subst h
            exact runs_of (C := cfg) (objs := []) (sc := [.br true, .br false, .res (kinfolkref02_Left_out (T_kinfolkref02_Event.mk n T_kinfolkref02_Event.nil t2) t7), .res (kinfolkref02_Left_out (T_kinfolkref02_Event.mk n2 (T_kinfolkref02_Event.mk n3 t5 t6) t4) t8), .res (kinfolkref02_Leq_out t7 t8 b2), .br true, .res (kinfolkref02_Right_out (T_kinfolkref02_Event.mk n T_kinfolkref02_Event.nil t2) t9), .res (kinfolkref02_Right_out (T_kinfolkref02_Event.mk n2 (T_kinfolkref02_Event.mk n3 t5 t6) t4) t10), .res (kinfolkref02_Leq_out t9 t10 b3)]) (.k0 (an_ (rfl : true = true) (an_ (rfl : false = false) (an_ (kinfolkref02_Left_runs (T_kinfolkref02_Event.mk n T_kinfolkref02_Event.nil t2) _ h1) (an_ (kinfolkref02_Left_runs (T_kinfolkref02_Event.mk n2 (T_kinfolkref02_Event.mk n3 t5 t6) t4) _ h2) (an_ (hrec_kinfolkref02_Leq t7 t8 _ h3) (an_ h4 (an_ (kinfolkref02_Right_runs (T_kinfolkref02_Event.mk n T_kinfolkref02_Event.nil t2) _ h5) (an_ (kinfolkref02_Right_runs (T_kinfolkref02_Event.mk n2 (T_kinfolkref02_Event.mk n3 t5 t6) t4) _ h6) (an_ (hrec_kinfolkref02_Leq t9 t10 _ h7) trivial))))))))) (by kernel_rfl))
          · have h := some_of h
            subst h
            exact runs_of (C := cfg) (objs := []) (sc := [.br true, .br false, .res (kinfolkref02_Left_out (T_kinfolkref02_Event.mk n T_kinfolkref02_Event.nil t2) t7), .res (kinfolkref02_Left_out (T_kinfolkref02_Event.mk n2 (T_kinfolkref02_Event.mk n3 t5 t6) t4) t8), .res (kinfolkref02_Leq_out t7 t8 b2), .br false]) (.k0 (an_ (rfl : true = true) (an_ (rfl : false = false) (an_ (kinfolkref02_Left_runs (T_kinfolkref02_Event.mk n T_kinfolkref02_Event.nil t2) _ h1) (an_ (kinfolkref02_Left_runs (T_kinfolkref02_Event.mk n2 (T_kinfolkref02_Event.mk n3 t5 t6) t4) _ h2) (an_ (hrec_kinfolkref02_Leq t7 t8 _ h3) (an_ h4 trivial)))))) (by kernel_rfl))
    | mk n2 t3 t4 =>
      obtain ⟨t5, h1, h⟩ := bind_of h
      obtain ⟨t6, h2, h⟩ := bind_of h
      obtain ⟨b2, h3, h⟩ := bind_of h
      rcases cond_of h with ⟨h4, h⟩ | ⟨h4, h⟩
      · obtain ⟨t7, h5, h⟩ := bind_of h
        obtain ⟨t8, h6, h⟩ := bind_of h
        obtain ⟨b3, h7, h⟩ := bind_of h
        have h := some_of h
        subst h
        exact runs_of (C := cfg) (objs := []) (sc := [.br false, .br false, .res (kinfolkref02_Left_out (T_kinfolkref02_Event.mk n (T_kinfolkref02_Event.mk n2 t3 t4) t2) t5), .res (kinfolkref02_Left_out b t6), .res (kinfolkref02_Leq_out t5 t6 b2), .br true, .res (kinfolkref02_Right_out (T_kinfolkref02_Event.mk n (T_kinfolkref02_Event.mk n2 t3 t4) t2) t7), .res (kinfolkref02_Right_out b t8), .res (kinfolkref02_Leq_out t7 t8 b3)]) (.k0 (an_ (rfl : false = false) (an_ (rfl : false = false) (an_ (kinfolkref02_Left_runs (T_kinfolkref02_Event.mk n (T_kinfolkref02_Event.mk n2 t3 t4) t2) _ h1) (an_ (kinfolkref02_Left_runs b _ h2) (an_ (hrec_kinfolkref02_Leq t5 t6 _ h3) (an_ h4 (an_ (kinfolkref02_Right_runs (T_kinfolkref02_Event.mk n (T_kinfolkref02_Event.mk n2 t3 t4) t2) _ h5) (an_ (kinfolkref02_Right_runs b _ h6) (an_ (hrec_kinfolkref02_Leq t7 t8 _ h7) trivial))))))))) (by kernel_rfl))
      · have h := some_of h
        subst h
        exact runs_of (C := cfg) (objs := []) (sc := [.br false, .br false, .res (kinfolkref02_Left_out (T_kinfolkref02_Event.mk n (T_kinfolkref02_Event.mk n2 t3 t4) t2) t5), .res (kinfolkref02_Left_out b t6), .res (kinfolkref02_Leq_out t5 t6 b2), .br false]) (.k0 (an_ (rfl : false = false) (an_ (rfl : false = false) (an_ (kinfolkref02_Left_runs (T_kinfolkref02_Event.mk n (T_kinfolkref02_Event.mk n2 t3 t4) t2) _ h1) (an_ (kinfolkref02_Left_runs b _ h2) (an_ (hrec_kinfolkref02_Leq t5 t6 _ h3) (an_ h4 trivial)))))) (by kernel_rfl))
noncomputable def kinfolkref02_Leq : Nat → T_kinfolkref02_Event → T_kinfolkref02_Event → Option (Bool)
  | 0, _, _ => none
  | N + 1, a, b => kinfolkref02_Leq_b (kinfolkref02_Leq N) a b
theorem kinfolkref02_Leq_runs : ∀ (N : Nat) (a : T_kinfolkref02_Event) (b : T_kinfolkref02_Event) (r_ : Bool), kinfolkref02_Leq N a b = some r_ → Runs Tryd.prog 142 [(.one (.pv (T_kinfolkref02_Event.pv a))), (.one (.pv (T_kinfolkref02_Event.pv b)))] [] [] (kinfolkref02_Leq_out a b r_)
  | 0, _, _, _, h => by cases h
  | N + 1, a, b, r_, h => kinfolkref02_Leq_b_runs (kinfolkref02_Leq N) (kinfolkref02_Leq_runs N) a b r_ h
/-! ### kinfolkref02_Same -/
noncomputable def kinfolkref02_Same (N : Nat) (a : T_kinfolkref02_Event) (b : T_kinfolkref02_Event) : Option (Bool) :=
  (kinfolkref02_Leq N a b).bind fun b2 =>
  bif b2 then
    (kinfolkref02_Leq N b a).bind fun b3 =>
    some b3
  else
    some false
theorem kinfolkref02_Same_runs (N : Nat) (a : T_kinfolkref02_Event) (b : T_kinfolkref02_Event) (r_ : Bool) (h : kinfolkref02_Same N a b = some r_) : Runs Tryd.prog 107 [(.one (.pv (T_kinfolkref02_Event.pv a))), (.one (.pv (T_kinfolkref02_Event.pv b)))] [] [] (kinfolkref02_Same_out a b r_) := by
  unfold kinfolkref02_Same at h
  obtain ⟨b2, h1, h⟩ := bind_of h
  rcases cond_of h with ⟨h2, h⟩ | ⟨h2, h⟩
  · obtain ⟨b3, h3, h⟩ := bind_of h
    have h := some_of h
    subst h
    exact runs_of (C := cfg) (objs := []) (sc := [.res (kinfolkref02_Leq_out a b b2), .br true, .res (kinfolkref02_Leq_out b a b3)]) (.k0 (an_ (kinfolkref02_Leq_runs N a b _ h1) (an_ h2 (an_ (kinfolkref02_Leq_runs N b a _ h3) trivial))) (by kernel_rfl))
  · have h := some_of h
    subst h
    exact runs_of (C := cfg) (objs := []) (sc := [.res (kinfolkref02_Leq_out a b b2), .br false]) (.k0 (an_ (kinfolkref02_Leq_runs N a b _ h1) (an_ h2 trivial)) (by kernel_rfl))
/-! ### kinfolkref02_Check_out -/
def kinfolkref02_Check_out (e : T_kinfolkref02_Event) : Int → Res
  | r1 => ([(.one (.pv (.int .i64 r1)))], [], [])
/-! ### kinfolkref02_Depth_out -/
def kinfolkref02_Depth_out (e : T_kinfolkref02_Event) : Int → Res
  | r1 => ([(.one (.pv (.int .i64 r1)))], [], [])
/-! ### kinfolkref02_Depth -/
noncomputable def kinfolkref02_Depth_b (rec_kinfolkref02_Depth : T_kinfolkref02_Event → Option (Int)) (e : T_kinfolkref02_Event) : Option (Int) :=
  match e with
  | .nil =>
    none
  | .mk n t t2 =>
    match t with
    | .nil =>
      some 0
    | .mk n2 t3 t4 =>
      (rec_kinfolkref02_Depth t).bind fun n3 =>
      (rec_kinfolkref02_Depth t2).bind fun n4 =>
      bif (decide ((n4 : Int) < n3)) then
        some (iadd .i64 1 n3)
      else
        some (iadd .i64 1 n4)
theorem kinfolkref02_Depth_b_runs (rec_kinfolkref02_Depth : T_kinfolkref02_Event → Option (Int)) (hrec_kinfolkref02_Depth : ∀ e r_, rec_kinfolkref02_Depth e = some r_ → Runs Tryd.prog 57 [(.one (.pv (T_kinfolkref02_Event.pv e)))] [] [] (kinfolkref02_Depth_out e r_)) (e : T_kinfolkref02_Event) (r_ : Int) (h : kinfolkref02_Depth_b rec_kinfolkref02_Depth e = some r_) : Runs Tryd.prog 57 [(.one (.pv (T_kinfolkref02_Event.pv e)))] [] [] (kinfolkref02_Depth_out e r_) := by
  unfold kinfolkref02_Depth_b at h
  cases e with
  | nil =>
    cases h
  | mk n t t2 =>
    cases t with
    | nil =>
      have h := some_of h
      subst h
      exact runs_of (C := cfg) (objs := []) (sc := [.br true]) (.k0 (an_ (rfl : true = true) trivial) (by kernel_rfl))
    | mk n2 t3 t4 =>
      obtain ⟨n3, h1, h⟩ := bind_of h
      obtain ⟨n4, h2, h⟩ := bind_of h
      rcases cond_of h with ⟨h3, h⟩ | ⟨h3, h⟩
      · have h := some_of h
        subst h
        exact runs_of (C := cfg) (objs := []) (sc := [.br false, .res (kinfolkref02_Depth_out (T_kinfolkref02_Event.mk n2 t3 t4) n3), .res (kinfolkref02_Depth_out t2 n4), .br true]) (.k0 (an_ (rfl : false = false) (an_ (hrec_kinfolkref02_Depth (T_kinfolkref02_Event.mk n2 t3 t4) _ h1) (an_ (hrec_kinfolkref02_Depth t2 _ h2) (an_ h3 trivial)))) (by kernel_rfl))
      · have h := some_of h
        subst h
        exact runs_of (C := cfg) (objs := []) (sc := [.br false, .res (kinfolkref02_Depth_out (T_kinfolkref02_Event.mk n2 t3 t4) n3), .res (kinfolkref02_Depth_out t2 n4), .br false]) (.k0 (an_ (rfl : false = false) (an_ (hrec_kinfolkref02_Depth (T_kinfolkref02_Event.mk n2 t3 t4) _ h1) (an_ (hrec_kinfolkref02_Depth t2 _ h2) (an_ h3 trivial)))) (by kernel_rfl))
noncomputable def kinfolkref02_Depth : Nat → T_kinfolkref02_Event → Option (Int)
  | 0, _ => none
  | N + 1, e => kinfolkref02_Depth_b (kinfolkref02_Depth N) e
theorem kinfolkref02_Depth_runs : ∀ (N : Nat) (e : T_kinfolkref02_Event) (r_ : Int), kinfolkref02_Depth N e = some r_ → Runs Tryd.prog 57 [(.one (.pv (T_kinfolkref02_Event.pv e)))] [] [] (kinfolkref02_Depth_out e r_)
  | 0, _, _, h => by cases h
  | N + 1, e, r_, h => kinfolkref02_Depth_b_runs (kinfolkref02_Depth N) (kinfolkref02_Depth_runs N) e r_ h
/-! ### kinfolkref02_Check -/
noncomputable def kinfolkref02_Check (N : Nat) (e : T_kinfolkref02_Event) : Option (Int) :=
  (kinfolkref02_Depth N e).bind fun n =>
  bif (decide ((16 : Int) < n)) then
    some 3
  else
    (kinfolkref02_Max N e).bind fun n2 =>
    bif (decide ((1048576 : Int) < n2)) then
      some 4
    else
      some 0
theorem kinfolkref02_Check_runs (N : Nat) (e : T_kinfolkref02_Event) (r_ : Int) (h : kinfolkref02_Check N e = some r_) : Runs Tryd.prog 108 [(.one (.pv (T_kinfolkref02_Event.pv e)))] [] [] (kinfolkref02_Check_out e r_) := by
  unfold kinfolkref02_Check at h
  obtain ⟨n, h1, h⟩ := bind_of h
  rcases cond_of h with ⟨h2, h⟩ | ⟨h2, h⟩
  · have h := some_of h
    subst h
    exact runs_of (C := cfg) (objs := []) (sc := [.res (kinfolkref02_Depth_out e n), .br true]) (.k0 (an_ (kinfolkref02_Depth_runs N e _ h1) (an_ h2 trivial)) (by kernel_rfl))
  · obtain ⟨n2, h3, h⟩ := bind_of h
    rcases cond_of h with ⟨h4, h⟩ | ⟨h4, h⟩
    · have h := some_of h
      subst h
      exact runs_of (C := cfg) (objs := []) (sc := [.res (kinfolkref02_Depth_out e n), .br false, .res (kinfolkref02_Max_out e n2), .br true]) (.k0 (an_ (kinfolkref02_Depth_runs N e _ h1) (an_ h2 (an_ (kinfolkref02_Max_runs N e _ h3) (an_ h4 trivial)))) (by kernel_rfl))
    · have h := some_of h
      subst h
      exact runs_of (C := cfg) (objs := []) (sc := [.res (kinfolkref02_Depth_out e n), .br false, .res (kinfolkref02_Max_out e n2), .br false]) (.k0 (an_ (kinfolkref02_Depth_runs N e _ h1) (an_ h2 (an_ (kinfolkref02_Max_runs N e _ h3) (an_ h4 trivial)))) (by kernel_rfl))
/-! ### kinfolkref04_Tick -/
noncomputable def kinfolkref04_Tick (N : Nat) (s : T_kinfolkref01_ID) (s2 : T_kinfolkref02_Event) : Option (T_kinfolkref02_Event × Int) :=
  (kinfolkref04_Fill N s s2).bind fun t =>
  (kinfolkref02_Same N t s2).bind fun b =>
  bif b then
    match s with
    | .nil =>
      none
    | .mk n t2 t3 =>
      bif (decide ((n : Int) = 0)) then
        some (s2, 2)
      else
        (kinfolkref04_Grow N s s2).bind fun (t4, n2) =>
        (kinfolkref02_Check N t4).bind fun n3 =>
        bif (decide ((n3 : Int) = 0)) then
          some (t4, 0)
        else
          some (s2, n3)
  else
    some (t, 0)
theorem kinfolkref04_Tick_runs (N : Nat) (s : T_kinfolkref01_ID) (s2 : T_kinfolkref02_Event) (r_ : T_kinfolkref02_Event × Int) (h : kinfolkref04_Tick N s s2 = some r_) : Runs Tryd.prog 38 [(.agg [(.pv (T_kinfolkref01_ID.pv s)), (.pv (T_kinfolkref02_Event.pv s2))])] [] [] (kinfolkref04_Tick_out s s2 r_) := by
  unfold kinfolkref04_Tick at h
  obtain ⟨t, h1, h⟩ := bind_of h
  obtain ⟨b, h2, h⟩ := bind_of h
  rcases cond_of h with ⟨h3, h⟩ | ⟨h3, h⟩
  · cases s with
    | nil =>
      cases h
    | mk n t2 t3 =>
      rcases cond_of h with ⟨h4, h⟩ | ⟨h4, h⟩
      · have h := some_of h
        subst h
        exact runs_of (C := cfg) (objs := []) (sc := [.res (kinfolkref04_Fill_out (T_kinfolkref01_ID.mk n t2 t3) s2 t), .res (kinfolkref02_Same_out t s2 b), .br false, .br true]) (.k0 (an_ (kinfolkref04_Fill_runs N (T_kinfolkref01_ID.mk n t2 t3) s2 _ h1) (an_ (kinfolkref02_Same_runs N t s2 _ h2) (an_ (not_of2 h3) (an_ h4 trivial)))) (by kernel_rfl))
      · obtain ⟨⟨t4, n2⟩, h5, h⟩ := bind_of h
        obtain ⟨n3, h6, h⟩ := bind_of h
        rcases cond_of h with ⟨h7, h⟩ | ⟨h7, h⟩
        · have h := some_of h
          subst h
          exact runs_of (C := cfg) (objs := []) (sc := [.res (kinfolkref04_Fill_out (T_kinfolkref01_ID.mk n t2 t3) s2 t), .res (kinfolkref02_Same_out t s2 b), .br false, .br false, .res (kinfolkref04_Grow_out (T_kinfolkref01_ID.mk n t2 t3) s2 (t4, n2)), .res (kinfolkref02_Check_out t4 n3), .br false]) (.k0 (an_ (kinfolkref04_Fill_runs N (T_kinfolkref01_ID.mk n t2 t3) s2 _ h1) (an_ (kinfolkref02_Same_runs N t s2 _ h2) (an_ (not_of2 h3) (an_ h4 (an_ (kinfolkref04_Grow_runs N (T_kinfolkref01_ID.mk n t2 t3) s2 _ h5) (an_ (kinfolkref02_Check_runs N t4 _ h6) (an_ (not_of2 h7) trivial))))))) (by kernel_rfl))
        · have h := some_of h
          subst h
          exact runs_of (C := cfg) (objs := []) (sc := [.res (kinfolkref04_Fill_out (T_kinfolkref01_ID.mk n t2 t3) s2 t), .res (kinfolkref02_Same_out t s2 b), .br false, .br false, .res (kinfolkref04_Grow_out (T_kinfolkref01_ID.mk n t2 t3) s2 (t4, n2)), .res (kinfolkref02_Check_out t4 n3), .br true]) (.k0 (an_ (kinfolkref04_Fill_runs N (T_kinfolkref01_ID.mk n t2 t3) s2 _ h1) (an_ (kinfolkref02_Same_runs N t s2 _ h2) (an_ (not_of2 h3) (an_ h4 (an_ (kinfolkref04_Grow_runs N (T_kinfolkref01_ID.mk n t2 t3) s2 _ h5) (an_ (kinfolkref02_Check_runs N t4 _ h6) (an_ (not_of h7) trivial))))))) (by kernel_rfl))
  · have h := some_of h
    subst h
    exact runs_of (C := cfg) (objs := []) (sc := [.res (kinfolkref04_Fill_out s s2 t), .res (kinfolkref02_Same_out t s2 b), .br true]) (.k0 (an_ (kinfolkref04_Fill_runs N s s2 _ h1) (an_ (kinfolkref02_Same_runs N t s2 _ h2) (an_ (not_of h3) trivial))) (by kernel_rfl))
/-! ### kinfolklaw04_like_out -/
def kinfolklaw04_like_out (s : Bool) (s2 : T_id_halves) (s3 : Int) (s4 : T_event_halves) (x : T_kinfolkref01_ID) (x2 : T_kinfolkref02_Event) : Bool → Res
  | r1 => ([(.one (.pv (.bool r1)))], [], [])
/-! ### kinfolkref04_Text_out -/
def kinfolkref04_Text_out (s : T_kinfolkref01_ID) (s2 : T_kinfolkref02_Event) : ByteArray → Res
  | r1 => ([(.one (.pv (.str r1)))], [], [])
/-! ### kinfolkref01_Text_out -/
def kinfolkref01_Text_out (i : T_kinfolkref01_ID) : ByteArray → Res
  | r1 => ([(.one (.pv (.str r1)))], [], [])
/-! ### kinfolkref01_Text -/
noncomputable def kinfolkref01_Text_b (rec_kinfolkref01_Text : T_kinfolkref01_ID → Option (ByteArray)) (i : T_kinfolkref01_ID) : Option (ByteArray) :=
  match i with
  | .nil =>
    none
  | .mk n t t2 =>
    bif (decide ((n : Int) = 0)) then
      some (⟨#[48]⟩ : ByteArray)
    else
      bif (decide ((n : Int) = 1)) then
        some (⟨#[49]⟩ : ByteArray)
      else
        (rec_kinfolkref01_Text t).bind fun s =>
        bif decide ((⟨#[40]⟩ : ByteArray).size + s.size ≤ 140737488355328) then
        bif decide (((⟨#[40]⟩ : ByteArray) ++ s).size + (⟨#[44]⟩ : ByteArray).size ≤ 140737488355328) then
        (rec_kinfolkref01_Text t2).bind fun s2 =>
        bif decide ((((⟨#[40]⟩ : ByteArray) ++ s) ++ (⟨#[44]⟩ : ByteArray)).size + s2.size ≤ 140737488355328) then
        bif decide (((((⟨#[40]⟩ : ByteArray) ++ s) ++ (⟨#[44]⟩ : ByteArray)) ++ s2).size + (⟨#[41]⟩ : ByteArray).size ≤ 140737488355328) then
        some (((((⟨#[40]⟩ : ByteArray) ++ s) ++ (⟨#[44]⟩ : ByteArray)) ++ s2) ++ (⟨#[41]⟩ : ByteArray))
        else none
        else none
        else none
        else none
theorem kinfolkref01_Text_b_runs (rec_kinfolkref01_Text : T_kinfolkref01_ID → Option (ByteArray)) (hrec_kinfolkref01_Text : ∀ i r_, rec_kinfolkref01_Text i = some r_ → Runs Tryd.prog 80 [(.one (.pv (T_kinfolkref01_ID.pv i)))] [] [] (kinfolkref01_Text_out i r_)) (i : T_kinfolkref01_ID) (r_ : ByteArray) (h : kinfolkref01_Text_b rec_kinfolkref01_Text i = some r_) : Runs Tryd.prog 80 [(.one (.pv (T_kinfolkref01_ID.pv i)))] [] [] (kinfolkref01_Text_out i r_) := by
  unfold kinfolkref01_Text_b at h
  cases i with
  | nil =>
    cases h
  | mk n t t2 =>
    rcases cond_of h with ⟨h1, h⟩ | ⟨h1, h⟩
    · have h := some_of h
      subst h
      exact runs_of (C := cfg) (objs := []) (sc := [.br true]) (.k0 (an_ h1 trivial) (by kernel_rfl))
    · rcases cond_of h with ⟨h2, h⟩ | ⟨h2, h⟩
      · have h := some_of h
        subst h
        exact runs_of (C := cfg) (objs := []) (sc := [.br false, .br true]) (.k0 (an_ h1 (an_ h2 trivial)) (by kernel_rfl))
      · obtain ⟨s, h3, h⟩ := bind_of h
        obtain ⟨h4, h⟩ := need_of h
        obtain ⟨h5, h⟩ := need_of h
        obtain ⟨s2, h6, h⟩ := bind_of h
        obtain ⟨h7, h⟩ := need_of h
        obtain ⟨h8, h⟩ := need_of h
        have h := some_of h
        subst h
        exact runs_of (C := cfg) (objs := []) (sc := [.br false, .br false, .res (kinfolkref01_Text_out t s), .res (kinfolkref01_Text_out t2 s2)]) (.k0 (an_ h1 (an_ h2 (an_ (hrec_kinfolkref01_Text t _ h3) (an_ h4 (an_ h5 (an_ (hrec_kinfolkref01_Text t2 _ h6) (an_ h7 (an_ h8 trivial)))))))) (by kernel_rfl))
noncomputable def kinfolkref01_Text : Nat → T_kinfolkref01_ID → Option (ByteArray)
  | 0, _ => none
  | N + 1, i => kinfolkref01_Text_b (kinfolkref01_Text N) i
theorem kinfolkref01_Text_runs : ∀ (N : Nat) (i : T_kinfolkref01_ID) (r_ : ByteArray), kinfolkref01_Text N i = some r_ → Runs Tryd.prog 80 [(.one (.pv (T_kinfolkref01_ID.pv i)))] [] [] (kinfolkref01_Text_out i r_)
  | 0, _, _, h => by cases h
  | N + 1, i, r_, h => kinfolkref01_Text_b_runs (kinfolkref01_Text N) (kinfolkref01_Text_runs N) i r_ h
/-! ### kinfolkref04_Text -/
noncomputable def kinfolkref04_Text (N : Nat) (s : T_kinfolkref01_ID) (s2 : T_kinfolkref02_Event) : Option (ByteArray) :=
  (kinfolkref01_Text N s).bind fun s3 =>
  bif decide ((⟨#[40]⟩ : ByteArray).size + s3.size ≤ 140737488355328) then
  bif decide (((⟨#[40]⟩ : ByteArray) ++ s3).size + (⟨#[59]⟩ : ByteArray).size ≤ 140737488355328) then
  (kinfolkref02_Text N s2).bind fun s4 =>
  bif decide ((((⟨#[40]⟩ : ByteArray) ++ s3) ++ (⟨#[59]⟩ : ByteArray)).size + s4.size ≤ 140737488355328) then
  bif decide (((((⟨#[40]⟩ : ByteArray) ++ s3) ++ (⟨#[59]⟩ : ByteArray)) ++ s4).size + (⟨#[41]⟩ : ByteArray).size ≤ 140737488355328) then
  some (((((⟨#[40]⟩ : ByteArray) ++ s3) ++ (⟨#[59]⟩ : ByteArray)) ++ s4) ++ (⟨#[41]⟩ : ByteArray))
  else none
  else none
  else none
  else none
theorem kinfolkref04_Text_runs (N : Nat) (s : T_kinfolkref01_ID) (s2 : T_kinfolkref02_Event) (r_ : ByteArray) (h : kinfolkref04_Text N s s2 = some r_) : Runs Tryd.prog 84 [(.agg [(.pv (T_kinfolkref01_ID.pv s)), (.pv (T_kinfolkref02_Event.pv s2))])] [] [] (kinfolkref04_Text_out s s2 r_) := by
  unfold kinfolkref04_Text at h
  obtain ⟨s3, h1, h⟩ := bind_of h
  obtain ⟨h2, h⟩ := need_of h
  obtain ⟨h3, h⟩ := need_of h
  obtain ⟨s4, h4, h⟩ := bind_of h
  obtain ⟨h5, h⟩ := need_of h
  obtain ⟨h6, h⟩ := need_of h
  have h := some_of h
  subst h
  exact runs_of (C := cfg) (objs := []) (sc := [.res (kinfolkref01_Text_out s s3), .res (kinfolkref01_Text_out s s3), .res (kinfolkref02_Text_out s2 s4)]) (.k1 (an_ (kinfolkref01_Text_runs N s _ h1) (an_ h2 (an_ (kinfolkref01_Text_runs N s _ h1) (an_ h2 (an_ h3 (an_ h3 (an_ (kinfolkref02_Text_runs N s2 _ h4) (an_ h5 (an_ h6 trivial))))))))) (by kernel_rfl) (by kernel_rfl))
/-! ### kinfolklaw04_like -/
noncomputable def kinfolklaw04_like (N : Nat) (s : Bool) (s2 : T_id_halves) (s3 : Int) (s4 : T_event_halves) (x : T_kinfolkref01_ID) (x2 : T_kinfolkref02_Event) : Option (Bool) :=
  (stamp_Stamp_Text N s s2 s3 s4).bind fun s5 =>
  (kinfolkref04_Text N x x2).bind fun s6 =>
  some (decide (s5 = s6))
theorem kinfolklaw04_like_runs (N : Nat) (s : Bool) (s2 : T_id_halves) (s3 : Int) (s4 : T_event_halves) (x : T_kinfolkref01_ID) (x2 : T_kinfolkref02_Event) (r_ : Bool) (h : kinfolklaw04_like N s s2 s3 s4 x x2 = some r_) : Runs Tryd.prog 39 [(.agg [(.pv (.bool s)), (.pv (T_id_halves.pv s2)), (.pv (.int .u64 s3)), (.pv (T_event_halves.pv s4))]), (.agg [(.pv (T_kinfolkref01_ID.pv x)), (.pv (T_kinfolkref02_Event.pv x2))])] [] [] (kinfolklaw04_like_out s s2 s3 s4 x x2 r_) := by
  unfold kinfolklaw04_like at h
  obtain ⟨s5, h1, h⟩ := bind_of h
  obtain ⟨s6, h2, h⟩ := bind_of h
  have h := some_of h
  subst h
  exact runs_of (C := cfg) (objs := []) (sc := [.res (stamp_Stamp_Text_out s s2 s3 s4 s5), .res (stamp_Stamp_Text_out s s2 s3 s4 s5), .res (kinfolkref04_Text_out x x2 s6)]) (.k1 (an_ (stamp_Stamp_Text_runs N s s2 s3 s4 _ h1) (an_ (stamp_Stamp_Text_runs N s s2 s3 s4 _ h1) (an_ (kinfolkref04_Text_runs N x x2 _ h2) trivial))) (by kernel_rfl) (by kernel_rfl))
/-! ### kinfolklaw04_StampTicks_L0 -/
def kinfolklaw04_StampTicks_L0_st (n : Int) (b : Bool) (t : T_id_halves) (n2 : Int) (t2 : T_event_halves) (b2 : Bool) (t3 : T_id_halves) (n3 : Int) (t4 : T_event_halves) (l : List Int) (l2 : List Int) (l3 : List Bool) : Int → St
  | n4 => ⟨[(5, (.av (.one (.ref 0 0)))), (7, (.av (.one (.ref 1 0)))), (12, (.av (.one (.own 0 0 (l).length false)))), (13, (.av (.one (.own 1 0 (l2).length false)))), (14, (.av (.one (.own 2 0 (l3).length false)))), (70, (.av (.one (.pv (.int .i64 n))))), (71, (.av (.one (.pv (.int .i64 n4)))))], [(0, [(.pv (.bool b)), (.pv (T_id_halves.pv t)), (.pv (.int .u64 n2)), (.pv (T_event_halves.pv t2))]), (1, [(.pv (.bool b2)), (.pv (T_id_halves.pv t3)), (.pv (.int .u64 n3)), (.pv (T_event_halves.pv t4))])], [(0, (.live (.ints .u64 l))), (1, (.live (.ints .u64 l2))), (2, (.live (.bools l3)))]⟩
def kinfolklaw04_StampTicks_L0_ex (n : Int) (b : Bool) (t : T_id_halves) (n2 : Int) (t2 : T_event_halves) (b2 : Bool) (t3 : T_id_halves) (n3 : Int) (t4 : T_event_halves) (l : List Int) (l2 : List Int) (l3 : List Bool) : (Unit) ⊕ (Unit) → Ex × St
  | .inl _ => (.ret, ⟨[(4, (.av (.one (.pv (.bool false)))))], [], []⟩)
  | .inr _ => ((.exit 0), ⟨[(5, (.av (.one (.ref 0 0)))), (7, (.av (.one (.ref 1 0))))], [(0, [(.pv (.bool b)), (.pv (T_id_halves.pv t)), (.pv (.int .u64 n2)), (.pv (T_event_halves.pv t2))]), (1, [(.pv (.bool b2)), (.pv (T_id_halves.pv t3)), (.pv (.int .u64 n3)), (.pv (T_event_halves.pv t4))])], [(0, (.live (.ints .u64 l))), (1, (.live (.ints .u64 l2))), (2, (.live (.bools l3)))]⟩)
noncomputable def kinfolklaw04_StampTicks_L0_step (n : Int) (b : Bool) (t : T_id_halves) (n2 : Int) (t2 : T_event_halves) (b2 : Bool) (t3 : T_id_halves) (n3 : Int) (t4 : T_event_halves) (l : List Int) (l2 : List Int) (l3 : List Bool) : Int → Option ((Int) ⊕ ((Unit) ⊕ (Unit)))
  | n4 =>
  bif (decide ((n4 : Int) < n)) then
    bif decide ((0 : Int) ≤ n4) && decide ((n4 : Int) < ((l).length : Int)) then
    bif decide ((0 : Int) ≤ n4) && decide ((n4 : Int) < ((l2).length : Int)) then
    bif (decide (((l2.getD (0 + (n4).toNat) 0) : Int) < (l.getD (0 + (n4).toNat) 0))) then
      some (.inr (.inl ()))
    else
      bif (decide (((l.getD (0 + (n4).toNat) 0) : Int) = (l2.getD (0 + (n4).toNat) 0))) then
        some (.inl (iadd .i64 n4 1))
      else
        bif decide ((0 : Int) ≤ n4) && decide ((n4 : Int) < ((l3).length : Int)) then
        bif (l3.getD (0 + (n4).toNat) false) then
          some (.inl (iadd .i64 n4 1))
        else
          some (.inr (.inl ()))
        else none
    else none
    else none
  else
    some (.inr (.inr ()))
theorem kinfolklaw04_StampTicks_L0_ok (n : Int) (b : Bool) (t : T_id_halves) (n2 : Int) (t2 : T_event_halves) (b2 : Bool) (t3 : T_id_halves) (n3 : Int) (t4 : T_event_halves) (l : List Int) (l2 : List Int) (l3 : List Bool) (n4 : Int) (z_ : (Int) ⊕ ((Unit) ⊕ (Unit))) (h : kinfolklaw04_StampTicks_L0_step n b t n2 t2 b2 t3 n3 t4 l l2 l3 n4 = some z_) : RoundOk Tryd.prog cfg 6 0 (loopAt Tryd.prog 6 0) (kinfolklaw04_StampTicks_L0_st n b t n2 t2 b2 t3 n3 t4 l l2 l3) (kinfolklaw04_StampTicks_L0_ex n b t n2 t2 b2 t3 n3 t4 l l2 l3) n4 z_ := by
  rcases cond_of h with ⟨h1, h⟩ | ⟨h1, h⟩
  · obtain ⟨h2, h⟩ := need_of h
    obtain ⟨h3, h⟩ := need_of h
    rcases cond_of h with ⟨h4, h⟩ | ⟨h4, h⟩
    · have h := some_of h
      subst h
      exact ⟨[.br true, .br true, .br true], (kinfolklaw04_StampTicks_L0_ex n b t n2 t2 b2 t3 n3 t4 l l2 l3 (.inl ())).2, .k1 (an_ h1 (an_ h2 (an_ h3 (an_ h4 (an_ (rfl : true = true) trivial))))) (by kernel_rfl) (by kernel_rfl), .same (by kernel_rfl)⟩
    · rcases cond_of h with ⟨h5, h⟩ | ⟨h5, h⟩
      · have h := some_of h
        subst h
        exact ⟨[.br true, .br false, .br false, .br false], kinfolklaw04_StampTicks_L0_st n b t n2 t2 b2 t3 n3 t4 l l2 l3 (iadd .i64 n4 1), .k1 (an_ h1 (an_ h2 (an_ h3 (an_ h4 (an_ h2 (an_ h3 (an_ (not_of2 h5) (an_ (rfl : false = false) trivial)))))))) (by kernel_rfl) (by kernel_rfl), .same (by kernel_rfl)⟩
      · obtain ⟨h6, h⟩ := need_of h
        rcases cond_of h with ⟨h7, h⟩ | ⟨h7, h⟩
        · have h := some_of h
          subst h
          exact ⟨[.br true, .br false, .br true, .br false], kinfolklaw04_StampTicks_L0_st n b t n2 t2 b2 t3 n3 t4 l l2 l3 (iadd .i64 n4 1), .k1 (an_ h1 (an_ h2 (an_ h3 (an_ h4 (an_ h2 (an_ h3 (an_ (not_of h5) (an_ h6 (an_ (not_of2 h7) trivial))))))))) (by kernel_rfl) (by kernel_rfl), .same (by kernel_rfl)⟩
        · have h := some_of h
          subst h
          exact ⟨[.br true, .br false, .br true, .br true], (kinfolklaw04_StampTicks_L0_ex n b t n2 t2 b2 t3 n3 t4 l l2 l3 (.inl ())).2, .k1 (an_ h1 (an_ h2 (an_ h3 (an_ h4 (an_ h2 (an_ h3 (an_ (not_of h5) (an_ h6 (an_ (not_of h7) trivial))))))))) (by kernel_rfl) (by kernel_rfl), .same (by kernel_rfl)⟩
  · have h := some_of h
    subst h
    exact ⟨[.br false], ⟨[(72, (.av (.one (.pv (.bool false))))), (5, (.av (.one (.ref 0 0)))), (7, (.av (.one (.ref 1 0)))), (12, (.av (.one (.own 0 0 (l).length false)))), (13, (.av (.one (.own 1 0 (l2).length false)))), (14, (.av (.one (.own 2 0 (l3).length false)))), (70, (.av (.one (.pv (.int .i64 n))))), (71, (.av (.one (.pv (.int .i64 n4))))), (72, (.av (.one (.pv (.bool (decide ((n4 : Int) < n)))))))], [(0, [(.pv (.bool b)), (.pv (T_id_halves.pv t)), (.pv (.int .u64 n2)), (.pv (T_event_halves.pv t2))]), (1, [(.pv (.bool b2)), (.pv (T_id_halves.pv t3)), (.pv (.int .u64 n3)), (.pv (T_event_halves.pv t4))])], [(0, (.live (.ints .u64 l))), (1, (.live (.ints .u64 l2))), (2, (.live (.bools l3)))]⟩, .k0 (an_ h1 trivial) (by kernel_rfl), ⟨⟨⟨_, rfl, .eq rfl⟩, ⟨_, rfl, .eq rfl⟩, trivial⟩, ⟨⟨rfl, ⟨.eq rfl, .eq rfl, .eq rfl, .eq rfl, trivial⟩⟩, ⟨rfl, ⟨.eq rfl, .eq rfl, .eq rfl, .eq rfl, trivial⟩⟩, trivial⟩, ⟨⟨rfl, .eq rfl⟩, ⟨rfl, .eq rfl⟩, ⟨rfl, .eq rfl⟩, trivial⟩⟩⟩
theorem kinfolklaw04_StampTicks_L0_runs (n : Int) (b : Bool) (t : T_id_halves) (n2 : Int) (t2 : T_event_halves) (b2 : Bool) (t3 : T_id_halves) (n3 : Int) (t4 : T_event_halves) (l : List Int) (l2 : List Int) (l3 : List Bool) (s_ : Int) (r_ : (Unit) ⊕ (Unit)) (h : runL (kinfolklaw04_StampTicks_L0_step n b t n2 t2 b2 t3 n3 t4 l l2 l3) s_ = some r_) : LRuns Tryd.prog (lEnv Tryd.prog cfg 6 0).nt 0 (.loop (loopAt Tryd.prog 6 0)) (kinfolklaw04_StampTicks_L0_st n b t n2 t2 b2 t3 n3 t4 l l2 l3 s_) (kinfolklaw04_StampTicks_L0_ex n b t n2 t2 b2 t3 n3 t4 l l2 l3 r_).1 (kinfolklaw04_StampTicks_L0_ex n b t n2 t2 b2 t3 n3 t4 l l2 l3 r_).2 :=
  loop_run h (kinfolklaw04_StampTicks_L0_ok n b t n2 t2 b2 t3 n3 t4 l l2 l3) (by intro r_; rcases r_ with _ | _ <;> simp [kinfolklaw04_StampTicks_L0_ex])
/-! ### stamp_Leq_out -/
def stamp_Leq_out (a : Bool) (a2 : T_id_halves) (a3 : Int) (a4 : T_event_halves) (b : Bool) (b2 : T_id_halves) (b3 : Int) (b4 : T_event_halves) : Bool → Res
  | r1 => ([(.one (.pv (.bool r1)))], [], [])
/-! ### stamp_Leq -/
noncomputable def stamp_Leq (N : Nat) (a : Bool) (a2 : T_id_halves) (a3 : Int) (a4 : T_event_halves) (b : Bool) (b2 : T_id_halves) (b3 : Int) (b4 : T_event_halves) : Option (Bool) :=
  (event_Leq N a3 a4 b3 b4).bind fun b5 =>
  some b5
theorem stamp_Leq_runs (N : Nat) (a : Bool) (a2 : T_id_halves) (a3 : Int) (a4 : T_event_halves) (b : Bool) (b2 : T_id_halves) (b3 : Int) (b4 : T_event_halves) (r_ : Bool) (h : stamp_Leq N a a2 a3 a4 b b2 b3 b4 = some r_) : Runs Tryd.prog 41 [(.agg [(.pv (.bool a)), (.pv (T_id_halves.pv a2)), (.pv (.int .u64 a3)), (.pv (T_event_halves.pv a4))]), (.agg [(.pv (.bool b)), (.pv (T_id_halves.pv b2)), (.pv (.int .u64 b3)), (.pv (T_event_halves.pv b4))])] [] [] (stamp_Leq_out a a2 a3 a4 b b2 b3 b4 r_) := by
  unfold stamp_Leq at h
  obtain ⟨b5, h1, h⟩ := bind_of h
  have h := some_of h
  subst h
  exact runs_of (C := cfg) (objs := []) (sc := [.res (event_Leq_out a3 a4 b3 b4 b5)]) (.k0 (an_ (event_Leq_runs N a3 a4 b3 b4 _ h1) trivial) (by kernel_rfl))
/-! ### kinfolklaw04_StampTicks -/
noncomputable def kinfolklaw04_StampTicks (N : Nat) (p : List Int) (q : List Int) : Option (Bool) :=
  (kinfolklaw04_awake N).bind fun b =>
  bif b then
    (kinfolklaw04_made N p q).bind fun (b2, t, n, t2, t3, t4) =>
    (stamp_Stamp_Tick N b2 t n t2).bind fun (n2, t5, n3) =>
    (kinfolkref04_Tick N t3 t4).bind fun (t6, n4) =>
    bif (decide ((n3 : Int) = n4)) then
      (kinfolklaw04_like N b2 t n2 t5 t3 t6).bind fun b3 =>
      bif b3 then
        bif (decide ((n3 : Int) = 0)) then
          (kinfolkref02_Heights N t4 7).bind fun l_ =>
          (kinfolkref02_Heights N t6 7).bind fun l_2 =>
          (kinfolkref01_Has N t3 7).bind fun l_3 =>
          (runL (kinfolklaw04_StampTicks_L0_step ((l_).length : Int) b2 t n t2 b2 t n2 t5 l_ l_2 l_3) 0).bind fun z_ => match z_ with
          | .inl _ =>
            some false
          | .inr _ =>
            (stamp_Leq N b2 t n t2 b2 t n2 t5).bind fun b4 =>
            bif b4 then
              (stamp_Leq N b2 t n2 t5 b2 t n t2).bind fun b5 =>
              bif b5 then
                some false
              else
                (id_Same N b2 t b2 t).bind fun b6 =>
                some b6
            else
              some false
        else
          bif (decide ((n3 : Int) = 2)) then
            (id_ID_IsZero b2 t).bind fun b4 =>
            bif b4 then
              (stamp_Same N b2 t n2 t5 b2 t n t2).bind fun b5 =>
              some b5
            else
              some false
          else
            some false
      else
        some false
    else
      some false
  else
    some false
theorem kinfolklaw04_StampTicks_runs (N : Nat) (p : List Int) (q : List Int) (r_ : Bool) (h : kinfolklaw04_StampTicks N p q = some r_) : Runs Tryd.prog 6 [(.one (.pv (.ints .u8 p false))), (.one (.pv (.ints .u8 q false)))] [] [] (kinfolklaw04_StampTicks_out p q r_) := by
  unfold kinfolklaw04_StampTicks at h
  obtain ⟨b, h1, h⟩ := bind_of h
  rcases cond_of h with ⟨h2, h⟩ | ⟨h2, h⟩
  · obtain ⟨⟨b2, t, n, t2, t3, t4⟩, h3, h⟩ := bind_of h
    obtain ⟨⟨n2, t5, n3⟩, h4, h⟩ := bind_of h
    obtain ⟨⟨t6, n4⟩, h5, h⟩ := bind_of h
    rcases cond_of h with ⟨h6, h⟩ | ⟨h6, h⟩
    · obtain ⟨b3, h7, h⟩ := bind_of h
      rcases cond_of h with ⟨h8, h⟩ | ⟨h8, h⟩
      · rcases cond_of h with ⟨h9, h⟩ | ⟨h9, h⟩
        · obtain ⟨l_, h10, h⟩ := bind_of h
          obtain ⟨l_2, h11, h⟩ := bind_of h
          obtain ⟨l_3, h12, h⟩ := bind_of h
          obtain ⟨z_, h13, h⟩ := bind_of h
          rcases z_ with _ | _
          · have h := some_of h
            subst h
            exact runs_of (C := cfg) (objs := []) (sc := [.res (kinfolklaw04_awake_out b), .br false, .res (kinfolklaw04_made_out p q (b2, t, n, t2, t3, t4)), .res (stamp_Stamp_Tick_out b2 t n t2 (n2, t5, n3)), .res (kinfolkref04_Tick_out t3 t4 (t6, n4)), .br false, .res (kinfolklaw04_like_out b2 t n2 t5 t3 t6 b3), .br false, .br false, .res (kinfolkref02_Heights_out t4 7 l_), .res (kinfolkref02_Heights_out t4 7 l_), .res (kinfolkref02_Heights_out t4 7 l_), .res (kinfolkref02_Heights_out t4 7 l_), .res (kinfolkref02_Heights_out t6 7 l_2), .res (kinfolkref02_Heights_out t6 7 l_2), .res (kinfolkref01_Has_out t3 7 l_3), .lp (kinfolklaw04_StampTicks_L0_ex ((l_).length : Int) b2 t n t2 b2 t n2 t5 l_ l_2 l_3 (.inl ())).1 (kinfolklaw04_StampTicks_L0_ex ((l_).length : Int) b2 t n t2 b2 t n2 t5 l_ l_2 l_3 (.inl ())).2]) (.k1 (an_ (kinfolklaw04_awake_runs N _ h1) (an_ (not_of2 h2) (an_ (kinfolklaw04_made_runs N p q _ h3) (an_ (stamp_Stamp_Tick_runs N b2 t n t2 _ h4) (an_ (kinfolkref04_Tick_runs N t3 t4 _ h5) (an_ (not_of2 h6) (an_ (kinfolklaw04_like_runs N b2 t n2 t5 t3 t6 _ h7) (an_ (not_of2 h8) (an_ (not_of2 h9) (an_ (kinfolkref02_Heights_runs N t4 7 _ h10) (an_ (kinfolkref02_Heights_runs N t4 7 _ h10) (an_ (kinfolkref02_Heights_runs N t4 7 _ h10) (an_ (kinfolkref02_Heights_runs N t4 7 _ h10) (an_ (kinfolkref02_Heights_runs N t6 7 _ h11) (an_ (kinfolkref02_Heights_runs N t6 7 _ h11) (an_ (kinfolkref01_Has_runs N t3 7 _ h12) (an_ (kinfolklaw04_StampTicks_L0_runs ((l_).length : Int) b2 t n t2 b2 t n2 t5 l_ l_2 l_3 _ _ h13) trivial))))))))))))))))) (by kernel_rfl) (by kernel_rfl))
          · obtain ⟨b4, h14, h⟩ := bind_of h
            rcases cond_of h with ⟨h15, h⟩ | ⟨h15, h⟩
            · obtain ⟨b5, h16, h⟩ := bind_of h
              rcases cond_of h with ⟨h17, h⟩ | ⟨h17, h⟩
              · have h := some_of h
                subst h
                exact runs_of (C := cfg) (objs := []) (sc := [.res (kinfolklaw04_awake_out b), .br false, .res (kinfolklaw04_made_out p q (b2, t, n, t2, t3, t4)), .res (stamp_Stamp_Tick_out b2 t n t2 (n2, t5, n3)), .res (kinfolkref04_Tick_out t3 t4 (t6, n4)), .br false, .res (kinfolklaw04_like_out b2 t n2 t5 t3 t6 b3), .br false, .br false, .res (kinfolkref02_Heights_out t4 7 l_), .res (kinfolkref02_Heights_out t4 7 l_), .res (kinfolkref02_Heights_out t4 7 l_), .res (kinfolkref02_Heights_out t4 7 l_), .res (kinfolkref02_Heights_out t6 7 l_2), .res (kinfolkref02_Heights_out t6 7 l_2), .res (kinfolkref01_Has_out t3 7 l_3), .lp (kinfolklaw04_StampTicks_L0_ex ((l_).length : Int) b2 t n t2 b2 t n2 t5 l_ l_2 l_3 (.inr ())).1 (kinfolklaw04_StampTicks_L0_ex ((l_).length : Int) b2 t n t2 b2 t n2 t5 l_ l_2 l_3 (.inr ())).2, .res (stamp_Leq_out b2 t n t2 b2 t n2 t5 b4), .br true, .res (stamp_Leq_out b2 t n2 t5 b2 t n t2 b5), .br false]) (.k1 (an_ (kinfolklaw04_awake_runs N _ h1) (an_ (not_of2 h2) (an_ (kinfolklaw04_made_runs N p q _ h3) (an_ (stamp_Stamp_Tick_runs N b2 t n t2 _ h4) (an_ (kinfolkref04_Tick_runs N t3 t4 _ h5) (an_ (not_of2 h6) (an_ (kinfolklaw04_like_runs N b2 t n2 t5 t3 t6 _ h7) (an_ (not_of2 h8) (an_ (not_of2 h9) (an_ (kinfolkref02_Heights_runs N t4 7 _ h10) (an_ (kinfolkref02_Heights_runs N t4 7 _ h10) (an_ (kinfolkref02_Heights_runs N t4 7 _ h10) (an_ (kinfolkref02_Heights_runs N t4 7 _ h10) (an_ (kinfolkref02_Heights_runs N t6 7 _ h11) (an_ (kinfolkref02_Heights_runs N t6 7 _ h11) (an_ (kinfolkref01_Has_runs N t3 7 _ h12) (an_ (kinfolklaw04_StampTicks_L0_runs ((l_).length : Int) b2 t n t2 b2 t n2 t5 l_ l_2 l_3 _ _ h13) (an_ (stamp_Leq_runs N b2 t n t2 b2 t n2 t5 _ h14) (an_ h15 (an_ (stamp_Leq_runs N b2 t n2 t5 b2 t n t2 _ h16) (an_ (not_of2 h17) trivial))))))))))))))))))))) (by kernel_rfl) (by kernel_rfl))
              · obtain ⟨b6, h18, h⟩ := bind_of h
                have h := some_of h
                subst h
                exact runs_of (C := cfg) (objs := []) (sc := [.res (kinfolklaw04_awake_out b), .br false, .res (kinfolklaw04_made_out p q (b2, t, n, t2, t3, t4)), .res (stamp_Stamp_Tick_out b2 t n t2 (n2, t5, n3)), .res (kinfolkref04_Tick_out t3 t4 (t6, n4)), .br false, .res (kinfolklaw04_like_out b2 t n2 t5 t3 t6 b3), .br false, .br false, .res (kinfolkref02_Heights_out t4 7 l_), .res (kinfolkref02_Heights_out t4 7 l_), .res (kinfolkref02_Heights_out t4 7 l_), .res (kinfolkref02_Heights_out t4 7 l_), .res (kinfolkref02_Heights_out t6 7 l_2), .res (kinfolkref02_Heights_out t6 7 l_2), .res (kinfolkref01_Has_out t3 7 l_3), .lp (kinfolklaw04_StampTicks_L0_ex ((l_).length : Int) b2 t n t2 b2 t n2 t5 l_ l_2 l_3 (.inr ())).1 (kinfolklaw04_StampTicks_L0_ex ((l_).length : Int) b2 t n t2 b2 t n2 t5 l_ l_2 l_3 (.inr ())).2, .res (stamp_Leq_out b2 t n t2 b2 t n2 t5 b4), .br true, .res (stamp_Leq_out b2 t n2 t5 b2 t n t2 b5), .br true, .res (id_Same_out b2 t b2 t b6)]) (.k1 (an_ (kinfolklaw04_awake_runs N _ h1) (an_ (not_of2 h2) (an_ (kinfolklaw04_made_runs N p q _ h3) (an_ (stamp_Stamp_Tick_runs N b2 t n t2 _ h4) (an_ (kinfolkref04_Tick_runs N t3 t4 _ h5) (an_ (not_of2 h6) (an_ (kinfolklaw04_like_runs N b2 t n2 t5 t3 t6 _ h7) (an_ (not_of2 h8) (an_ (not_of2 h9) (an_ (kinfolkref02_Heights_runs N t4 7 _ h10) (an_ (kinfolkref02_Heights_runs N t4 7 _ h10) (an_ (kinfolkref02_Heights_runs N t4 7 _ h10) (an_ (kinfolkref02_Heights_runs N t4 7 _ h10) (an_ (kinfolkref02_Heights_runs N t6 7 _ h11) (an_ (kinfolkref02_Heights_runs N t6 7 _ h11) (an_ (kinfolkref01_Has_runs N t3 7 _ h12) (an_ (kinfolklaw04_StampTicks_L0_runs ((l_).length : Int) b2 t n t2 b2 t n2 t5 l_ l_2 l_3 _ _ h13) (an_ (stamp_Leq_runs N b2 t n t2 b2 t n2 t5 _ h14) (an_ h15 (an_ (stamp_Leq_runs N b2 t n2 t5 b2 t n t2 _ h16) (an_ (not_of h17) (an_ (id_Same_runs N b2 t b2 t _ h18) trivial)))))))))))))))))))))) (by kernel_rfl) (by kernel_rfl))
            · have h := some_of h
              subst h
              exact runs_of (C := cfg) (objs := []) (sc := [.res (kinfolklaw04_awake_out b), .br false, .res (kinfolklaw04_made_out p q (b2, t, n, t2, t3, t4)), .res (stamp_Stamp_Tick_out b2 t n t2 (n2, t5, n3)), .res (kinfolkref04_Tick_out t3 t4 (t6, n4)), .br false, .res (kinfolklaw04_like_out b2 t n2 t5 t3 t6 b3), .br false, .br false, .res (kinfolkref02_Heights_out t4 7 l_), .res (kinfolkref02_Heights_out t4 7 l_), .res (kinfolkref02_Heights_out t4 7 l_), .res (kinfolkref02_Heights_out t4 7 l_), .res (kinfolkref02_Heights_out t6 7 l_2), .res (kinfolkref02_Heights_out t6 7 l_2), .res (kinfolkref01_Has_out t3 7 l_3), .lp (kinfolklaw04_StampTicks_L0_ex ((l_).length : Int) b2 t n t2 b2 t n2 t5 l_ l_2 l_3 (.inr ())).1 (kinfolklaw04_StampTicks_L0_ex ((l_).length : Int) b2 t n t2 b2 t n2 t5 l_ l_2 l_3 (.inr ())).2, .res (stamp_Leq_out b2 t n t2 b2 t n2 t5 b4), .br false, .br false]) (.k1 (an_ (kinfolklaw04_awake_runs N _ h1) (an_ (not_of2 h2) (an_ (kinfolklaw04_made_runs N p q _ h3) (an_ (stamp_Stamp_Tick_runs N b2 t n t2 _ h4) (an_ (kinfolkref04_Tick_runs N t3 t4 _ h5) (an_ (not_of2 h6) (an_ (kinfolklaw04_like_runs N b2 t n2 t5 t3 t6 _ h7) (an_ (not_of2 h8) (an_ (not_of2 h9) (an_ (kinfolkref02_Heights_runs N t4 7 _ h10) (an_ (kinfolkref02_Heights_runs N t4 7 _ h10) (an_ (kinfolkref02_Heights_runs N t4 7 _ h10) (an_ (kinfolkref02_Heights_runs N t4 7 _ h10) (an_ (kinfolkref02_Heights_runs N t6 7 _ h11) (an_ (kinfolkref02_Heights_runs N t6 7 _ h11) (an_ (kinfolkref01_Has_runs N t3 7 _ h12) (an_ (kinfolklaw04_StampTicks_L0_runs ((l_).length : Int) b2 t n t2 b2 t n2 t5 l_ l_2 l_3 _ _ h13) (an_ (stamp_Leq_runs N b2 t n t2 b2 t n2 t5 _ h14) (an_ h15 (an_ (rfl : false = false) trivial)))))))))))))))))))) (by kernel_rfl) (by kernel_rfl))
        · rcases cond_of h with ⟨h10, h⟩ | ⟨h10, h⟩
          · obtain ⟨b4, h11, h⟩ := bind_of h
            rcases cond_of h with ⟨h12, h⟩ | ⟨h12, h⟩
            · obtain ⟨b5, h13, h⟩ := bind_of h
              have h := some_of h
              subst h
              exact runs_of (C := cfg) (objs := []) (sc := [.res (kinfolklaw04_awake_out b), .br false, .res (kinfolklaw04_made_out p q (b2, t, n, t2, t3, t4)), .res (stamp_Stamp_Tick_out b2 t n t2 (n2, t5, n3)), .res (kinfolkref04_Tick_out t3 t4 (t6, n4)), .br false, .res (kinfolklaw04_like_out b2 t n2 t5 t3 t6 b3), .br false, .br true, .br true, .res (id_ID_IsZero_out b2 t b4), .br true, .res (stamp_Same_out b2 t n2 t5 b2 t n t2 b5)]) (.k0 (an_ (kinfolklaw04_awake_runs N _ h1) (an_ (not_of2 h2) (an_ (kinfolklaw04_made_runs N p q _ h3) (an_ (stamp_Stamp_Tick_runs N b2 t n t2 _ h4) (an_ (kinfolkref04_Tick_runs N t3 t4 _ h5) (an_ (not_of2 h6) (an_ (kinfolklaw04_like_runs N b2 t n2 t5 t3 t6 _ h7) (an_ (not_of2 h8) (an_ (not_of h9) (an_ h10 (an_ (id_ID_IsZero_runs b2 t _ h11) (an_ h12 (an_ (stamp_Same_runs N b2 t n2 t5 b2 t n t2 _ h13) trivial))))))))))))) (by kernel_rfl))
            · have h := some_of h
              subst h
              exact runs_of (C := cfg) (objs := []) (sc := [.res (kinfolklaw04_awake_out b), .br false, .res (kinfolklaw04_made_out p q (b2, t, n, t2, t3, t4)), .res (stamp_Stamp_Tick_out b2 t n t2 (n2, t5, n3)), .res (kinfolkref04_Tick_out t3 t4 (t6, n4)), .br false, .res (kinfolklaw04_like_out b2 t n2 t5 t3 t6 b3), .br false, .br true, .br true, .res (id_ID_IsZero_out b2 t b4), .br false]) (.k0 (an_ (kinfolklaw04_awake_runs N _ h1) (an_ (not_of2 h2) (an_ (kinfolklaw04_made_runs N p q _ h3) (an_ (stamp_Stamp_Tick_runs N b2 t n t2 _ h4) (an_ (kinfolkref04_Tick_runs N t3 t4 _ h5) (an_ (not_of2 h6) (an_ (kinfolklaw04_like_runs N b2 t n2 t5 t3 t6 _ h7) (an_ (not_of2 h8) (an_ (not_of h9) (an_ h10 (an_ (id_ID_IsZero_runs b2 t _ h11) (an_ h12 trivial)))))))))))) (by kernel_rfl))
          · have h := some_of h
            subst h
            exact runs_of (C := cfg) (objs := []) (sc := [.res (kinfolklaw04_awake_out b), .br false, .res (kinfolklaw04_made_out p q (b2, t, n, t2, t3, t4)), .res (stamp_Stamp_Tick_out b2 t n t2 (n2, t5, n3)), .res (kinfolkref04_Tick_out t3 t4 (t6, n4)), .br false, .res (kinfolklaw04_like_out b2 t n2 t5 t3 t6 b3), .br false, .br true, .br false, .br false]) (.k0 (an_ (kinfolklaw04_awake_runs N _ h1) (an_ (not_of2 h2) (an_ (kinfolklaw04_made_runs N p q _ h3) (an_ (stamp_Stamp_Tick_runs N b2 t n t2 _ h4) (an_ (kinfolkref04_Tick_runs N t3 t4 _ h5) (an_ (not_of2 h6) (an_ (kinfolklaw04_like_runs N b2 t n2 t5 t3 t6 _ h7) (an_ (not_of2 h8) (an_ (not_of h9) (an_ h10 (an_ (rfl : false = false) trivial))))))))))) (by kernel_rfl))
      · have h := some_of h
        subst h
        exact runs_of (C := cfg) (objs := []) (sc := [.res (kinfolklaw04_awake_out b), .br false, .res (kinfolklaw04_made_out p q (b2, t, n, t2, t3, t4)), .res (stamp_Stamp_Tick_out b2 t n t2 (n2, t5, n3)), .res (kinfolkref04_Tick_out t3 t4 (t6, n4)), .br false, .res (kinfolklaw04_like_out b2 t n2 t5 t3 t6 b3), .br true]) (.k0 (an_ (kinfolklaw04_awake_runs N _ h1) (an_ (not_of2 h2) (an_ (kinfolklaw04_made_runs N p q _ h3) (an_ (stamp_Stamp_Tick_runs N b2 t n t2 _ h4) (an_ (kinfolkref04_Tick_runs N t3 t4 _ h5) (an_ (not_of2 h6) (an_ (kinfolklaw04_like_runs N b2 t n2 t5 t3 t6 _ h7) (an_ (not_of h8) trivial)))))))) (by kernel_rfl))
    · have h := some_of h
      subst h
      exact runs_of (C := cfg) (objs := []) (sc := [.res (kinfolklaw04_awake_out b), .br false, .res (kinfolklaw04_made_out p q (b2, t, n, t2, t3, t4)), .res (stamp_Stamp_Tick_out b2 t n t2 (n2, t5, n3)), .res (kinfolkref04_Tick_out t3 t4 (t6, n4)), .br true, .br true]) (.k0 (an_ (kinfolklaw04_awake_runs N _ h1) (an_ (not_of2 h2) (an_ (kinfolklaw04_made_runs N p q _ h3) (an_ (stamp_Stamp_Tick_runs N b2 t n t2 _ h4) (an_ (kinfolkref04_Tick_runs N t3 t4 _ h5) (an_ (not_of h6) (an_ (rfl : true = true) trivial))))))) (by kernel_rfl))
  · have h := some_of h
    subst h
    exact runs_of (C := cfg) (objs := []) (sc := [.res (kinfolklaw04_awake_out b), .br true]) (.k0 (an_ (kinfolklaw04_awake_runs N _ h1) (an_ (not_of h2) trivial)) (by kernel_rfl))
/-! ### kinfolklaw04_StampForks_out -/
def kinfolklaw04_StampForks_out (p : List Int) (q : List Int) : Bool → Res
  | r1 => ([(.one (.pv (.bool r1)))], [], [])
/-! ### kinfolkref01_Split_out -/
def kinfolkref01_Split_out (i : T_kinfolkref01_ID) : T_kinfolkref01_ID × T_kinfolkref01_ID → Res
  | (r1, r2) => ([(.one (.pv (T_kinfolkref01_ID.pv r1))), (.one (.pv (T_kinfolkref01_ID.pv r2)))], [], [])
/-! ### kinfolkref01_One_out -/
def kinfolkref01_One_out : T_kinfolkref01_ID → Res
  | r1 => ([(.one (.pv (T_kinfolkref01_ID.pv r1)))], [], [])
/-! ### kinfolkref01_One -/
noncomputable def kinfolkref01_One : Option (T_kinfolkref01_ID) :=
  some (T_kinfolkref01_ID.mk 1 T_kinfolkref01_ID.nil T_kinfolkref01_ID.nil)
theorem kinfolkref01_One_runs (r_ : T_kinfolkref01_ID) (h : kinfolkref01_One = some r_) : Runs Tryd.prog 112 [] [] [] (kinfolkref01_One_out r_) := by
  unfold kinfolkref01_One at h
  have h := some_of h
  subst h
  have e_ : Runs Tryd.prog 112 [] [] [] ([(.one (.pv (.imm [(.int .i64 1), .nilp, .nilp] 0)))], [], []) := runs_of (C := cfg) (objs := []) (sc := []) (.k0 (trivial) (by kernel_rfl))
  exact e_.out ⟨.eq rfl, trivial⟩ trivial trivial rfl
/-! ### kinfolkref01_Split -/
noncomputable def kinfolkref01_Split_b (rec_kinfolkref01_Split : T_kinfolkref01_ID → Option (T_kinfolkref01_ID × T_kinfolkref01_ID)) (i : T_kinfolkref01_ID) : Option (T_kinfolkref01_ID × T_kinfolkref01_ID) :=
  match i with
  | .nil =>
    none
  | .mk n t t2 =>
    bif (decide ((n : Int) = 0)) then
      (kinfolkref01_Zero).bind fun t3 =>
      some (t3, t3)
    else
      bif (decide ((n : Int) = 1)) then
        (kinfolkref01_One).bind fun t3 =>
        (kinfolkref01_Zero).bind fun t4 =>
        (kinfolkref01_Pair t3 t4).bind fun t5 =>
        (kinfolkref01_Pair t4 t3).bind fun t6 =>
        some (t5, t6)
      else
        match t with
        | .nil =>
          none
        | .mk n2 t3 t4 =>
          bif (decide ((n2 : Int) = 0)) then
            (rec_kinfolkref01_Split t2).bind fun (t5, t6) =>
            (kinfolkref01_Zero).bind fun t7 =>
            (kinfolkref01_Pair t7 t5).bind fun t8 =>
            (kinfolkref01_Pair t7 t6).bind fun t9 =>
            some (t8, t9)
          else
            match t2 with
            | .nil =>
              none
            | .mk n3 t5 t6 =>
              bif (decide ((n3 : Int) = 0)) then
                (rec_kinfolkref01_Split t).bind fun (t7, t8) =>
                (kinfolkref01_Zero).bind fun t9 =>
                (kinfolkref01_Pair t7 t9).bind fun t10 =>
                (kinfolkref01_Pair t8 t9).bind fun t11 =>
                some (t10, t11)
              else
                (kinfolkref01_Zero).bind fun t7 =>
                (kinfolkref01_Pair t t7).bind fun t8 =>
                (kinfolkref01_Pair t7 t2).bind fun t9 =>
                some (t8, t9)
theorem kinfolkref01_Split_b_runs (rec_kinfolkref01_Split : T_kinfolkref01_ID → Option (T_kinfolkref01_ID × T_kinfolkref01_ID)) (hrec_kinfolkref01_Split : ∀ i r_, rec_kinfolkref01_Split i = some r_ → Runs Tryd.prog 48 [(.one (.pv (T_kinfolkref01_ID.pv i)))] [] [] (kinfolkref01_Split_out i r_)) (i : T_kinfolkref01_ID) (r_ : T_kinfolkref01_ID × T_kinfolkref01_ID) (h : kinfolkref01_Split_b rec_kinfolkref01_Split i = some r_) : Runs Tryd.prog 48 [(.one (.pv (T_kinfolkref01_ID.pv i)))] [] [] (kinfolkref01_Split_out i r_) := by
  unfold kinfolkref01_Split_b at h
  cases i with
  | nil =>
    cases h
  | mk n t t2 =>
    rcases cond_of h with ⟨h1, h⟩ | ⟨h1, h⟩
    · obtain ⟨t3, h2, h⟩ := bind_of h
      have h := some_of h
      subst h
      exact runs_of (C := cfg) (objs := []) (sc := [.br true, .res (kinfolkref01_Zero_out t3), .res (kinfolkref01_Zero_out t3)]) (.k0 (an_ h1 (an_ (kinfolkref01_Zero_runs _ h2) (an_ (kinfolkref01_Zero_runs _ h2) trivial))) (by kernel_rfl))
    · rcases cond_of h with ⟨h2, h⟩ | ⟨h2, h⟩
      · obtain ⟨t3, h3, h⟩ := bind_of h
        obtain ⟨t4, h4, h⟩ := bind_of h
        obtain ⟨t5, h5, h⟩ := bind_of h
        obtain ⟨t6, h6, h⟩ := bind_of h
        have h := some_of h
        subst h
        exact runs_of (C := cfg) (objs := []) (sc := [.br false, .br true, .res (kinfolkref01_One_out t3), .res (kinfolkref01_Zero_out t4), .res (kinfolkref01_Pair_out t3 t4 t5), .res (kinfolkref01_Zero_out t4), .res (kinfolkref01_One_out t3), .res (kinfolkref01_Pair_out t4 t3 t6)]) (.k0 (an_ h1 (an_ h2 (an_ (kinfolkref01_One_runs _ h3) (an_ (kinfolkref01_Zero_runs _ h4) (an_ (kinfolkref01_Pair_runs t3 t4 _ h5) (an_ (kinfolkref01_Zero_runs _ h4) (an_ (kinfolkref01_One_runs _ h3) (an_ (kinfolkref01_Pair_runs t4 t3 _ h6) trivial)))))))) (by kernel_rfl))
      · cases t with
        | nil =>
          cases h
        | mk n2 t3 t4 =>
          rcases cond_of h with ⟨h3, h⟩ | ⟨h3, h⟩
          · obtain ⟨⟨t5, t6⟩, h4, h⟩ := bind_of h
            obtain ⟨t7, h5, h⟩ := bind_of h
            obtain ⟨t8, h6, h⟩ := bind_of h
            obtain ⟨t9, h7, h⟩ := bind_of h
            have h := some_of h
            subst h
            exact runs_of (C := cfg) (objs := []) (sc := [.br false, .br false, .br true, .res (kinfolkref01_Split_out t2 (t5, t6)), .res (kinfolkref01_Zero_out t7), .res (kinfolkref01_Pair_out t7 t5 t8), .res (kinfolkref01_Zero_out t7), .res (kinfolkref01_Pair_out t7 t6 t9)]) (.k0 (an_ h1 (an_ h2 (an_ h3 (an_ (hrec_kinfolkref01_Split t2 _ h4) (an_ (kinfolkref01_Zero_runs _ h5) (an_ (kinfolkref01_Pair_runs t7 t5 _ h6) (an_ (kinfolkref01_Zero_runs _ h5) (an_ (kinfolkref01_Pair_runs t7 t6 _ h7) trivial)))))))) (by kernel_rfl))
          · cases t2 with
            | nil =>
              cases h
            | mk n3 t5 t6 =>
              rcases cond_of h with ⟨h4, h⟩ | ⟨h4, h⟩
              · obtain ⟨⟨t7, t8⟩, h5, h⟩ := bind_of h
                obtain ⟨t9, h6, h⟩ := bind_of h
                obtain ⟨t10, h7, h⟩ := bind_of h
                obtain ⟨t11, h8, h⟩ := bind_of h
                have h := some_of h
                subst h
                exact runs_of (C := cfg) (objs := []) (sc := [.br false, .br false, .br false, .br true, .res (kinfolkref01_Split_out (T_kinfolkref01_ID.mk n2 t3 t4) (t7, t8)), .res (kinfolkref01_Zero_out t9), .res (kinfolkref01_Pair_out t7 t9 t10), .res (kinfolkref01_Zero_out t9), .res (kinfolkref01_Pair_out t8 t9 t11)]) (.k0 (an_ h1 (an_ h2 (an_ h3 (an_ h4 (an_ (hrec_kinfolkref01_Split (T_kinfolkref01_ID.mk n2 t3 t4) _ h5) (an_ (kinfolkref01_Zero_runs _ h6) (an_ (kinfolkref01_Pair_runs t7 t9 _ h7) (an_ (kinfolkref01_Zero_runs _ h6) (an_ (kinfolkref01_Pair_runs t8 t9 _ h8) trivial))))))))) (by kernel_rfl))
              · obtain ⟨t7, h5, h⟩ := bind_of h
                obtain ⟨t8, h6, h⟩ := bind_of h
                obtain ⟨t9, h7, h⟩ := bind_of h
                have h := some_of h
                subst h
                exact runs_of (C := cfg) (objs := []) (sc := [.br false, .br false, .br false, .br false, .res (kinfolkref01_Zero_out t7), .res (kinfolkref01_Pair_out (T_kinfolkref01_ID.mk n2 t3 t4) t7 t8), .res (kinfolkref01_Zero_out t7), .res (kinfolkref01_Pair_out t7 (T_kinfolkref01_ID.mk n3 t5 t6) t9)]) (.k0 (an_ h1 (an_ h2 (an_ h3 (an_ h4 (an_ (kinfolkref01_Zero_runs _ h5) (an_ (kinfolkref01_Pair_runs (T_kinfolkref01_ID.mk n2 t3 t4) t7 _ h6) (an_ (kinfolkref01_Zero_runs _ h5) (an_ (kinfolkref01_Pair_runs t7 (T_kinfolkref01_ID.mk n3 t5 t6) _ h7) trivial)))))))) (by kernel_rfl))
noncomputable def kinfolkref01_Split : Nat → T_kinfolkref01_ID → Option (T_kinfolkref01_ID × T_kinfolkref01_ID)
  | 0, _ => none
  | N + 1, i => kinfolkref01_Split_b (kinfolkref01_Split N) i
theorem kinfolkref01_Split_runs : ∀ (N : Nat) (i : T_kinfolkref01_ID) (r_ : T_kinfolkref01_ID × T_kinfolkref01_ID), kinfolkref01_Split N i = some r_ → Runs Tryd.prog 48 [(.one (.pv (T_kinfolkref01_ID.pv i)))] [] [] (kinfolkref01_Split_out i r_)
  | 0, _, _, h => by cases h
  | N + 1, i, r_, h => kinfolkref01_Split_b_runs (kinfolkref01_Split N) (kinfolkref01_Split_runs N) i r_ h
/-! ### stamp_Join_out -/
def stamp_Join_out (a : Bool) (a2 : T_id_halves) (a3 : Int) (a4 : T_event_halves) (b : Bool) (b2 : T_id_halves) (b3 : Int) (b4 : T_event_halves) : Bool × T_id_halves × Int × T_event_halves × Int → Res
  | (r1, r2, r3, r4, r5) => ([(.agg [(.pv (.bool r1)), (.pv (T_id_halves.pv r2)), (.pv (.int .u64 r3)), (.pv (T_event_halves.pv r4))]), (.one (.pv (.int .i64 r5)))], [], [])
/-! ### id_Sum_out -/
def id_Sum_out (a : Bool) (a2 : T_id_halves) (b : Bool) (b2 : T_id_halves) : Bool × T_id_halves × Int → Res
  | (r1, r2, r3) => ([(.agg [(.pv (.bool r1)), (.pv (T_id_halves.pv r2))]), (.one (.pv (.int .i64 r3)))], [], [])
/-! ### id_Disjoint_out -/
def id_Disjoint_out (a : Bool) (a2 : T_id_halves) (b : Bool) (b2 : T_id_halves) : Bool → Res
  | r1 => ([(.one (.pv (.bool r1)))], [], [])
/-! ### id_Disjoint -/
noncomputable def id_Disjoint_b (rec_id_Disjoint : Bool → T_id_halves → Bool → T_id_halves → Option (Bool)) (a : Bool) (a2 : T_id_halves) (b : Bool) (b2 : T_id_halves) : Option (Bool) :=
  (id_ID_IsZero a a2).bind fun b3 =>
  bif b3 then
    some true
  else
    (id_ID_IsZero b b2).bind fun b4 =>
    bif b4 then
      some true
    else
      (id_ID_IsOne a a2).bind fun _ =>
      bif a then
        some false
      else
        (id_ID_IsOne b b2).bind fun _ =>
        bif b then
          some false
        else
          match b2 with
          | .nil =>
            none
          | .mk b5 t b6 t2 =>
            match a2 with
            | .nil =>
              none
            | .mk b7 t3 b8 t4 =>
              (rec_id_Disjoint b7 t3 b5 t).bind fun b9 =>
              bif b9 then
                (rec_id_Disjoint b8 t4 b6 t2).bind fun b10 =>
                some b10
              else
                some false
theorem id_Disjoint_b_runs (rec_id_Disjoint : Bool → T_id_halves → Bool → T_id_halves → Option (Bool)) (hrec_id_Disjoint : ∀ a a2 b b2 r_, rec_id_Disjoint a a2 b b2 = some r_ → Runs Tryd.prog 47 [(.agg [(.pv (.bool a)), (.pv (T_id_halves.pv a2))]), (.agg [(.pv (.bool b)), (.pv (T_id_halves.pv b2))])] [] [] (id_Disjoint_out a a2 b b2 r_)) (a : Bool) (a2 : T_id_halves) (b : Bool) (b2 : T_id_halves) (r_ : Bool) (h : id_Disjoint_b rec_id_Disjoint a a2 b b2 = some r_) : Runs Tryd.prog 47 [(.agg [(.pv (.bool a)), (.pv (T_id_halves.pv a2))]), (.agg [(.pv (.bool b)), (.pv (T_id_halves.pv b2))])] [] [] (id_Disjoint_out a a2 b b2 r_) := by
  unfold id_Disjoint_b at h
  obtain ⟨b3, h1, h⟩ := bind_of h
  rcases cond_of h with ⟨h2, h⟩ | ⟨h2, h⟩
  · have h := some_of h
    subst h
    exact runs_of (C := cfg) (objs := []) (sc := [.res (id_ID_IsZero_out a a2 b3), .br true, .br true]) (.k0 (an_ (id_ID_IsZero_runs a a2 _ h1) (an_ h2 (an_ (rfl : true = true) trivial))) (by kernel_rfl))
  · obtain ⟨b4, h3, h⟩ := bind_of h
    rcases cond_of h with ⟨h4, h⟩ | ⟨h4, h⟩
    · have h := some_of h
      subst h
      exact runs_of (C := cfg) (objs := []) (sc := [.res (id_ID_IsZero_out a a2 b3), .br false, .res (id_ID_IsZero_out b b2 b4), .br true]) (.k0 (an_ (id_ID_IsZero_runs a a2 _ h1) (an_ h2 (an_ (id_ID_IsZero_runs b b2 _ h3) (an_ h4 trivial)))) (by kernel_rfl))
    · obtain ⟨_, h5, h⟩ := bind_of h
      rcases cond_of h with ⟨h6, h⟩ | ⟨h6, h⟩
      · have h := some_of h
        subst h
        exact runs_of (C := cfg) (objs := []) (sc := [.res (id_ID_IsZero_out a a2 b3), .br false, .res (id_ID_IsZero_out b b2 b4), .br false, .res (id_ID_IsOne_out a a2 ()), .br true, .br true]) (.k0 (an_ (id_ID_IsZero_runs a a2 _ h1) (an_ h2 (an_ (id_ID_IsZero_runs b b2 _ h3) (an_ h4 (an_ (id_ID_IsOne_runs a a2 _ h5) (an_ h6 (an_ (rfl : true = true) trivial))))))) (by kernel_rfl))
      · obtain ⟨_, h7, h⟩ := bind_of h
        rcases cond_of h with ⟨h8, h⟩ | ⟨h8, h⟩
        · have h := some_of h
          subst h
          exact runs_of (C := cfg) (objs := []) (sc := [.res (id_ID_IsZero_out a a2 b3), .br false, .res (id_ID_IsZero_out b b2 b4), .br false, .res (id_ID_IsOne_out a a2 ()), .br false, .res (id_ID_IsOne_out b b2 ()), .br true]) (.k0 (an_ (id_ID_IsZero_runs a a2 _ h1) (an_ h2 (an_ (id_ID_IsZero_runs b b2 _ h3) (an_ h4 (an_ (id_ID_IsOne_runs a a2 _ h5) (an_ h6 (an_ (id_ID_IsOne_runs b b2 _ h7) (an_ h8 trivial)))))))) (by kernel_rfl))
        · cases b2 with
          | nil =>
            cases h
          | mk b5 t b6 t2 =>
            cases a2 with
            | nil =>
              cases h
            | mk b7 t3 b8 t4 =>
              obtain ⟨b9, h9, h⟩ := bind_of h
              rcases cond_of h with ⟨h10, h⟩ | ⟨h10, h⟩
              · obtain ⟨b10, h11, h⟩ := bind_of h
                have h := some_of h
                subst h
                exact runs_of (C := cfg) (objs := []) (sc := [.res (id_ID_IsZero_out a (T_id_halves.mk b7 t3 b8 t4) b3), .br false, .res (id_ID_IsZero_out b (T_id_halves.mk b5 t b6 t2) b4), .br false, .res (id_ID_IsOne_out a (T_id_halves.mk b7 t3 b8 t4) ()), .br false, .res (id_ID_IsOne_out b (T_id_halves.mk b5 t b6 t2) ()), .br false, .res (id_Disjoint_out b7 t3 b5 t b9), .br true, .res (id_Disjoint_out b8 t4 b6 t2 b10)]) (.k1 (an_ (id_ID_IsZero_runs a (T_id_halves.mk b7 t3 b8 t4) _ h1) (an_ h2 (an_ (id_ID_IsZero_runs b (T_id_halves.mk b5 t b6 t2) _ h3) (an_ h4 (an_ (id_ID_IsOne_runs a (T_id_halves.mk b7 t3 b8 t4) _ h5) (an_ h6 (an_ (id_ID_IsOne_runs b (T_id_halves.mk b5 t b6 t2) _ h7) (an_ h8 (an_ (hrec_id_Disjoint b7 t3 b5 t _ h9) (an_ h10 (an_ (hrec_id_Disjoint b8 t4 b6 t2 _ h11) trivial))))))))))) (by kernel_rfl) (by kernel_rfl))
              · have h := some_of h
                subst h
                exact runs_of (C := cfg) (objs := []) (sc := [.res (id_ID_IsZero_out a (T_id_halves.mk b7 t3 b8 t4) b3), .br false, .res (id_ID_IsZero_out b (T_id_halves.mk b5 t b6 t2) b4), .br false, .res (id_ID_IsOne_out a (T_id_halves.mk b7 t3 b8 t4) ()), .br false, .res (id_ID_IsOne_out b (T_id_halves.mk b5 t b6 t2) ()), .br false, .res (id_Disjoint_out b7 t3 b5 t b9), .br false]) (.k1 (an_ (id_ID_IsZero_runs a (T_id_halves.mk b7 t3 b8 t4) _ h1) (an_ h2 (an_ (id_ID_IsZero_runs b (T_id_halves.mk b5 t b6 t2) _ h3) (an_ h4 (an_ (id_ID_IsOne_runs a (T_id_halves.mk b7 t3 b8 t4) _ h5) (an_ h6 (an_ (id_ID_IsOne_runs b (T_id_halves.mk b5 t b6 t2) _ h7) (an_ h8 (an_ (hrec_id_Disjoint b7 t3 b5 t _ h9) (an_ h10 trivial)))))))))) (by kernel_rfl) (by kernel_rfl))
noncomputable def id_Disjoint : Nat → Bool → T_id_halves → Bool → T_id_halves → Option (Bool)
  | 0, _, _, _, _ => none
  | N + 1, a, a2, b, b2 => id_Disjoint_b (id_Disjoint N) a a2 b b2
theorem id_Disjoint_runs : ∀ (N : Nat) (a : Bool) (a2 : T_id_halves) (b : Bool) (b2 : T_id_halves) (r_ : Bool), id_Disjoint N a a2 b b2 = some r_ → Runs Tryd.prog 47 [(.agg [(.pv (.bool a)), (.pv (T_id_halves.pv a2))]), (.agg [(.pv (.bool b)), (.pv (T_id_halves.pv b2))])] [] [] (id_Disjoint_out a a2 b b2 r_)
  | 0, _, _, _, _, _, h => by cases h
  | N + 1, a, a2, b, b2, r_, h => id_Disjoint_b_runs (id_Disjoint N) (id_Disjoint_runs N) a a2 b b2 r_ h
/-! ### id_sum_out -/
def id_sum_out (a : Bool) (a2 : T_id_halves) (b : Bool) (b2 : T_id_halves) : Bool × T_id_halves → Res
  | (r1, r2) => ([(.agg [(.pv (.bool r1)), (.pv (T_id_halves.pv r2))])], [], [])
/-! ### id_sum -/
noncomputable def id_sum_b (rec_id_sum : Bool → T_id_halves → Bool → T_id_halves → Option (Bool × T_id_halves)) (a : Bool) (a2 : T_id_halves) (b : Bool) (b2 : T_id_halves) : Option (Bool × T_id_halves) :=
  (id_ID_IsZero a a2).bind fun b3 =>
  bif b3 then
    some (b, b2)
  else
    (id_ID_IsZero b b2).bind fun b4 =>
    bif b4 then
      some (a, a2)
    else
      match b2 with
      | .nil =>
        none
      | .mk b5 t b6 t2 =>
        match a2 with
        | .nil =>
          none
        | .mk b7 t3 b8 t4 =>
          (rec_id_sum b7 t3 b5 t).bind fun (b9, t5) =>
          (rec_id_sum b8 t4 b6 t2).bind fun (b10, t6) =>
          (id_pair b9 t5 b10 t6).bind fun (b11, t7) =>
          some (b11, t7)
theorem id_sum_b_runs (rec_id_sum : Bool → T_id_halves → Bool → T_id_halves → Option (Bool × T_id_halves)) (hrec_id_sum : ∀ a a2 b b2 r_, rec_id_sum a a2 b b2 = some r_ → Runs Tryd.prog 143 [(.agg [(.pv (.bool a)), (.pv (T_id_halves.pv a2))]), (.agg [(.pv (.bool b)), (.pv (T_id_halves.pv b2))])] [] [] (id_sum_out a a2 b b2 r_)) (a : Bool) (a2 : T_id_halves) (b : Bool) (b2 : T_id_halves) (r_ : Bool × T_id_halves) (h : id_sum_b rec_id_sum a a2 b b2 = some r_) : Runs Tryd.prog 143 [(.agg [(.pv (.bool a)), (.pv (T_id_halves.pv a2))]), (.agg [(.pv (.bool b)), (.pv (T_id_halves.pv b2))])] [] [] (id_sum_out a a2 b b2 r_) := by
  unfold id_sum_b at h
  obtain ⟨b3, h1, h⟩ := bind_of h
  rcases cond_of h with ⟨h2, h⟩ | ⟨h2, h⟩
  · have h := some_of h
    subst h
    exact runs_of (C := cfg) (objs := []) (sc := [.res (id_ID_IsZero_out a a2 b3), .br true]) (.k0 (an_ (id_ID_IsZero_runs a a2 _ h1) (an_ h2 trivial)) (by kernel_rfl))
  · obtain ⟨b4, h3, h⟩ := bind_of h
    rcases cond_of h with ⟨h4, h⟩ | ⟨h4, h⟩
    · have h := some_of h
      subst h
      exact runs_of (C := cfg) (objs := []) (sc := [.res (id_ID_IsZero_out a a2 b3), .br false, .res (id_ID_IsZero_out b b2 b4), .br true]) (.k0 (an_ (id_ID_IsZero_runs a a2 _ h1) (an_ h2 (an_ (id_ID_IsZero_runs b b2 _ h3) (an_ h4 trivial)))) (by kernel_rfl))
    · cases b2 with
      | nil =>
        cases h
      | mk b5 t b6 t2 =>
        cases a2 with
        | nil =>
          cases h
        | mk b7 t3 b8 t4 =>
          obtain ⟨⟨b9, t5⟩, h5, h⟩ := bind_of h
          obtain ⟨⟨b10, t6⟩, h6, h⟩ := bind_of h
          obtain ⟨⟨b11, t7⟩, h7, h⟩ := bind_of h
          have h := some_of h
          subst h
          exact runs_of (C := cfg) (objs := []) (sc := [.res (id_ID_IsZero_out a (T_id_halves.mk b7 t3 b8 t4) b3), .br false, .res (id_ID_IsZero_out b (T_id_halves.mk b5 t b6 t2) b4), .br false, .res (id_sum_out b7 t3 b5 t (b9, t5)), .res (id_sum_out b7 t3 b5 t (b9, t5)), .res (id_sum_out b7 t3 b5 t (b9, t5)), .res (id_sum_out b7 t3 b5 t (b9, t5)), .res (id_sum_out b8 t4 b6 t2 (b10, t6)), .res (id_pair_out b9 t5 b10 t6 (b11, t7))]) (.k1 (an_ (id_ID_IsZero_runs a (T_id_halves.mk b7 t3 b8 t4) _ h1) (an_ h2 (an_ (id_ID_IsZero_runs b (T_id_halves.mk b5 t b6 t2) _ h3) (an_ h4 (an_ (hrec_id_sum b7 t3 b5 t _ h5) (an_ (hrec_id_sum b7 t3 b5 t _ h5) (an_ (hrec_id_sum b7 t3 b5 t _ h5) (an_ (hrec_id_sum b7 t3 b5 t _ h5) (an_ (hrec_id_sum b8 t4 b6 t2 _ h6) (an_ (id_pair_runs b9 t5 b10 t6 _ h7) trivial)))))))))) (by kernel_rfl) (by kernel_rfl))
noncomputable def id_sum : Nat → Bool → T_id_halves → Bool → T_id_halves → Option (Bool × T_id_halves)
  | 0, _, _, _, _ => none
  | N + 1, a, a2, b, b2 => id_sum_b (id_sum N) a a2 b b2
theorem id_sum_runs : ∀ (N : Nat) (a : Bool) (a2 : T_id_halves) (b : Bool) (b2 : T_id_halves) (r_ : Bool × T_id_halves), id_sum N a a2 b b2 = some r_ → Runs Tryd.prog 143 [(.agg [(.pv (.bool a)), (.pv (T_id_halves.pv a2))]), (.agg [(.pv (.bool b)), (.pv (T_id_halves.pv b2))])] [] [] (id_sum_out a a2 b b2 r_)
  | 0, _, _, _, _, _, h => by cases h
  | N + 1, a, a2, b, b2, r_, h => id_sum_b_runs (id_sum N) (id_sum_runs N) a a2 b b2 r_ h
/-! ### id_Sum -/
noncomputable def id_Sum (N : Nat) (a : Bool) (a2 : T_id_halves) (b : Bool) (b2 : T_id_halves) : Option (Bool × T_id_halves × Int) :=
  (id_Disjoint N a a2 b b2).bind fun b3 =>
  bif b3 then
    (id_sum N a a2 b b2).bind fun (b4, t) =>
    some (b4, t, 0)
  else
    (id_Zero).bind fun _ =>
    some (false, T_id_halves.nil, 5)
theorem id_Sum_runs (N : Nat) (a : Bool) (a2 : T_id_halves) (b : Bool) (b2 : T_id_halves) (r_ : Bool × T_id_halves × Int) (h : id_Sum N a a2 b b2 = some r_) : Runs Tryd.prog 110 [(.agg [(.pv (.bool a)), (.pv (T_id_halves.pv a2))]), (.agg [(.pv (.bool b)), (.pv (T_id_halves.pv b2))])] [] [] (id_Sum_out a a2 b b2 r_) := by
  unfold id_Sum at h
  obtain ⟨b3, h1, h⟩ := bind_of h
  rcases cond_of h with ⟨h2, h⟩ | ⟨h2, h⟩
  · obtain ⟨⟨b4, t⟩, h3, h⟩ := bind_of h
    have h := some_of h
    subst h
    exact runs_of (C := cfg) (objs := []) (sc := [.res (id_Disjoint_out a a2 b b2 b3), .br false, .res (id_sum_out a a2 b b2 (b4, t))]) (.k0 (an_ (id_Disjoint_runs N a a2 b b2 _ h1) (an_ (not_of2 h2) (an_ (id_sum_runs N a a2 b b2 _ h3) trivial))) (by kernel_rfl))
  · obtain ⟨_, h3, h⟩ := bind_of h
    have h := some_of h
    subst h
    exact runs_of (C := cfg) (objs := []) (sc := [.res (id_Disjoint_out a a2 b b2 b3), .br true, .res (id_Zero_out ())]) (.k0 (an_ (id_Disjoint_runs N a a2 b b2 _ h1) (an_ (not_of h2) (an_ (id_Zero_runs _ h3) trivial))) (by kernel_rfl))
/-! ### event_Join_out -/
def event_Join_out (a : Int) (a2 : T_event_halves) (b : Int) (b2 : T_event_halves) : Int × T_event_halves → Res
  | (r1, r2) => ([(.agg [(.pv (.int .u64 r1)), (.pv (T_event_halves.pv r2))])], [], [])

end Go.Proofs.YtjjakdmcnkldoaaDoor
